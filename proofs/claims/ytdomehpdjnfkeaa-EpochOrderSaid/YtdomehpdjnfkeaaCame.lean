/- Slices of ints that came in, appended to a row; several ints appended at once. -/
import Derived.Test.YtdomehpdjnfkeaaLongs
import Derived.Test.YtdomehpdjnfkeaaArgs
set_option maxRecDepth 20000
set_option linter.unusedVariables false
set_option linter.unusedSimpArgs false
namespace Go.PM
open Go.RowKit
/-- u is a slice of m elements, the first at b, off. -/
def SlOf (u : Value) (m b off : Nat) : Prop := ∃ ra c, u = .slice ra m c ∧ (0 < m → ra = some ⟨b, off, none⟩)
section
variable {P : Program} {T E : TypeId} {w : World}
theorem Recs.sl {i0 : TypeInfo} (hT : P.underlying T = some (.slice E)) (hi0 : P.info? E = some i0) {k m b off : Nat} {f : Nat → Nat → Int} {ra : Option Addr} {n c : Nat} (h : Recs P T k w (.slice ra n c) m b off f) : SlOf (.slice ra n c) m b off := by
  have h1 := h.len w 0
  rw [run_len_slice hT] at h1
  injection h1 with h1 _
  injection h1 with _ h1
  obtain rfl : n = m := by omega
  refine ⟨ra, c, rfl, fun hm => ?_⟩
  have h2 := h.idx w 0 hm
  cases ra with
  | none =>
    simp [Instr.indexAt, run_underlying hT, asIntOf, hm, sizeOf, typeInfo, hi0] at h2
    cases h2
  | some a =>
    have h3 : a.add 0 = a := by simp [Addr.add]
    have h4 : (0 : Int) < n := by omega
    simp [Instr.indexAt, run_underlying hT, asIntOf, hm, sizeOf, typeInfo, hi0, h3] at h2
    exact congrArg some h2
theorem run_append_zero (w : World) (t ty : TypeId) {i : TypeInfo} (ht : P.underlying t = some (.slice E)) (hi : P.info? E = some i) (base : Option Addr) (n cap : Nat) (hle : n ≤ cap) (y : Option Addr) (c : Nat) :
    (Builtin.append_ #[t, t] ty #[.slice base n cap, .slice y 0 c]).run P w = .ok (.slice base n cap) w := by
  cases base <;> cases y <;> simp [Builtin.append_, run_underlying ht, sizeOf, typeInfo, hi, Builtin.lenOf, Builtin.firstCells, loadCells, loadCellsFrom, storeCells, hle]
end
end Go.PM
namespace Go.Proofs.Ytdomehpdjnfkeaa
open Go.RowKit Go.PM
/-- append(v, u..): u a slice of ints that came in. -/
theorem wpList_append_recs {ops : Array Oper} {rest : List Oper} {o : Oper} {a : Act} {Q : Exit → Act → World → Prop} {w0 : World} {own : Nat → Nat} {k n m b off : Nat} {v u : Value} {xs : List Int} (hgd : o.guard = none) (s y : Operand)
    (ho : o.op = .call { callee := .builtin .append, args := #[s, y], argTypes := #[33, 33] })
    (hs : a.eval s = v) (hrow : Row w0 own k 3 1 v n (irow xs)) (hx : a.eval y = u) (hu : SlOf u m b off) (g : Nat → Int) (hc : ∀ i, i < m → w0.cell? ⟨b, off + i, none⟩ = some (.int .i64 (g i)))
    (hb : (n + m) * 8 ≤ 140737488355328)
    (h : ∀ v' w' own', Row w' own' k 3 1 v' (n + m) (irow (xs ++ (List.range m).map g)) → Ext (fun c => c = k) w0 w' own own' → wpList Try.prog ops Q rest (a.put o.dst v') w') :
    wpList Try.prog ops Q (o :: rest) a w0 := by
  obtain ⟨i0, hi0, hz0, hz1, hz2⟩ := parts_intL
  obtain ⟨ra, c, rfl, hra⟩ := hu
  have hb1 : n + m ≤ maxLen := by unfold maxLen; omega
  by_cases hm : 0 < m
  · obtain rfl := hra hm
    refine wpList_append_row hgd s y 33 ho i0 (.int .i64 0) 8 Try.underlying33 hi0 hz0 hz1 hz2 rfl (by decide) hs hrow ⟨b, off, none⟩ m c (irow ((List.range m).map g)) hx (by simp [irow]) ?_ ?_ hb1 hb ?_
    · intro j z hj
      have hadd : (⟨b, off, none⟩ : Addr).add j = ⟨b, off + j, none⟩ := by
        unfold Addr.add
        split
        · rename_i h0; rw [h0, Nat.add_zero]
        · rfl
      rw [hadd]
      simp only [irow, List.map_map, List.getElem?_map] at hj
      cases hr : (List.range m)[j]? with
      | none => rw [hr] at hj; cases hj
      | some q =>
        rw [hr] at hj
        obtain ⟨h1, h2⟩ := List.getElem?_eq_some_iff.1 hr
        rw [List.getElem_range] at h2
        subst h2
        rw [hc j (by simpa using h1)]
        exact hj
    · intro z hz
      simp only [irow, List.mem_map] at hz
      obtain ⟨q, _, rfl⟩ := hz
      rfl
    · intro v' w' h1 h2 _
      refine h v' w' _ ?_ h2
      simpa [irow] using h1
  · obtain rfl : m = 0 := by omega
    refine wpList_plain hgd fun K hK => ?_
    obtain ⟨rb, rc, rfl⟩ := hrow.shape
    have hle : n ≤ rc := by
      obtain ⟨_, ⟨h2, rfl⟩ | ⟨_, _, _, h2, _, hle, _⟩⟩ := hrow
      · omega
      · injection h2 with _ _ h2; omega
    have hr := run_append_zero (P := Try.prog) w0 33 o.type Try.underlying33 hi0 rb n rc hle ra c
    unfold Oper.wp execOp
    simp only [ho, resolve, invoke, builtin, Sem.run_bind, Sem.run_pure, Result.andThen_ok, List.map_toArray, List.map_cons, List.map_nil, hs, hx, hr]
    exact hK _ _ (h _ w0 own (by simpa using hrow) Ext.refl)
/-- append(v, x, y, ..): the new ints in a block that was just made. -/
theorem wpList_append_news {ops : Array Oper} {rest : List Oper} {o : Oper} {a : Act} {Q : Exit → Act → World → Prop} {w0 : World} {own : Nat → Nat} {k n : Nat} {v : Value} {xs : List Int} (hgd : o.guard = none) (s y : Operand)
    (ho : o.op = .call { callee := .builtin .append, args := #[s, y], argTypes := #[33, 33] })
    (ys : List Int) (cs : Array Value) (hcs : cs = (irow ys).toArray) (hs : a.eval s = v) (hrow : Row w0 own k 3 1 v n (irow xs))
    {q m c : Nat} (hx : a.eval y = .slice (some ⟨q, 0, none⟩) m c) (hm : m = ys.length) (hq : q = w0.heap.size)
    (hb : (n + m) * 8 ≤ 140737488355328)
    (h : ∀ v' w' own', Row w' own' k 3 1 v' (n + m) (irow (xs ++ ys)) → Ext (fun c => c = k) w0 w' own own' → wpList Try.prog ops Q rest (a.put o.dst v') w') :
    wpList Try.prog ops Q (o :: rest) a (w0.alloc (.cells cs 3)) := by
  subst hq
  subst hcs
  subst hm
  obtain ⟨i0, hi0, hz0, hz1, hz2⟩ := parts_intL
  have hb1 : n + ys.length ≤ maxLen := by unfold maxLen; omega
  refine wpList_append_row hgd s y 33 ho i0 (.int .i64 0) 8 Try.underlying33 hi0 hz0 hz1 hz2 rfl (by decide) hs (hrow.alloc _) ⟨w0.heap.size, 0, none⟩ ys.length c (irow ys) hx (by simp [irow]) ?_ ?_ hb1 hb ?_
  · intro j z hj
    have hadd : (⟨w0.heap.size, 0, none⟩ : Addr).add j = ⟨w0.heap.size, j, none⟩ := by
      unfold Addr.add
      split
      · rename_i h0; rw [h0]
      · show (⟨w0.heap.size, 0 + j, none⟩ : Addr) = _; rw [Nat.zero_add]
    rw [hadd]
    have := (Blk.new (own := ow own w0.heap.size 0) (k := 0) w0 (.cells (irow ys).toArray 3) (ow_ge (Nat.le_refl _))).cell j
    rw [this]
    simpa using hj
  · intro z hz
    simp only [irow, List.mem_map] at hz
    obtain ⟨q, _, rfl⟩ := hz
    rfl
  · intro v' w' h1 h2 _
    refine h v' w' _ ?_ ((Ext.refl.alloc _).trans h2)
    simpa [irow] using h1
end Go.Proofs.Ytdomehpdjnfkeaa
