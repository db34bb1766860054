/- Rows of ints, of any int type: each element, and a row with one turned. -/
import Derived.Test.YtefhngbeodnldaaRow
import Derived.Test.YtefhngbeodnldaaProg
set_option linter.unusedVariables false
set_option linter.unusedSimpArgs false
namespace Go.PM
open Go.RowKit
/-- A row of ints. -/
def irow (xs : List Int) : List Value := xs.map (Value.int .i64)
theorem Row.irow_at {w : World} {own : Nat → Nat} {k : Nat} {E : TypeId} {a : Option Addr} {n c : Nat} {xs : List Int} (h : Row w own k E 1 (.slice a n c) n (irow xs)) {i : Nat} (hi : i < n) :
    ∃ g, a = some ⟨g, 0, none⟩ ∧ g < w.heap.size ∧ own g = k ∧ w.frozen? ⟨g, i, none⟩ = false ∧ ∃ hx : i < xs.length, w.cell? ⟨g, i, none⟩ = some (.int .i64 xs[i]) := by
  obtain ⟨g, cap, cur, hv, hb, _, _, _, hc⟩ := h.cells (by omega)
  injection hv with hv1
  have hl : xs.length = n := by have := h.1; simpa [irow] using this
  refine ⟨g, hv1, hb.lt, hb.col, hb.free i, by omega, ?_⟩
  rw [hc i (by omega), irow, List.getElem?_map, List.getElem?_eq_getElem (by omega)]
  rfl
theorem Row.irow_set {w : World} {own : Nat → Nat} {k : Nat} {E : TypeId} {g n c : Nat} {xs : List Int} (h : Row w own k E 1 (.slice (some ⟨g, 0, none⟩) n c) n (irow xs)) {i : Nat} (hi : i < n) (y : Int) :
    Row (w.setCell ⟨g, i, none⟩ (.int .i64 y)) own k E 1 (.slice (some ⟨g, 0, none⟩) n c) n (irow (xs.set i y)) := by
  obtain ⟨h1, h2 | ⟨g', cap, cur, hv, hb, hn, hc, hs, ht⟩⟩ := h
  · cases h2.1
  · injection hv with hv1 _ hv2
    injection hv1 with hv1
    injection hv1 with hv1
    subst hv1
    subst hv2
    refine ⟨by simpa [irow] using h1, .inr ⟨g, c, cur.setIfInBounds i (.int .i64 y), rfl, hb.setCell i _, hn, hc, by simpa using hs, ?_⟩⟩
    rw [Array.toList_setIfInBounds, List.take_set, ht]
    simp [irow, List.map_set]
/-- A row stands where another block is written. -/
theorem Row.setCell_other {w : World} {own : Nat → Nat} {k : Nat} {E : TypeId} {size n : Nat} {v : Value} {xs : List Value} (h : Row w own k E size v n xs) {a : Addr} {o : Obj} (ha : w.heap[a.block]? = some o) (ho : ∀ cs, o ≠ .cells cs E (0, 0)) (x : Value) :
    Row (w.setCell a x) own k E size v n xs := by
  obtain ⟨h1, h2 | ⟨g, cap, cur, hv, hb, r⟩⟩ := h
  · exact ⟨h1, .inl h2⟩
  · refine ⟨h1, .inr ⟨g, cap, cur, hv, hb.setCell_other (fun e => ?_) x, r⟩⟩
    subst e
    rw [hb.at_] at ha
    injection ha with ha
    exact ho _ ha.symm
end Go.PM
namespace Go.Proofs.Ytefhngbeodnldaa
open Go.RowKit Go.PM
theorem info_intL : (Try.prog.info? 3).map (fun i => (i.zero, i.size, i.bytes)) = some (some (.int .i64 0), 1, 8) := by kernel_rfl
theorem parts_intL : ∃ i, Try.prog.info? 3 = some i ∧ i.zero = some (.int .i64 0) ∧ i.size = 1 ∧ i.bytes = 8 := by
  have h := info_intL
  cases hx : Try.prog.info? 3 with
  | none => rw [hx] at h; cases h
  | some i =>
    rw [hx] at h
    have := Option.some.inj h
    injection this with h1 h2
    injection h2 with h2 h3
    exact ⟨i, rfl, h1, h2, h3⟩
theorem wpList_append_irow {ops : Array Oper} {rest : List Oper} {o : Oper} {a : Act} {Q : Exit → Act → World → Prop} {w0 : World} {own : Nat → Nat} {k n : Nat} {v : Value} {xs : List Int} (hgd : o.guard = none) (s y : Operand)
    (ho : o.op = .call { callee := .builtin .append, args := #[s, y], argTypes := #[54, 54] })
    (x : Int) (hs : a.eval s = v) (hrow : Row w0 own k 3 1 v n (irow xs)) (hn : n ≤ 7000000000000)
    {q : Nat} (hx : a.eval y = .slice (some ⟨q, 0, none⟩) 1 1) (hq : q = w0.heap.size)
    (h : ∀ v' w' own', Row w' own' k 3 1 v' (n + 1) (irow (xs ++ [x])) → Ext (fun c => c = k) w0 w' own own' → wpList Try.prog ops Q rest (a.put o.dst v') w') :
    wpList Try.prog ops Q (o :: rest) a (w0.alloc (.cells #[.int .i64 x] 3)) := by
  subst hq
  obtain ⟨i0, hi0, hz0, hz1, hz2⟩ := parts_intL
  have hb1 : n + 1 ≤ maxLen := by unfold maxLen; omega
  have hb2 : (n + 1) * 8 ≤ 140737488355328 := by omega
  refine wpList_append_row hgd s y 54 ho i0 (.int .i64 0) 8 Try.underlying54 hi0 hz0 hz1 hz2 rfl (by decide) hs (hrow.alloc _) ⟨w0.heap.size, 0, none⟩ 1 1 [.int .i64 x] hx rfl (one_cell (new_cell rfl)) (one_ok rfl) hb1 hb2 ?_
  intro v' w' h1 h2 _
  refine h v' w' _ ?_ ((Ext.refl.alloc _).trans h2)
  simpa [irow] using h1
end Go.Proofs.Ytefhngbeodnldaa
