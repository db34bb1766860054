/- Rows of strings. -/
import Derived.Test.YtkfinhakhhiabaaLongs
set_option maxRecDepth 20000
set_option linter.unusedVariables false
set_option linter.unusedSimpArgs false
namespace Go.PM
open Go.RowKit
/-- A row of strings. -/
def srow (xs : List ByteArray) : List Value := xs.map Value.string
theorem Row.srow_at {w : World} {own : Nat → Nat} {k : Nat} {E : TypeId} {a : Option Addr} {n c : Nat} {xs : List ByteArray} (h : Row w own k E 1 (.slice a n c) n (srow xs)) {i : Nat} (hi : i < n) :
    ∃ g, a = some ⟨g, 0, none⟩ ∧ g < w.heap.size ∧ own g = k ∧ ∃ hx : i < xs.length, w.cell? ⟨g, i, none⟩ = some (.string xs[i]) := by
  obtain ⟨g, cap, cur, hv, hb, _, _, _, hc⟩ := h.cells (by omega)
  injection hv with hv1
  have hl : xs.length = n := by have := h.1; simpa [srow] using this
  refine ⟨g, hv1, hb.lt, hb.col, by omega, ?_⟩
  rw [hc i (by omega), srow, List.getElem?_map, List.getElem?_eq_getElem (by omega)]
  rfl
end Go.PM
namespace Go.Proofs.Ytkfinhakhhiabaa
open Go.RowKit Go.PM
theorem info_strL : (Try.prog.info? 9).map (fun i => (i.zero, i.size, i.bytes)) = some (some (.string ByteArray.empty), 1, 16) := by kernel_rfl
theorem parts_strL : ∃ i, Try.prog.info? 9 = some i ∧ i.zero = some (.string ByteArray.empty) ∧ i.size = 1 ∧ i.bytes = 16 := by
  have h := info_strL
  cases hx : Try.prog.info? 9 with
  | none => rw [hx] at h; cases h
  | some i =>
    rw [hx] at h
    have := Option.some.inj h
    injection this with h1 h2
    injection h2 with h2 h3
    exact ⟨i, rfl, h1, h2, h3⟩
theorem wpList_append_srow {ops : Array Oper} {rest : List Oper} {o : Oper} {a : Act} {Q : Exit → Act → World → Prop} {w0 : World} {own : Nat → Nat} {k n : Nat} {v : Value} {xs : List ByteArray} (hgd : o.guard = none) (s y : Operand)
    (ho : o.op = .call { callee := .builtin .append, args := #[s, y], argTypes := #[22, 22] })
    (x : ByteArray) (hs : a.eval s = v) (hrow : Row w0 own k 9 1 v n (srow xs)) (hn : n ≤ 4000000000000)
    {q : Nat} (hx : a.eval y = .slice (some ⟨q, 0, none⟩) 1 1) (hq : q = w0.heap.size)
    (h : ∀ v' w' own', Row w' own' k 9 1 v' (n + 1) (srow (xs ++ [x])) → Ext (fun c => c = k) w0 w' own own' → wpList Try.prog ops Q rest (a.put o.dst v') w') :
    wpList Try.prog ops Q (o :: rest) a (w0.alloc (.cells #[.string x] 9)) := by
  subst hq
  obtain ⟨i0, hi0, hz0, hz1, hz2⟩ := parts_strL
  have hb1 : n + 1 ≤ maxLen := by unfold maxLen; omega
  have hb2 : (n + 1) * 16 ≤ 140737488355328 := by omega
  refine wpList_append_row hgd s y 22 ho i0 (.string ByteArray.empty) 16 Try.underlying22 hi0 hz0 hz1 hz2 rfl (by decide) hs (hrow.alloc _) ⟨w0.heap.size, 0, none⟩ 1 1 [.string x] hx rfl (one_cell (new_cell rfl)) (one_ok rfl) hb1 hb2 ?_
  intro v' w' h1 h2 _
  refine h v' w' _ ?_ ((Ext.refl.alloc _).trans h2)
  simpa [srow] using h1
end Go.Proofs.Ytkfinhakhhiabaa
