/- Layer 2: plain facts about plain arenas. -/
import Derived.Test.YtemibcglhbjaoaaCellsLaw
set_option linter.unusedVariables false
set_option linter.unusedSimpArgs false
namespace Go.Proofs.Ytemibcglhbjaoaa
open Go.RowKit Go.PM

theorem AV.find_none_of_gt {V : AV} (h : V.Ok) {b : Int} (hb : V.made < b ∨ b < 1) : V.find b = none := by
  unfold AV.find
  rw [Option.map_eq_none_iff, List.find?_eq_none]
  intro p hp hk
  have := h.ents p hp
  simp only [beq_iff_eq] at hk
  omega
theorem AV.find_alloc_new {V : AV} (h : V.Ok) {n : Int} (he : V.allocErr n = 0) : (V.alloc n).find (V.made + 1) = some (List.replicate n.toNat 0) := by
  have h0 := AV.find_none_of_gt h (b := V.made + 1) (by omega)
  unfold AV.find at h0
  rw [Option.map_eq_none_iff] at h0
  simp only [AV.alloc, he, if_true, AV.find, List.find?_append, h0]
  simp
theorem AV.find_alloc_old {V : AV} {n b : Int} (hb : b ≠ V.made + 1) : (V.alloc n).find b = V.find b := by
  by_cases he : V.allocErr n = 0
  · simp only [AV.alloc, he, if_true, AV.find, List.find?_append]
    have : ((V.made + 1 : Int) == b) = false := by simp; omega
    simp [this]
  · simp [AV.alloc, he]
theorem AV.made_alloc {V : AV} {n : Int} (he : V.allocErr n = 0) : (V.alloc n).made = V.made + 1 ∧ (V.alloc n).live = V.live + n ∧ (V.alloc n).most = V.most ∧ (V.alloc n).faults = V.faults := by
  simp [AV.alloc, he]
theorem AV.allocErr_eq {V : AV} {n : Int} (h1 : 1 ≤ n) (h2 : n ≤ 256) (h3 : n ≤ V.most - V.live) : V.allocErr n = 0 := by
  unfold AV.allocErr
  rw [if_neg (by omega), if_neg (by omega)]
theorem AV.allocErr_arg {V : AV} {n : Int} (h1 : n < 1 ∨ 256 < n) : V.allocErr n = 1 := by
  unfold AV.allocErr
  rw [if_pos h1]
theorem AV.free_le {V : AV} (h : V.Ok) (b : Int) : (V.free b).made = V.made ∧ (V.free b).most = V.most ∧ (V.free b).live ≤ V.live ∧ (V.free b).faults ≤ V.faults + 1 ∧ V.faults ≤ (V.free b).faults := by
  unfold AV.free
  cases hx : V.find b with
  | none => exact ⟨rfl, rfl, Int.le_refl _, Int.le_refl _, by show V.faults ≤ V.faults + 1; omega⟩
  | some xs => exact ⟨rfl, rfl, by show V.live - xs.length ≤ V.live; omega, by show V.faults ≤ V.faults + 1; omega, Int.le_refl _⟩
theorem touch_of_find {V : AV} {b : Int} {xs : List Int} (h : V.find b = some xs) : V.touch b = V := by simp [AV.touch, h]
theorem AV.val_rep {V : AV} {b : Int} {n : Nat} (h : V.find b = some (List.replicate n 0)) (i : Int) : V.val b i = 0 := by
  simp only [AV.val, h]
  split
  · rw [List.getD_eq_getElem?_getD, List.getElem?_replicate]
    split <;> rfl
  · rfl
theorem AV.err_rep {V : AV} {b : Int} {n : Nat} (h : V.find b = some (List.replicate n 0)) {i : Int} (hi : 0 ≤ i ∧ i < n) : V.err b i = 0 := by
  simp only [AV.err, h, List.length_replicate, if_pos hi]
theorem AV.err_rep_out {V : AV} {b : Int} {n : Nat} (h : V.find b = some (List.replicate n 0)) {i : Int} (hi : ¬ (0 ≤ i ∧ i < n)) : V.err b i = 1 := by
  simp only [AV.err, h, List.length_replicate, if_neg hi]
end Go.Proofs.Ytemibcglhbjaoaa
