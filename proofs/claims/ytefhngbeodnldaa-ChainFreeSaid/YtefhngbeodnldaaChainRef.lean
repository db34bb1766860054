/- The document's answer for layer 5: plain lists. -/
import Derived.Test.YtefhngbeodnldaaChainSl
import Derived.Test.YtefhngbeodnldaaPlan5
set_option maxRecDepth 20000
set_option linter.unusedVariables false
set_option linter.unusedSimpArgs false
namespace Go.Proofs.Ytefhngbeodnldaa
open Go.RowKit Go.PM
section
variable {w : World}
theorem Vw.open {v : Value} {xs : List Int} (hv : Vw w v xs) : ∃ a c, v = .slice a xs.length c ∧ xs.length ≤ 1000 ∧ ∀ j (hj : j < xs.length), ∃ g off, a = some ⟨g, off, none⟩ ∧ g < w.heap.size ∧ w.cell? ⟨g, off + j, none⟩ = some (.int .i64 xs[j]) := by
  obtain ⟨hlen, h⟩ := hv
  rcases h with ⟨rfl, rfl⟩ | ⟨g, off, c, rfl, hc, hm, hg, hcell⟩
  · exact ⟨none, 0, rfl, hlen, fun j hj => by simp at hj⟩
  · exact ⟨_, c, rfl, hlen, fun j hj => ⟨g, off, rfl, hg, hcell j _ (List.getElem?_eq_getElem hj)⟩⟩
def SlInv (w0 : World) (n : Nat) (p : Nat → Prop) (g : Nat) (iv : Value) (w : World) : Prop := ∃ i : Nat, iv = .int .i64 i ∧ i + g = n ∧ Below w0.heap.size w0 w ∧ ∀ j, j < i → p j
set_option maxHeartbeats 1000000 in
theorem HasLong_any {v : Value} {xs : List Int} (hv : Vw w v xs) (x : Int) : Calls Try.prog 31 #[v, .int .i64 x] w fun e w' => e = .returned (.bool (xs.contains x)) ∧ Below w.heap.size w w' := by
  obtain ⟨a, c, rfl, hlen, hcell⟩ := hv.open
  have HC := Lib.hid hcell
  have HT := Lib.hid (fun i (hi : i < xs.length) (h : xs[i] = x) => (show xs.contains x = true by simp; rw [← h]; exact List.getElem_mem hi))
  have HF := Lib.hid (fun (h : ∀ j (hj : j < xs.length), xs[j] ≠ x) => (show xs.contains x = false by
    simp
    intro hm
    obtain ⟨j, hj, he⟩ := List.getElem_of_mem hm
    exact h j hj he))
  clear hcell hv
  generalize xs.contains x = r at *
  go_enter Try.func31, Try.ntmps31
  go_wp2_with fail
  go_loopg [5] xs.length (fun g iv wr => SlInv w xs.length (fun j => ∀ hj : j < xs.length, xs[j] ≠ x) g iv wr)
  case atStart => exact ⟨0, rfl, by omega, Below.refl _ _, fun j hj => by omega⟩
  case round =>
    obtain ⟨i, rfl, hi, hB, hb⟩ := hrel
    have HB := Lib.hid hB
    by_cases hlt : i < xs.length
    · have hlt2 : (i : Int) < (xs.length : Int) := by omega
      obtain ⟨g, off, rfl, hg, hcl⟩ := HC.out i hlt
      have hcl2 : wr.cell? ⟨g, off + i, none⟩ = some (.int .i64 xs[i]) := by rw [hB.cell (p := ⟨g, off + i, none⟩) hg]; exact hcl
      clear hcl
      by_cases he : xs[i] = x
      · have HE := Lib.hid (HT.out i hlt he)
        have heb : (xs[i] == x) = true := by simp [he]
        clear hb he hB
        generalize xs[i] = y at *
        go_wp2_with fail
        go_ret
        exact ⟨by rw [HE.out]; rfl, HB.out⟩
      · have heb : (xs[i] == x) = false := by simp [he]
        have HBB := Lib.hid (fun j (hj : j < i + 1) => (show ∀ hj : j < xs.length, xs[j] ≠ x from fun h => by
          by_cases hji : j = i
          · subst hji; exact he
          · exact hb j (by omega) h))
        clear hb he hB
        generalize xs[i] = y at *
        go_wp2_with fail
        go_roundg (xs.length - (i + 1))
        case measure => omega
        case rel => exact ⟨i + 1, by go_num, by omega, HB.out, HBB.out⟩
    · obtain rfl : i = xs.length := by omega
      have HE := Lib.hid (HF.out fun j hj => hb j hj hj)
      clear hb hB
      go_wp2_with fail
      go_ret
      exact ⟨by rw [HE.out]; rfl, HB.out⟩
set_option maxHeartbeats 2000000 in
theorem SameLongs_any {v u : Value} {xs ys : List Int} (hv : Vw w v xs) (hu : Vw w u ys) : Calls Try.prog 16 #[v, u] w fun e w' => e = .returned (.bool (decide (xs = ys))) ∧ Below w.heap.size w w' := by
  obtain ⟨a, c, rfl, hlen, hcell⟩ := hv.open
  obtain ⟨a2, c2, rfl, hlen2, hcell2⟩ := hu.open
  have HC := Lib.hid hcell
  have HC2 := Lib.hid hcell2
  clear hcell hcell2 hv hu
  by_cases hl : xs.length = ys.length
  · have HT := Lib.hid (fun (h : ∀ j (hj : j < xs.length), ∀ hj2 : j < ys.length, xs[j] = ys[j]) => (show decide (xs = ys) = true from decide_eq_true (List.ext_getElem hl (fun j h1 h2 => h j h1 h2))))
    have HF := Lib.hid (fun i (h1 : i < xs.length) (h2 : i < ys.length) (h : xs[i] ≠ ys[i]) => (show decide (xs = ys) = false from decide_eq_false (fun e => by subst e; exact h rfl)))
    have HL := Lib.hid hl
    have hlb : ((xs.length : Int) != (ys.length : Int)) = false := by rw [hl]; simp
    clear hl
    generalize decide (xs = ys) = r at *
    go_enter Try.func16, Try.ntmps16
    go_wp2_with fail
    go_loopg [5] xs.length (fun g iv wr => SlInv w xs.length (fun j => ∀ hj : j < xs.length, ∀ hj2 : j < ys.length, xs[j] = ys[j]) g iv wr)
    case atStart => exact ⟨0, rfl, by omega, Below.refl _ _, fun j hj => by omega⟩
    case round =>
      obtain ⟨i, rfl, hi, hB, hb⟩ := hrel
      by_cases hlt : i < xs.length
      · have hlt2 : (i : Int) < (xs.length : Int) := by omega
        have hly : i < ys.length := by have := HL.out; omega
        have hlt3 : (i : Int) < (ys.length : Int) := by omega
        obtain ⟨g, off, rfl, hg, hcl⟩ := HC.out i hlt
        obtain ⟨g2, off2, rfl, hg2, hcl2⟩ := HC2.out i hly
        have d1 : wr.cell? ⟨g, off + i, none⟩ = some (.int .i64 xs[i]) := by rw [hB.cell (p := ⟨g, off + i, none⟩) hg]; exact hcl
        have d2 : wr.cell? ⟨g2, off2 + i, none⟩ = some (.int .i64 ys[i]) := by rw [hB.cell (p := ⟨g2, off2 + i, none⟩) hg2]; exact hcl2
        have HFI := Lib.hid (HF.out i hlt hly)
        clear hcl hcl2
        have HBN := Lib.hid (fun n => (⟨hB.os, hB.tape, hB.output, hB.size, hB.block⟩ : Below w.heap.size w (wr.drewN n)))
        by_cases he : xs[i] = ys[i]
        · have heb : (xs[i] != ys[i]) = false := by simp [he]
          have HBB := Lib.hid (fun j (hj : j < i + 1) => (show ∀ hj : j < xs.length, ∀ hj2 : j < ys.length, xs[j] = ys[j] from fun h h2 => by
            by_cases hji : j = i
            · subst hji; exact he
            · exact hb j (by omega) h h2))
          clear hb hB HFI he
          generalize xs[i] = x at *
          generalize ys[i] = y at *
          go_wp2_with fail
          go_quiet (fail)
          go_wp2_with fail
          go_roundg (xs.length - (i + 1))
          case measure => omega
          case rel => exact ⟨i + 1, by go_num, by omega, HBN.out _, HBB.out⟩
        · have heb : (xs[i] != ys[i]) = true := by simp [he]
          have HE := Lib.hid (HFI.out he)
          clear hb hB HFI he
          generalize xs[i] = x at *
          generalize ys[i] = y at *
          go_wp2_with fail
          go_quiet (fail)
          go_wp2_with fail
          go_ret
          exact ⟨by rw [HE.out]; rfl, HBN.out _⟩
      · obtain rfl : i = xs.length := by omega
        have HE := Lib.hid (HT.out fun j hj => hb j hj hj)
        have HB := Lib.hid hB
        clear hb hB
        go_wp2_with fail
        go_ret
        exact ⟨by rw [HE.out]; rfl, HB.out⟩
  · have HF := Lib.hid (show decide (xs = ys) = false from decide_eq_false (fun e => by subst e; exact hl rfl))
    have hlb : ((xs.length : Int) != (ys.length : Int)) = true := by simp; omega
    clear hl
    go_enter Try.func16, Try.ntmps16
    go_wp2_with fail
    go_ret
    exact ⟨by rw [HF.out]; rfl, Below.refl _ _⟩
end
end Go.Proofs.Ytefhngbeodnldaa
