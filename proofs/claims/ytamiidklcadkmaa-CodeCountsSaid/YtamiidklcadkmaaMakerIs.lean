/- code.is, code.atom: what kind of body is it? -/
import Derived.Test.YtamiidklcadkmaaMakerAdd
set_option maxRecDepth 20000
set_option linter.unusedVariables false
set_option linter.unusedSimpArgs false
namespace Go.Proofs.Ytamiidklcadkmaa
open Go.RowKit Go.PM
theorem str_ne {a b : ByteArray} (h : a ≠ b) : (a.toList == b.toList) = false := by
  rw [beq_eq_false_iff_ne]
  intro e
  exact h (WideShapes.bytes_inj (by rw [← ByteArray.toList_eq, ← ByteArray.toList_eq]; exact e))
/-- Compound, of this name and two arguments? -/
def Tm.two (t : Tm) (nm : ByteArray) : Bool := decide (t.k = 4) && (decide (t.s = nm) && decide (t.ls.length = 2))
theorem is_any (t : Tm) (nm : ByteArray) (w : World) (C : Nat → Prop) (v : Value) (hv : TmV w C t v) :
    Calls Try.prog 45 #[v, .string nm] w fun e w' => e = .returned (.bool (Tm.two t nm)) ∧ Below w.heap.size w w' := by
  obtain ⟨a2, l2, c2, rfl, wk, ws, wx, hat⟩ := TmV_open hv
  obtain ⟨hl2, hl3⟩ := at_len hat
  have HI := Lib.hid (show Tm.two t nm = (decide (t.k = 4) && (decide (t.s = nm) && decide (t.ls.length = 2))) from rfl)
  rw [← hl2] at HI
  clear hv hat hl2
  generalize Tm.two t nm = r at *
  generalize Tm.k t = k1 at *
  generalize Tm.s t = s1 at *
  generalize Tm.x t = x1 at *
  have HB0 := Lib.hid (fun o1 => (Below.refl w.heap.size w).alloc (Nat.le_refl _) o1)
  by_cases k4 : k1 = 4
  · subst k4
    by_cases hs : s1 = nm
    · subst hs
      by_cases hl : l2 = 2
      · subst hl
        rw [show r = true by rw [HI.out]; simp]
        go_enter Try.func45, Try.ntmps45
        go_wp2_with fail
        go_ret
        exact ⟨rfl, HB0.out _⟩
      · rw [show r = false by rw [HI.out]; simp [hl]]
        have hb : ((l2 : Int) == 2) = false := by rw [beq_eq_false_iff_ne]; omega
        clear hl
        go_enter Try.func45, Try.ntmps45
        go_wp2_with fail
        go_ret
        exact ⟨rfl, HB0.out _⟩
    · rw [show r = false by rw [HI.out]; simp [hs]]
      have hb := str_ne hs
      go_enter Try.func45, Try.ntmps45
      go_wp2_with fail
      go_ret
      exact ⟨rfl, HB0.out _⟩
  · rw [show r = false by rw [HI.out]; simp [k4]]
    have hb : (k1 == 4) = false := by simp [k4]
    clear k4
    go_enter Try.func45, Try.ntmps45
    go_wp2_with fail
    go_ret
    exact ⟨rfl, HB0.out _⟩
/-- An atom of one of these names? -/
def Tm.atom (t : Tm) (ns : List ByteArray) : Bool := decide (t.k = 3) && ns.any (fun n => decide (t.s = n))
def AtInv (w0 : World) (ns : List ByteArray) (s : ByteArray) (b : Bool) (g : Nat) (iv : Value) (w : World) : Prop :=
  ∃ i : Nat, iv = .int .i64 i ∧ i + g = ns.length ∧ (ns.drop i).any (fun n => decide (s = n)) = b ∧ w = w0
def AtInv2 (w0 : World) (ns : List ByteArray) (g : Nat) (iv : Value) (w : World) : Prop := ∃ i : Nat, iv = .int .i64 i ∧ i + g = ns.length ∧ w = w0
set_option maxHeartbeats 1000000 in
theorem atom_any (t : Tm) (ns : List ByteArray) (w : World) (C : Nat → Prop) (v : Value) (hv : TmV w C t v) (g c : Nat) (hg : g < w.heap.size) (hns : ∀ i (h : i < ns.length), w.cell? ⟨g, i, none⟩ = some (.string ns[i])) (hl : ns.length ≤ 1000) :
    Calls Try.prog 44 #[v, .slice (some ⟨g, 0, none⟩) ns.length c] w fun e w' => e = .returned (.bool (Tm.atom t ns)) ∧ Below w.heap.size w w' := by
  obtain ⟨a2, l2, c2, rfl, wk, ws, wx, hat⟩ := TmV_open hv
  have HI := Lib.hid (show Tm.atom t ns = (decide (t.k = 3) && ns.any (fun n => decide (t.s = n))) from rfl)
  clear hv hat
  generalize Tm.atom t ns = r at *
  generalize Tm.k t = k1 at *
  generalize Tm.s t = s1 at *
  generalize Tm.x t = x1 at *
  have hB0 := (Below.refl w.heap.size w).alloc (Nat.le_refl _) (.cells #[.int .i64 k1, .string s1, .int .i64 x1, .slice a2 l2 c2] 24)
  have HNS : Hid (∀ i (h : i < ns.length), (w.alloc (.cells #[.int .i64 k1, .string s1, .int .i64 x1, .slice a2 l2 c2] 24)).cell? ⟨g, i, none⟩ = some (.string ns[i])) := Lib.hid fun i h => by rw [hB0.cell (p := ⟨g, i, none⟩) hg]; exact hns i h
  have hb := Blk.new (own := fun _ => 0) (k := 0) w (.cells #[.int .i64 k1, .string s1, .int .i64 x1, .slice a2 l2 c2] 24) rfl
  have b0 : (w.alloc (.cells #[.int .i64 k1, .string s1, .int .i64 x1, .slice a2 l2 c2] 24)).cell? ⟨w.heap.size, 0, none⟩ = some (.int .i64 k1) := hb.cell 0
  have b1 : (w.alloc (.cells #[.int .i64 k1, .string s1, .int .i64 x1, .slice a2 l2 c2] 24)).cell? ⟨w.heap.size, 1, none⟩ = some (.string s1) := hb.cell 1
  have HB0 := Lib.hid hB0
  clear hns hB0 hb
  by_cases k3 : k1 = 3
  · subst k3
    have HR := Lib.hid (show ns.any (fun n => decide (s1 = n)) = r by rw [HI.out]; simp)
    go_enter Try.func44, Try.ntmps44
    go_wp2_with fail
    generalize w.alloc (.cells #[.int .i64 3, .string s1, .int .i64 x1, .slice a2 l2 c2] 24) = w1 at *
    go_loopg [6, 9] ns.length (fun g u6 iv wr => AtInv w1 ns s1 r g iv wr)
    case atStart => exact ⟨0, rfl, by omega, HR.out, rfl⟩
    case round =>
      obtain ⟨i, rfl, hi, hr, rfl⟩ := hrel
      by_cases hlt : i < ns.length
      · have hlt2 : (i : Int) < ns.length := by omega
        have hc := HNS.out i hlt
        rw [List.drop_eq_getElem_cons hlt, List.any_cons] at hr
        by_cases he : s1 = ns[i]
        · have hr : r = true := by rw [← hr, decide_eq_true he]; rfl
          subst hr
          rw [← he] at hc
          clear he
          go_wp2_with fail
          go_ret
          exact ⟨rfl, HB0.out⟩
        · have HR2 : Hid ((ns.drop (i + 1)).any (fun n => decide (s1 = n)) = r) := Lib.hid (by rw [← hr, decide_eq_false he]; rfl)
          have hb := str_ne he
          clear hr he
          generalize ns[i] = y at *
          go_wp2_with fail
          go_roundg (ns.length - (i + 1))
          case measure => omega
          case rel => exact ⟨i + 1, by go_num, by omega, HR2.out, rfl⟩
      · obtain rfl : i = ns.length := by omega
        rw [List.drop_length] at hr
        have hr : r = false := by rw [← hr]; rfl
        subst hr
        go_wp2_with fail
        go_ret
        exact ⟨rfl, HB0.out⟩
  · have HR := Lib.hid (show r = false by rw [HI.out]; simp [k3])
    have hb : (k1 == 3) = false := by simp [k3]
    clear k3
    go_enter Try.func44, Try.ntmps44
    go_wp2_with fail
    generalize w.alloc (.cells #[.int .i64 k1, .string s1, .int .i64 x1, .slice a2 l2 c2] 24) = w1 at *
    go_loopg [6, 9] ns.length (fun g u6 iv wr => AtInv2 w1 ns g iv wr)
    case atStart => exact ⟨0, rfl, by omega, rfl⟩
    case round =>
      obtain ⟨i, rfl, hi, rfl⟩ := hrel
      by_cases hlt : i < ns.length
      · have hlt2 : (i : Int) < ns.length := by omega
        have hc := HNS.out i hlt
        generalize ns[i] = y at *
        go_wp2_with fail
        go_roundg (ns.length - (i + 1))
        case measure => omega
        case rel => exact ⟨i + 1, by go_num, by omega, rfl⟩
      · obtain rfl : i = ns.length := by omega
        go_wp2_with fail
        go_ret
        exact ⟨by rw [HR.out]; rfl, HB0.out⟩
end Go.Proofs.Ytamiidklcadkmaa
