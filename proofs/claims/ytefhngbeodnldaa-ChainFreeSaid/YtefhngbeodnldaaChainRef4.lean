/- The document's answer for layer 5: Cut. -/
import Derived.Test.YtefhngbeodnldaaChainRef3
set_option maxRecDepth 20000
set_option linter.unusedVariables false
set_option linter.unusedSimpArgs false
namespace Go.Proofs.Ytefhngbeodnldaa
open Go.RowKit Go.PM
theorem contains_snoc (l : List Int) (z v : Int) : (l ++ [z]).contains v = (l.contains v || (z == v)) := by
  simp only [List.contains_append, List.contains_cons, List.contains_nil, Bool.or_false]
  rw [Bool.beq_comm]
theorem erase_snoc_gone (l : List Int) (z v : Int) (h : l.contains v = true) : (l ++ [z]).erase v = l.erase v ++ [z] := List.erase_append_left _ (by simpa using h)
theorem erase_snoc_ne (l : List Int) (z v : Int) (h : l.contains v = false) (hz : ¬ z = v) : (l ++ [z]).erase v = l.erase v ++ [z] := by
  have hn : ¬ v ∈ l := by simpa using h
  rw [List.erase_append_right _ hn, List.erase_of_not_mem hn, List.erase_cons_tail (by simpa using hz)]
  rfl
theorem erase_snoc_eq (l : List Int) (z v : Int) (h : l.contains v = false) (hz : z = v) : (l ++ [z]).erase v = l.erase v := by
  have hn : ¬ v ∈ l := by simpa using h
  subst hz
  rw [List.erase_append_right _ hn, List.erase_of_not_mem hn, List.erase_cons_head]
  simp
section
variable {w : World}
def CuInv (w2 : World) (n1 : Nat) (x : Int) (l : List Int) (g : Nat) (ov gv iv : Value) (w : World) : Prop :=
  ∃ (own : Nat → Nat) (i : Nat), iv = .int .i64 i ∧ i + g = l.length ∧ gv = .bool ((l.take i).contains x) ∧ Row w own 1 2 1 ov ((l.take i).erase x).length (irow ((l.take i).erase x)) ∧ Ext (fun c => c = 1) w2 w (fresh n1) own
def cutR (R : RB) (m : Nat) (hm : m < R.length) (x : Int) : RB := if R[m].1.contains x = true then R.set m (R[m].1.erase x, R[m].2 + 1) else R
set_option maxHeartbeats 4000000 in
theorem RefCut_any {C : Nat → Prop} {bv : Value} {R : RB} (m : Nat) (hv : RBAt w C bv R) (hm : m < R.length) (hlen : R[m].1.length ≤ 900) (hst : 0 ≤ R[m].2 ∧ R[m].2 ≤ 1000000000000000) (x : Int) :
    Calls Try.prog 14 #[bv, .int .i64 ((m : Int) + 1), .int .i64 x] w fun e w' => ∃ v', e = .returned (.tuple #[v', .bool (R[m].1.contains x)]) ∧ RefPost w C (cutR R m hm x) v' w' := by
  have hRl : R.length ≤ 100 := hv.1
  obtain ⟨ba, bc, rfl⟩ := hv.shape
  have HV := Lib.hid hv
  obtain ⟨g, lv, rfl, hg, hCg, hq0, hq1, hvl⟩ := hv.get hm
  obtain ⟨la, lc, rfl⟩ := hvl.shape
  have HL := Lib.hid hvl
  have hm2 : (m : Int) < (R.length : Int) := by omega
  obtain ⟨hst1, hst2⟩ := hst
  have HPUT := Lib.hid (fun (w9 : World) (lv9 : Value) (hB : Below w.heap.size w w9) (h : VwC w9 (fun g => C g ∨ w.heap.size ≤ g) lv9 (R[m].1.erase x)) =>
    RefPut_any (C := fun g => C g ∨ w.heap.size ≤ g) (st := R[m].2 + 1) m (hv.carry hB.size (fun g hg hc => ⟨hB.block g hg, .inl hc⟩)) h (by omega))
  have HC1 := Lib.hid (fun (h : R[m].1.contains x = true) => (show cutR R m hm x = R.set m (R[m].1.erase x, R[m].2 + 1) from if_pos h))
  have HC0 := Lib.hid (fun (h : R[m].1.contains x = false) => (show cutR R m hm x = R from if_neg (by rw [h]; decide)))
  clear hv hvl
  generalize cutR R m hm x = R3 at *
  generalize R.set m (R[m].1.erase x, R[m].2 + 1) = R2 at *
  generalize R[m].1 = l at *
  generalize R[m].2 = st at *
  have hb0 := Blk.new (own := fun _ => 0) (k := 0) w (.cells #[.slice la l.length lc, .int .i64 st] 48) rfl
  have hB0 : Below w.heap.size w (w.alloc (.cells #[.slice la l.length lc, .int .i64 st] 48)) := (Below.refl _ _).alloc (Nat.le_refl _) _
  have hs0 := World.size_alloc w (.cells #[.slice la l.length lc, .int .i64 st] 48)
  have HHL := Lib.hid (HasLong_any (Vw.below HL.out.vw hB0) x)
  go_enter Try.func14, Try.ntmps14
  go_wp2_with fail
  generalize w.alloc (.cells #[.slice la l.length lc, .int .i64 st] 48) = w0 at *
  refine HHL.out.mono ?_
  rintro e w1 ⟨rfl, hB1⟩
  have HB1 := Lib.hid (hB0.trans (hB1.mono hB0.size))
  have HBX := Lib.hid (⟨by rw [hB1.block _ hb0.lt]; exact hb0.at_, rfl⟩ : Blk w1 (fun _ => 0) 0 w.heap.size (.cells #[.slice la l.length lc, .int .i64 st] 48 (0, 0)))
  have hw1 : w.heap.size + 1 ≤ w1.heap.size := by have := hB1.size; omega
  have e0 : w1.cell? ⟨w.heap.size, 0, none⟩ = some (.slice la l.length lc) := HBX.out.cell 0
  have e1 : w1.cell? ⟨w.heap.size, 1, none⟩ = some (.int .i64 st) := HBX.out.cell 1
  have el := HBX.out.lt
  clear hb0 hB0 hs0 hB1 HHL
  cases hco : l.contains x with
  | false =>
    have HP := Lib.hid (show RefPost w C R3 (.slice (some ⟨g, 0, none⟩) R.length bc) w1 from ⟨by rw [HC0.out hco]; exact HV.out.carry HB1.out.size (fun g hg hc => ⟨HB1.out.block g hg, .inl hc⟩), HB1.out⟩)
    have HCO := Lib.hid hco
    clear hco
    go_wp2_with fail
    go_ret2
    exact ⟨_, by rw [HCO.out]; rfl, HP.out⟩
  | true =>
    have HR3 := Lib.hid (HC1.out hco)
    have HB2 := Lib.hid ((Below.refl w1.heap.size w1).alloc (Nat.le_refl _) (.cells #[] 2))
    have HROW := Lib.hid (show Row (w1.alloc (.cells #[] 2)) (fresh w1.heap.size) 1 2 1 (.slice (some ⟨w1.heap.size, 0, none⟩) 0 0) 0 [] from Row.start (Blk.new w1 _ (ow_ge (Nat.le_refl _))))
    have HCO := Lib.hid hco
    clear hco HC0 HC1
    go_wp2_with fail
    generalize w1.alloc (.cells #[] 2) = w2 at *
    go_loopg [9, 10, 11] l.length (fun g ov gv iv wr => CuInv w2 w1.heap.size x l g ov gv iv wr)
    case atStart => exact ⟨_, 0, rfl, by omega, rfl, HROW.out, Ext.refl⟩
    case round =>
      obtain ⟨own1, i, rfl, hi, rfl, hrow, hE⟩ := hrel
      obtain ⟨oa, oc, rfl⟩ := hrow.shape
      have HE := Lib.hid hE
      have HW := Lib.hid hrow
      have hBr := HB2.out.trans ((hE.freshBelow HB2.out.size).mono (Nat.le_refl _))
      have hBw := HB1.out.trans (hBr.mono HB1.out.size)
      have HBR := Lib.hid hBw
      have hbx := (⟨by rw [hBr.block _ HBX.out.lt]; exact HBX.out.at_, rfl⟩ : Blk wr (fun _ => 0) 0 w.heap.size (.cells #[.slice la l.length lc, .int .i64 st] 48 (0, 0)))
      have x0 : wr.cell? ⟨w.heap.size, 0, none⟩ = some (.slice la l.length lc) := hbx.cell 0
      have x1 : wr.cell? ⟨w.heap.size, 1, none⟩ = some (.int .i64 st) := hbx.cell 1
      have xl := hbx.lt
      by_cases hlt : i < l.length
      · have hlt2 : (i : Int) < (l.length : Int) := by omega
        obtain ⟨g2, off2, rfl, hg2, hq2⟩ := HL.out.at hlt
        have y0 : wr.cell? ⟨g2, off2 + i, none⟩ = some (.int .i64 l[i]) := by rw [hBw.cell (p := ⟨g2, off2 + i, none⟩) hg2]; exact hq2
        have htk : l.take (i + 1) = l.take i ++ [l[i]] := List.take_succ_eq_append_getElem hlt
        have hel : ((l.take i).erase x).length ≤ 900 := by have h1 := List.length_erase_le (a := x) (l := l.take i); rw [List.length_take] at h1; omega
        have HCS := Lib.hid (contains_snoc (l.take i) l[i] x)
        have HE1 := Lib.hid (erase_snoc_gone (l.take i) l[i] x)
        have HE2 := Lib.hid (erase_snoc_ne (l.take i) l[i] x)
        have HE3 := Lib.hid (erase_snoc_eq (l.take i) l[i] x)
        have HTK := Lib.hid htk
        clear hrow hE hBr hBw hbx hq2 htk
        generalize l[i] = z at *
        generalize l.take i = t at *
        cases hgc : t.contains x with
        | true =>
          have HT1 := Lib.hid (show (t ++ [z]).contains x = true by rw [HCS.out, hgc]; rfl)
          have HT2 := Lib.hid (HE1.out hgc)
          clear hgc HCS HE1 HE2 HE3
          go_wp2_with (at_builtin; refine wpList_append_i64 (w0 := wr) (n := (t.erase x).length) rfl _ _ rfl z rfl HW.out (by omega) rfl rfl ?_; intro v8 w8 own8 hr8 hE8; obtain ⟨a8, c8, rfl⟩ := hr8.shape)
          have HR8 := Lib.hid hr8
          have HE8 := Lib.hid (HE.out.trans hE8)
          clear hr8 hE8
          go_wp2_with fail
          go_roundg (l.length - (i + 1))
          case measure => omega
          case rel => exact ⟨_, i + 1, by go_num, by omega, by rw [HTK.out, HT1.out], by rw [HTK.out, HT2.out, List.length_append, List.length_singleton]; exact HR8.out, HE8.out⟩
        | false =>
          by_cases hz : z = x
          · have hzb : (z == x) = true := by simp [hz]
            have HT1 := Lib.hid (show (t ++ [z]).contains x = true by rw [HCS.out, hgc, hzb]; rfl)
            have HT2 := Lib.hid (HE3.out hgc hz)
            clear hgc HCS HE1 HE2 HE3 hz
            go_wp2_with fail
            go_roundg (l.length - (i + 1))
            case measure => omega
            case rel => exact ⟨_, i + 1, by go_num, by omega, by rw [HTK.out, HT1.out], by rw [HTK.out, HT2.out]; exact HW.out, HE.out⟩
          · have hzb : (z == x) = false := by simp [hz]
            have HT1 := Lib.hid (show (t ++ [z]).contains x = false by rw [HCS.out, hgc, hzb]; rfl)
            have HT2 := Lib.hid (HE2.out hgc hz)
            clear hgc HCS HE1 HE2 HE3 hz
            go_wp2_with (at_builtin; refine wpList_append_i64 (w0 := wr) (n := (t.erase x).length) rfl _ _ rfl z rfl HW.out (by omega) rfl rfl ?_; intro v8 w8 own8 hr8 hE8; obtain ⟨a8, c8, rfl⟩ := hr8.shape)
            have HR8 := Lib.hid hr8
            have HE8 := Lib.hid (HE.out.trans hE8)
            clear hr8 hE8
            go_wp2_with fail
            go_roundg (l.length - (i + 1))
            case measure => omega
            case rel => exact ⟨_, i + 1, by go_num, by omega, by rw [HTK.out, HT1.out], by rw [HTK.out, HT2.out, List.length_append, List.length_singleton]; exact HR8.out, HE8.out⟩
      · obtain rfl : i = l.length := by omega
        have htl : l.take l.length = l := List.take_length
        have hel : (l.erase x).length ≤ 900 := by have h1 := List.length_erase_le (a := x) (l := l); omega
        have HW2 := Lib.hid (show Row wr own1 1 2 1 (.slice oa (l.erase x).length oc) (l.erase x).length (irow (l.erase x)) from by have := hrow; rw [htl] at this; exact this)
        have hvw : VwC wr (fun g => C g ∨ w.heap.size ≤ g) (.slice oa (l.erase x).length oc) (l.erase x) := Row.vwc HW2.out rfl (by omega) (fun g hg ho => .inr (by have := row_new HE.out HB2.out.size ho; omega))
        have HPU := Lib.hid (HPUT.out wr _ HBR.out hvw)
        clear hrow hE hBr hBw hbx HW hvw HW2
        rw [htl]
        clear htl
        go_wp2_with fail
        refine HPU.out.mono ?_
        rintro e w9 ⟨v', rfl, hP, hBP⟩
        have HP := Lib.hid (show RefPost w C R3 v' w9 from ⟨by rw [HR3.out]; exact hP.carry (Nat.le_refl _) (fun g _ hc => ⟨rfl, hc.elim id fun h => .inr (by have := HBR.out.size; omega)⟩), HBR.out.trans (hBP.mono HBR.out.size)⟩)
        clear hP hBP HPU
        go_wp2_with fail
        go_ret2
        exact ⟨_, by rw [HCO.out]; rfl, HP.out⟩
end
end Go.Proofs.Ytefhngbeodnldaa
