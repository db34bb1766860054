/- SchedCounts: each pick counts once, for somebody just if its thread is ready. -/
import Derived.Test.YtemibcglhbjaoaaSchedPure
set_option maxRecDepth 20000
set_option linter.unusedVariables false
set_option linter.unusedSimpArgs false
namespace Go.Proofs.Ytemibcglhbjaoaa
open Go.RowKit Go.PM

/-- After i calls of the script. -/
def CntInv (w0 : World) (s N : Nat) (iv : Value) (w : World) : Prop :=
  ∃ (own : Nat → Nat) (i : Nat) (V : SV), iv = .int .i64 i ∧ i ≤ N ∧ V.ths.length ≤ i + 1 ∧ V.good ≤ i ∧ V.bad ≤ i ∧ V.Z ∧ Sched w own 1 s V ∧ Ext (fun c => c ≠ 0) w0 w (fun _ => 0) own
/-- After i picks. -/
def PickInv (w0 w1 : World) (own1 : Nat → Nat) (s N : Nat) (V : SV) (wv iv : Value) (w : World) : Prop :=
  ∃ (own : Nat → Nat) (i a : Nat), iv = .int .i64 i ∧ wv = .int .i64 a ∧ i ≤ N ∧ a ≤ i ∧ Sched w own 1 s (V.picked a ((i : Int) - a)) ∧ Ext (fun c => c ≠ 0) w0 w (fun _ => 0) own ∧ Ext (fun c => c = 1) w1 w own1 own

set_option maxHeartbeats 2000000 in
theorem schedCounts_walk (w : World) (v : Value) (n b off : Nat) (f : Nat → Nat → Int) (hp : Recs Try.prog 22 3 w v n b off f)
    (v2 : Value) (n2 b2 off2 : Nat) (f2 : Nat → Nat → Int) (hp2 : Recs Try.prog 26 1 w v2 n2 b2 off2 f2) :
    Calls Try.prog 12 #[v, v2] w fun e w' => e = .returned (.bool true) ∧ Below w.heap.size w w' := by
  have hlen := hp.len
  have hlen2 := hp2.len
  have hidx := hp.idx
  have hidx2 : ∀ w' (i : Nat), i < n2 → (Instr.indexAt 26 v2 (.int .i64 i)).run Try.prog w' = .ok (.pointer (some ⟨b2, off2 + i, none⟩)) w' := fun w' i hi => by
    have := hp2.idx w' i hi
    rw [Nat.mul_one] at this
    exact this
  have hsz := hp.size
  have hsz2 := hp2.size
  go_enter Try.func12, Try.ntmps12
  go_wp2_with fail
  refine (SNew_any 8 1 (fun _ => 0) w).mono ?_
  rintro e w1 ⟨rfl, hB, hA⟩
  have h01 : Ext (fun c => c ≠ 0) w w1 (fun _ => 0) (ow (fun _ => 0) w.heap.size 1) := Ext.of_below hB _ _
  generalize ow (fun _ => 0) w.heap.size 1 = own1 at *
  generalize w.heap.size + 1 = s at *
  have H := Lib.hid h01
  clear h01 hB
  go_wp2_with fail
  refine (salive_any w1).mono ?_
  rintro e w2 ⟨rfl, hB⟩
  have h12 : Ext (fun c => c ≠ 0) w1 w2 own1 (ow own1 w1.heap.size 2) := Ext.of_below hB _ _
  have hA2 := hA.ext (M := fun _ => False) (Ext.of_below hB _ 2) (by simp)
  have H2 := Lib.hid (H.out.trans h12)
  clear h12 hB hA H
  go_wp2_with fail
  go_loopw [26] (fun iv wr => CntInv w s n iv wr) (fun iv _ => n - (intOf iv).toNat)
  case atStart => exact ⟨_, 0, SV.fresh 8, rfl, by omega, by simp [SV.fresh], by simp [SV.fresh], by simp [SV.fresh], SV.fresh_Z 8, hA2, H2.out⟩
  case round =>
    clear hA2 H2
    obtain ⟨own, i, V, rfl, hi, hl, hg, hbd, hz, hA, hE⟩ := hrel
    have HE := Lib.hid hE
    have HZ := Lib.hid hz
    clear hE hz
    by_cases hlt : i < n
    · have hlt2 : (i : Int) < n := by omega
      have c0 := hp.at_ (HE.out.below (by simp)) hlt (show 0 < 3 by omega)
      have c1 := hp.at_ (HE.out.below (by simp)) hlt (show 1 < 3 by omega)
      have c2 := hp.at_ (HE.out.below (by simp)) hlt (show 2 < 3 by omega)
      rw [Nat.add_zero] at c0
      generalize f i 0 = kd at *
      generalize f i 1 = t at *
      generalize f i 2 = key at *
      go_wp2_with fail
      have hA' := hA.ext (M := fun _ => False) (Ext.refl.alloc (.cells #[.int .i64 kd, .int .i64 t, .int .i64 key] 28)) (by simp)
      have HE' := Lib.hid (HE.out.alloc (.cells #[.int .i64 kd, .int .i64 t, .int .i64 key] 28))
      clear HE hA
      refine (does_none hA' (by omega) (by omega) (by omega) kd t key).mono ?_
      rintro e w4 ⟨v', ok, own4, rfl, hE4, hA4⟩
      have hd1 := doV_len V kd t key
      have hd2 := doV_good V kd t key
      have HZ4 := Lib.hid (doV_Z HZ.out kd t key)
      have HE4 := Lib.hid (HE'.out.trans (hE4.mono (by simp)))
      generalize doV V kd t key = V4 at *
      clear hE4 HE' HZ hA' c0 c1 c2
      go_wp2_with fail
      go_roundw
      case rel => exact ⟨own4, i + 1, V4, by go_num, by omega, by omega, by omega, by omega, HZ4.out, hA4, HE4.out⟩
      case measure => simp [intOf]; omega
    · obtain rfl : i = n := by omega
      go_wp2_with fail
      refine (Counts_any hA).mono ?_
      rintro e w4 ⟨rfl, nd, rfl⟩
      have hA4 := hA.ext (M := fun _ => False) (Ext.refl.drewN nd) (by simp)
      have HE4 := Lib.hid (HE.out.drewN nd)
      clear HE hA
      generalize wr.drewN nd = w4 at *
      go_wp2_with fail
      refine (Ready_any hA4 3).mono ?_
      rintro e w5 ⟨rv, rfl, hrow, hB⟩
      have hA5 := hA4.ext (M := fun _ => False) (Ext.of_below hB own 3) (by simp)
      have hE5 := HE4.out.trans (Ext.of_below (M := fun c => c ≠ 0) hB own 3)
      generalize ow own w4.heap.size 3 = own5 at *
      obtain ⟨i0, hi0, hz0, hs0, hz2⟩ := info_parts info_int
      have HE5 := Lib.hid hE5
      have HR5 := Lib.hid hrow
      clear hE5 hrow HE4 hA4 hB
      have hg0 := hA5.ok.good
      have hb0 := hA5.ok.bad
      go_wp2_with fail
      go_loopw [11, 44] (fun wv iv wr => PickInv w w5 own5 s n2 V wv iv wr) (fun _ iv _ => n2 - (intOf iv).toNat)
      case atStart => exact ⟨own5, 0, 0, rfl, rfl, by omega, by omega, by simpa [SV.picked] using hA5, HE5.out, Ext.refl⟩
      case round =>
        clear hA5 HE5
        obtain ⟨own, i, a, rfl, rfl, hi, ha, hA, hE, hE1⟩ := hrel
        obtain ⟨rb, hI⟩ := Ints.of_row Try.underlying26 hi0 hs0 (HR5.out.ext hE1 (by simp))
        have hrl := V.ready_le
        have HE := Lib.hid hE
        have HE1 := Lib.hid hE1
        clear hE hE1
        have hgA : (V.picked a ((i : Int) - a)).good < 600000000000000 := by simp only [SV.picked]; omega
        have hbA : (V.picked a ((i : Int) - a)).bad < 600000000000000 := by simp only [SV.picked]; omega
        by_cases hlt : i < n2
        · have hlt2 : (i : Int) < n2 := by omega
          have c0 := hp2.at_ (HE.out.below (by simp)) hlt (show 0 < 1 by omega)
          rw [Nat.mul_one, Nat.add_zero] at c0
          generalize f2 i 0 = p at *
          have hsta := State_any hA p
          rw [SV.picked_state] at hsta
          have hhasc := Has_any hI (by omega) p
          by_cases hst : V.state p = 1
          · have hhas : (V.ready.contains p) = true := by rw [SV.ready_has HZ.out, hst]; exact rfl
            have hpk := sc_as (r' := .bool true) (Pick_any hA hgA hbA p) (by rw [SV.picked_state, hst]; exact rfl) (SV.picked_hit V a ((i : Int) - a) p hst)
            rw [show (a : Int) + 1 = ((a + 1 : Nat) : Int) by omega, show (i : Int) - a = ((i + 1 : Nat) : Int) - (a + 1 : Nat) by omega] at hpk
            have hst2 : V.state p = 1 := hst
            rw [hst] at hsta
            rw [hhas] at hhasc
            have HSTV := Lib.hid hst
            have HST := Lib.hid hsta
            have HHAS := Lib.hid hhasc
            have HPK := Lib.hid hpk
            clear hsta hhasc hpk hhas hst2
            clear hst
            go_wp2_with fail
            refine HST.out.mono ?_
            rintro e w6 ⟨rfl, rfl⟩
            go_wp2_with fail
            refine HHAS.out.mono ?_
            rintro e w6 ⟨rfl, rfl⟩
            go_wp2_with fail
            refine HPK.out.mono ?_
            rintro e w6 ⟨rfl, own6, hE6, hA6⟩
            have hs6 := State_any hA6 p
            rw [SV.picked_state, HSTV.out] at hs6
            have HS6 := Lib.hid hs6
            have HE6 := Lib.hid (HE.out.trans (hE6.mono (by simp)))
            have HE16 := Lib.hid (HE1.out.trans hE6)
            clear hE6 hs6 HPK HHAS HST hA HE HE1
            go_wp2_with fail
            refine HS6.out.mono ?_
            rintro e w7 ⟨rfl, rfl⟩
            go_wp2_with fail
            go_roundw
            case rel => exact ⟨own6, i + 1, (a + 1), by go_num, by go_num, by omega, by omega, hA6, HE6.out, HE16.out⟩
            case measure => simp [intOf]; omega
          · have hhas : (V.ready.contains p) = false := by rw [SV.ready_has HZ.out]; simp [hst]
            have hpk := sc_as (r' := .bool false) (Pick_any hA hgA hbA p) (by rw [SV.picked_state]; simp [hst]) (SV.picked_miss V a ((i : Int) - a) p hst)
            rw [show (i : Int) - a + 1 = ((i + 1 : Nat) : Int) - a by omega] at hpk
            rw [hhas] at hhasc
            have hst2 : V.state p = V.state p := rfl
            have HST := Lib.hid hsta
            have HHAS := Lib.hid hhasc
            have HPK := Lib.hid hpk
            clear hsta hhasc hpk hhas hst2
            have b1 : (V.state p == 1) = false := by simp [hst]
            clear hst
            go_wp2_with fail
            refine HST.out.mono ?_
            rintro e w6 ⟨rfl, rfl⟩
            go_wp2_with fail
            refine HHAS.out.mono ?_
            rintro e w6 ⟨rfl, rfl⟩
            go_wp2_with fail
            refine HPK.out.mono ?_
            rintro e w6 ⟨rfl, own6, hE6, hA6⟩
            have hs6 := State_any hA6 p
            rw [SV.picked_state] at hs6
            have HS6 := Lib.hid hs6
            have HE6 := Lib.hid (HE.out.trans (hE6.mono (by simp)))
            have HE16 := Lib.hid (HE1.out.trans hE6)
            clear hE6 hs6 HPK HHAS HST hA HE HE1
            generalize V.state p = st at *
            go_wp2_with fail
            refine HS6.out.mono ?_
            rintro e w7 ⟨rfl, rfl⟩
            go_wp2_with fail
            go_roundw
            case rel => exact ⟨own6, i + 1, a, by go_num, by go_num, by omega, by omega, hA6, HE6.out, HE16.out⟩
            case measure => simp [intOf]; omega
        · obtain rfl : i = n2 := by omega
          have hct := Counts_any hA
          have hrd := Ready_any hA 4
          rw [SV.picked_ready] at hrd
          simp only [SV.picked] at hct
          have HCT := Lib.hid hct
          have HIN := Lib.hid hI
          clear hct hrd hgA hbA hI
          have b1 : (V.bad + ((i : Int) - a) == V.bad + i - a) = true := by simp only [beq_iff_eq]; omega
          have b2 : (V.good + (a : Int) == V.good + a) = true := by simp
          go_wp2_with fail
          refine HCT.out.mono ?_
          rintro e w6 ⟨rfl, nd, rfl⟩
          have hA6 := hA.ext (M := fun _ => False) (Ext.refl.drewN nd) (by simp)
          have HE6 := Lib.hid (HE.out.drewN nd)
          have hI6 := HIN.out.keep (w' := wr.drewN nd) (fun _ => rfl) (Nat.le_refl _)
          have HI6 := Lib.hid hI6
          clear HE HE1 hA HCT HIN hI6
          generalize wr.drewN nd = w6 at *
          have hrd := Ready_any hA6 4
          rw [SV.picked_ready] at hrd
          have HRD := Lib.hid hrd
          clear hrd hA6
          go_wp2_with fail
          refine HRD.out.mono ?_
          rintro e w7 ⟨rv2, rfl, hrow2, hB⟩
          obtain ⟨rb2, hI2⟩ := Ints.of_row Try.underlying26 hi0 hs0 hrow2
          have hsm := SameInts_any hI2 (HI6.out.below hB) (by omega)
          simp only [decide_true] at hsm
          have HSM := Lib.hid hsm
          have HE7 := Lib.hid (HE6.out.trans (Ext.of_below (M := fun c => c ≠ 0) hB own 4))
          clear hI2 hsm hrow2 hB HRD HI6
          go_wp2_with fail
          refine HSM.out.mono ?_
          rintro e w8 ⟨rfl, nd2, rfl⟩
          go_wp2_with fail
          go_ret
          exact ⟨rfl, (HE7.out.drewN nd2).below (by simp)⟩
end Go.Proofs.Ytemibcglhbjaoaa
