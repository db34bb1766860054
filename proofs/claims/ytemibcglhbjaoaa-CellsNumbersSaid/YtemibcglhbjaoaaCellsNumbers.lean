/- CellsNumbers: blocks' numbers rise by one; a block has just the cells that were asked for. -/
import Derived.Test.YtemibcglhbjaoaaCellsPure
import Derived.Test.YtemibcglhbjaoaaArgs
set_option maxRecDepth 20000
set_option linter.unusedVariables false
set_option linter.unusedSimpArgs false
namespace Go.Proofs.Ytemibcglhbjaoaa
open Go.RowKit Go.PM

/-- After i sizes. -/
def NumInv (w0 : World) (a N : Nat) (lv iv : Value) (w : World) : Prop :=
  ∃ (own : Nat → Nat) (i : Nat) (V : AV), iv = .int .i64 i ∧ lv = .int .i64 V.made ∧ i ≤ N ∧ i ≤ 201 ∧ V.most = 65536 ∧ V.live ≤ 256 * i ∧ V.made ≤ i ∧ V.faults ≤ i ∧ Arena w own 1 a V ∧ Ext (fun c => c ≠ 0) w0 w (fun _ => 0) own

set_option maxHeartbeats 2000000 in
theorem cellsNumbers_walk (w : World) (v : Value) (n b off : Nat) (f : Nat → Nat → Int) (hp : Recs Try.prog 26 1 w v n b off f)
    (v2 : Value) (n2 b2 off2 : Nat) (f2 : Nat → Nat → Int) (hp2 : Recs Try.prog 26 1 w v2 n2 b2 off2 f2) :
    Calls Try.prog 5 #[v, v2] w fun e w' => e = .returned (.bool true) ∧ Below w.heap.size w w' := by
  have hlen := hp.len
  have hlen2 := hp2.len
  have hidx : ∀ w' (i : Nat), i < n → (Instr.indexAt 26 v (.int .i64 i)).run Try.prog w' = .ok (.pointer (some ⟨b, off + i, none⟩)) w' := fun w' i hi => by
    have := hp.idx w' i hi
    rw [Nat.mul_one] at this
    exact this
  have hidx2 : ∀ w' (i : Nat), i < n2 → (Instr.indexAt 26 v2 (.int .i64 i)).run Try.prog w' = .ok (.pointer (some ⟨b2, off2 + i, none⟩)) w' := fun w' i hi => by
    have := hp2.idx w' i hi
    rw [Nat.mul_one] at this
    exact this
  have hsz := hp.size
  have hsz2 := hp2.size
  go_enter Try.func5, Try.ntmps5
  go_wp2_with fail
  refine (New_any 65536 1 (fun _ => 0) w).mono ?_
  rintro e w1 ⟨rfl, hB, hA⟩
  have h01 : Ext (fun c => c ≠ 0) w w1 (fun _ => 0) (ow (fun _ => 0) w.heap.size 1) := Ext.of_below hB _ _
  generalize ow (fun _ => 0) w.heap.size 1 = own1 at *
  generalize w.heap.size + 1 = a at *
  have H := Lib.hid h01
  clear h01 hB
  go_wp2_with fail
  refine (alive_any w1).mono ?_
  rintro e w2 ⟨rfl, hB⟩
  have h12 : Ext (fun c => c ≠ 0) w1 w2 own1 (ow own1 w1.heap.size 2) := Ext.of_below hB _ _
  have h12' : Ext (fun c => False) w1 w2 own1 (ow own1 w1.heap.size 2) := Ext.of_below hB _ _
  have hA2 := hA.ext h12' (by simp)
  have H2 := Lib.hid (H.out.trans h12)
  clear h12 h12' hB hA H
  go_wp2_with fail
  go_loopw [6, 28] (fun lv iv wr => NumInv w a n lv iv wr) (fun _ iv _ => n - (intOf iv).toNat)
  case atStart => exact ⟨_, 0, AV.fresh 65536, rfl, by simp [AV.fresh], by omega, by omega, by decide, by simp [AV.fresh], by simp [AV.fresh], by simp [AV.fresh], hA2, H2.out⟩
  case round =>
    clear hA2 H2
    obtain ⟨own, k, V, rfl, rfl, hk, hk2, hmost, hlive, hmade, hfaults, hA, hE⟩ := hrel
    have HE := Lib.hid hE
    have HM := Lib.hid hmost
    have ho := hA.ok
    have hmade0 := ho.made
    have hlive0 := ho.live
    clear hE hmost
    by_cases hlt : k < n
    · have hcell : wr.cell? ⟨b, off + k, none⟩ = some (.int .i64 (f k 0)) := by
        have := hp.at_ (HE.out.below (by simp)) hlt (show 0 < 1 by omega)
        rwa [Nat.mul_one, Nat.add_zero] at this
      have hrng := hp.rng k 0 hlt (by omega)
      generalize f k 0 = p at *
      by_cases hbig : 200 < k
      · go_wp2_with fail
        go_ret
        exact ⟨rfl, HE.out.below (by simp)⟩
      · have hbig' : (k : Int) ≤ 200 := by omega
        go_wp2_with fail
        by_cases hn : 1 ≤ p ∧ p ≤ 256
        · obtain ⟨hn1, hn2⟩ := hn
          have he : V.allocErr p = 0 := AV.allocErr_eq hn1 hn2 (by rw [HM.out]; omega)
          obtain ⟨m1, m2, m3, m4⟩ := AV.made_alloc he
          have hr : (Value.tuple #[.int .i64 (if V.allocErr p = 0 then V.made + 1 else 0), .int .i64 (V.allocErr p)]) = .tuple #[.int .i64 (V.made + 1), .int .i64 0] := by rw [he]; simp
          have hc := calls_as (Alloc_any hA (by omega) p) hr rfl
          have hf := AV.find_alloc_new ho he
          have HC := Lib.hid hc
          have HF := Lib.hid hf
          have HV : Hid ((V.alloc p).made = V.made + 1 ∧ (V.alloc p).live = V.live + p ∧ (V.alloc p).most = V.most ∧ (V.alloc p).faults = V.faults) := ⟨m1, m2, m3, m4⟩
          have hf1 : (V.alloc p).faults < 1000000000000000 := by omega
          clear he m1 m2 m3 m4 hr hc hf
          refine HC.out.mono ?_
          rintro e w4 ⟨rfl, own4, hE4, hA4⟩
          have HE4 := Lib.hid (HE.out.trans (hE4.mono (by simp)))
          generalize hV1 : V.alloc p = V1 at *
          have HV1 := Lib.hid hV1
          clear hE4 hV1 HE HC
          obtain ⟨q, rfl⟩ := Int.eq_ofNat_of_zero_le (show 0 ≤ p by omega)
          go_wp2_with fail
          have hs : (Value.tuple #[.int .i64 (V1.size (V.made + 1)), .int .i64 (V1.freeErr (V.made + 1))]) = .tuple #[.int .i64 q, .int .i64 0] := by
            simp [AV.size, AV.freeErr, HF.out]
          have hc := calls_as (Size_any hA4 hf1 (V.made + 1)) hs (touch_of_find HF.out)
          have HC := Lib.hid hc
          clear hs hc
          refine HC.out.mono ?_
          rintro e w5 ⟨rfl, own5, hE5, hA5⟩
          have HE5 := Lib.hid (HE4.out.trans (hE5.mono (by simp)))
          clear hE5 HE4 HC hA4
          go_wp2_with fail
          have hs : (Value.tuple #[.int .i64 (V1.val (V.made + 1) ((q : Int) - 1)), .int .i64 (V1.err (V.made + 1) ((q : Int) - 1))]) = .tuple #[.int .i64 0, .int .i64 0] := by
            rw [AV.val_rep HF.out, AV.err_rep HF.out (by omega)]
          have hc := calls_as (Load_any hA5 hf1 (V.made + 1) ((q : Int) - 1)) hs (touch_of_find HF.out)
          have HC := Lib.hid hc
          clear hs hc
          refine HC.out.mono ?_
          rintro e w6 ⟨rfl, own6, hE6, hA6⟩
          have HE6 := Lib.hid (HE5.out.trans (hE6.mono (by simp)))
          clear hE6 HE5 HC hA5
          go_wp2_with fail
          have hs : (Value.tuple #[.int .i64 (V1.val (V.made + 1) (q : Int)), .int .i64 (V1.err (V.made + 1) (q : Int))]) = .tuple #[.int .i64 0, .int .i64 1] := by
            rw [AV.val_rep HF.out, AV.err_rep_out HF.out (by omega)]
          have hc := calls_as (Load_any hA6 hf1 (V.made + 1) (q : Int)) hs (touch_of_find HF.out)
          have HC := Lib.hid hc
          clear hs hc
          refine HC.out.mono ?_
          rintro e w7 ⟨rfl, own7, hE6, hA7⟩
          have HE7 := Lib.hid (HE6.out.trans (hE6.mono (by simp)))
          clear hE6 HE6 HC hA6
          go_wp2_with fail
          have hs : (Value.tuple #[.int .i64 (V1.val (V.made + 1) (-1)), .int .i64 (V1.err (V.made + 1) (-1))]) = .tuple #[.int .i64 0, .int .i64 1] := by
            rw [AV.val_rep HF.out, AV.err_rep_out HF.out (by omega)]
          have hc := calls_as (Load_any hA7 hf1 (V.made + 1) (-1)) hs (touch_of_find HF.out)
          have HC := Lib.hid hc
          clear hs hc
          refine HC.out.mono ?_
          rintro e w8 ⟨rfl, own8, hE6, hA8⟩
          have HE8 := Lib.hid (HE7.out.trans (hE6.mono (by simp)))
          clear hE6 HE7 HC hA7
          go_wp2_with fail
          refine (Made_any hA8).mono ?_
          rintro e w9 ⟨rfl, rfl⟩
          have hm1 : V1.made = V.made + 1 := HV.out.1
          rw [hm1]
          have HM1 := Lib.hid hm1
          clear hm1
          have hmost1 : Hid (V1.most = 65536) := by rw [HV.out.2.2.1]; exact HM.out
          have hlive1 : V1.live ≤ 256 * ((k : Int) + 1) := by rw [HV.out.2.1]; omega
          have hmade1 : V1.made ≤ (k : Int) + 1 := by rw [HM1.out]; omega
          have hfaults1 : V1.faults ≤ (k : Int) := by rw [HV.out.2.2.2]; omega
          by_cases hk3 : k < n2
          · have hcell2 : w8.cell? ⟨b2, off2 + k, none⟩ = some (.int .i64 (f2 k 0)) := by
              have := hp2.at_ (HE8.out.below (by simp)) hk3 (show 0 < 1 by omega)
              rwa [Nat.mul_one, Nat.add_zero] at this
            generalize f2 k 0 = x at *
            go_wp2_with fail
            refine (Free_any hA8 hf1 x).mono ?_
            rintro e w9 ⟨rfl, own9, hE9, hA9⟩
            have HE9 := Lib.hid (HE8.out.trans (hE9.mono (by simp)))
            have hfl : Hid _ := AV.free_le hA8.ok x
            generalize V1.free x = V2 at *
            clear hE9 hA8 HE8 hcell2
            go_wp2_with fail
            obtain ⟨g1, g2, g3, g4, g5⟩ := hfl.out
            go_roundw
            case rel => exact ⟨own9, k + 1, V2, by go_num, by rw [g1, HM1.out], by omega, by omega, by rw [g2]; exact hmost1.out, by omega, by omega, by omega, hA9, HE9.out⟩
            case measure => simp [intOf]; omega
          · have hk4 : n2 ≤ k := by omega
            go_wp2_with fail
            go_roundw
            case rel => exact ⟨own8, k + 1, V1, by go_num, by rw [HM1.out], by omega, by omega, hmost1.out, by omega, by omega, by omega, hA8, HE8.out⟩
            case measure => simp [intOf]; omega
        · have he : V.allocErr p = 1 := AV.allocErr_arg (by omega)
          have hr : (Value.tuple #[.int .i64 (if V.allocErr p = 0 then V.made + 1 else 0), .int .i64 (V.allocErr p)]) = .tuple #[.int .i64 0, .int .i64 1] := by rw [he]; simp
          have hv : V.alloc p = V := by simp [AV.alloc, he]
          have hc := calls_as (Alloc_any hA (by omega) p) hr hv
          have HC := Lib.hid hc
          clear he hr hv hc
          refine HC.out.mono ?_
          rintro e w4 ⟨rfl, own4, hE4, hA4⟩
          have HE4 := Lib.hid (HE.out.trans (hE4.mono (by simp)))
          clear hE4 HE HC hA
          rcases (show p < 1 ∨ (1 ≤ p ∧ 256 < p) by omega) with hp1 | ⟨hp1, hp2'⟩
          · clear hn
            go_wp2_with fail
            go_roundw
            case rel => exact ⟨own4, k + 1, V, by go_num, rfl, by omega, by omega, HM.out, by omega, by omega, by omega, hA4, HE4.out⟩
            case measure => simp [intOf]; omega
          · clear hn
            go_wp2_with fail
            go_roundw
            case rel => exact ⟨own4, k + 1, V, by go_num, rfl, by omega, by omega, HM.out, by omega, by omega, by omega, hA4, HE4.out⟩
            case measure => simp [intOf]; omega
    · have hge : n ≤ k := by omega
      go_wp2_with fail
      go_ret
      exact ⟨rfl, HE.out.below (by simp)⟩
end Go.Proofs.Ytemibcglhbjaoaa
