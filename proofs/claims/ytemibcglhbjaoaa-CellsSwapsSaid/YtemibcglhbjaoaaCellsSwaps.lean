/- CellsSwaps: no step by swapping is lost. -/
import Derived.Test.YtemibcglhbjaoaaCellsLaw
import Derived.Test.YtemibcglhbjaoaaArgs
import Derived.Test.YtemibcglhbjaoaaPlan
set_option maxRecDepth 20000
set_option linter.unusedVariables false
set_option linter.unusedSimpArgs false
namespace Go.Proofs.Ytemibcglhbjaoaa
open Go.RowKit Go.PM

theorem info_bool : (Try.prog.info? 4).map (fun i => (i.zero, i.size, i.bytes)) = some (some (.bool false), 1, 1) := by kernel_rfl
theorem make_bools_at (n : Nat) (z : Int) (hz : z = n) (h : n ≤ 256) (w : World) : (Instr.makeSlice 44 (.int .i64 z) (.int .i64 z)).run Try.prog w =
    .ok (.slice (some ⟨w.heap.size, 0, none⟩) n n) (w.alloc (.cells (bools (List.replicate n false)) 4)) := by
  subst hz
  obtain ⟨i, hi, hz0, hz1, hz2⟩ := info_parts info_bool
  have := run_make (P := Try.prog) w 44 4 i (.bool false) Try.underlying44 hi hz0 .i64 .i64 n n (by omega) (by omega) (by rw [hz2]; omega) (by omega)
  rw [this, hz1]
  have e1 : madeCells (Value.bool false).cells ((n : Int).toNat * 1) = bools (List.replicate n false) := by
    rw [Int.toNat_natCast, Nat.mul_one]
    show madeCells #[Value.bool false] n = _
    apply Array.toList_inj.1
    rw [toList_madeCells_one]
    simp [bools]
  rw [e1, Int.toNat_natCast]

/-- After i picks the cell holds d, as many as have gone well. -/
def SwapsInv (w0 : World) (a sb rb n N : Nat) (dv iv : Value) (w : World) : Prop :=
  ∃ (own : Nat → Nat) (i d : Nat) (seen : List Int) (reads : List Bool), iv = .int .i64 i ∧ dv = .int .i64 d ∧ d ≤ i ∧ i ≤ N ∧ seen.length = n ∧ reads.length = n ∧
    Arena w own 1 a ⟨10, 1, 1, 0, [(1, [(d : Int)])]⟩ ∧ Blk w own 2 sb (.cells (ints seen) 2 (0, 0)) ∧ Blk w own 2 rb (.cells (bools reads) 4 (0, 0)) ∧ Ext (fun c => c ≠ 0) w0 w (fun _ => 0) own

set_option maxHeartbeats 1000000 in
theorem cellsSwaps_walk (w : World) (v : Value) (n b off : Nat) (f : Nat → Nat → Int) (hp : Recs Try.prog 26 1 w v n b off f) (T : Int) (hT : -9223372036854775808 ≤ T ∧ T ≤ 9223372036854775807) :
    Calls Try.prog 4 #[v, .int .i64 T] w fun e w' => e = .returned (.bool true) ∧ Below w.heap.size w w' := by
  go_enter Try.func4, Try.ntmps4
  go_wp2_with fail
  refine (New_any 10 1 (fun _ => 0) w).mono ?_
  rintro e w1 ⟨rfl, hB, hA⟩
  have h01 : Ext (fun c => c ≠ 0) w w1 (fun _ => 0) (ow (fun _ => 0) w.heap.size 1) := Ext.of_below hB _ _
  generalize ow (fun _ => 0) w.heap.size 1 = own1 at *
  generalize w.heap.size + 1 = a at *
  have H := Lib.hid h01
  clear h01 hB
  go_wp2_with fail
  refine (alive_any w1).mono ?_
  rintro e w2 ⟨rfl, hB⟩
  have h12 : Ext (fun c => c ≠ 0) w1 w2 own1 (ow own1 w1.heap.size 2) := Ext.of_below hB _ _
  have h12' : Ext (fun c => False) w1 w2 own1 (ow own1 w1.heap.size 2) := Ext.of_below hB _ _
  have hA := hA.ext h12' (by simp)
  generalize ow own1 w1.heap.size 2 = own2 at *
  have H := Lib.hid (H.out.trans h12)
  clear h12 h12' hB
  go_wp2_with fail
  refine (calls_as (r' := .tuple #[.int .i64 1, .int .i64 0]) (V' := ⟨10, 1, 1, 0, [(1, [0])]⟩) (Alloc_any hA (by decide) 1) (by kernel_rfl) (by kernel_rfl)).mono ?_
  obtain ⟨m, hm, hbit⟩ := and_le T 7 (by decide)
  have hbit' : bits .and .i64 T 7 = (m : Int) := hbit
  clear hbit
  have hm1 := make_ints_at (m + 1) (1 + m) (by omega) (by omega)
  have hm2 := make_bools_at (m + 1) (1 + m) (by omega) (by omega)
  rintro e w3 ⟨rfl, own3, hE, hA⟩
  have H := Lib.hid (H.out.trans (hE.mono (by simp)))
  clear hE
  have hlen := hp.len
  have hidx : ∀ w' (i : Nat), i < n → (Instr.indexAt 26 v (.int .i64 i)).run Try.prog w' = .ok (.pointer (some ⟨b, off + i, none⟩)) w' := fun w' i hi => by
    have := hp.idx w' i hi
    rw [Nat.mul_one] at this
    exact this
  have hsz := hp.size
  go_wp2_with fail
  have hS0 : Blk ((w3.alloc (.cells (ints (List.replicate (m + 1) 0)) 2)).alloc (.cells (bools (List.replicate (m + 1) false)) 4)) (ow own3 w3.heap.size 2) 2 w3.heap.size (.cells (ints (List.replicate (m + 1) 0)) 2 (0, 0)) :=
    (Blk.new w3 _ (ow_ge (Nat.le_refl _))).alloc _
  have hR0 : Blk ((w3.alloc (.cells (ints (List.replicate (m + 1) 0)) 2)).alloc (.cells (bools (List.replicate (m + 1) false)) 4)) (ow own3 w3.heap.size 2) 2 (w3.heap.size + 1) (.cells (bools (List.replicate (m + 1) false)) 4 (0, 0)) := by
    have := Blk.new (own := ow own3 w3.heap.size 2) (k := 2) (w3.alloc (.cells (ints (List.replicate (m + 1) 0)) 2)) (.cells (bools (List.replicate (m + 1) false)) 4) (by rw [World.size_alloc]; exact ow_ge (by omega))
    rwa [World.size_alloc] at this
  have hE0 : Ext (fun c => False) w3 ((w3.alloc (.cells (ints (List.replicate (m + 1) 0)) 2)).alloc (.cells (bools (List.replicate (m + 1) false)) 4)) own3 (ow own3 w3.heap.size 2) :=
    ((Ext.refl.ow 2).alloc _).alloc _
  have hA0 := hA.ext hE0 (by simp)
  have H0 := Lib.hid (H.out.trans (hE0.mono (by simp)))
  clear hE0
  generalize w3.heap.size = sb at *
  go_loopw [10, 42] (fun dv iv wr => SwapsInv w a sb (sb + 1) (m + 1) n dv iv wr) (fun _ iv _ => n - (intOf iv).toNat)
  case atStart => exact ⟨_, 0, 0, _, _, rfl, rfl, by omega, by omega, by simp, by simp, hA0, hS0, hR0, H0.out⟩
  case round =>
    obtain ⟨own, k, d, seen, reads, rfl, rfl, hd, hk, hs, hr, hA, hS, hR, hE⟩ := hrel
    have HE := Lib.hid hE
    clear hE
    by_cases hlt : k < n
    · have hcell : wr.cell? ⟨b, off + k, none⟩ = some (.int .i64 (f k 0)) := by
        have := hp.at_ (HE.out.below (by simp)) hlt (show 0 < 1 by omega)
        rwa [Nat.mul_one, Nat.add_zero] at this
      have hrng := hp.rng k 0 hlt (by omega)
      generalize f k 0 = p at *
      by_cases hp0 : p < 0
      · go_wp2_with fail
        go_roundw
        case rel => exact ⟨own, k + 1, d, seen, reads, by go_num, rfl, by omega, by omega, hs, hr, hA, hS, hR, HE.out⟩
        case measure => simp [intOf]; omega
      · obtain ⟨q, rfl⟩ := Int.eq_ofNat_of_zero_le (show 0 ≤ p by omega)
        by_cases hp1 : m + 1 ≤ q
        · have hp2 : (1 : Int) + m ≤ q := by omega
          go_wp2_with fail
          go_roundw
          case rel => exact ⟨own, k + 1, d, seen, reads, by go_num, rfl, by omega, by omega, hs, hr, hA, hS, hR, HE.out⟩
          case measure => simp [intOf]; omega
        · have hq : q < m + 1 := by omega
          have hp2 : (q : Int) < 1 + m := by omega
          have hq1 : q < seen.length := by omega
          have hq2 : q < reads.length := by omega
          cases hrd : reads[q] with
          | false =>
            have cR : wr.cell? ⟨sb + 1, q, none⟩ = some (.bool false) := by rw [hR.cell, bools_get, List.getElem?_eq_getElem hq2, hrd]; rfl
            clear hrd
            go_wp2_with fail
            refine (calls_as (r' := .tuple #[.int .i64 d, .int .i64 0]) (V' := ⟨10, 1, 1, 0, [(1, [(d : Int)])]⟩) (Load_any hA (show (0 : Int) < 1000000000000000 by decide) 1 0) (by kernel_rfl) (by kernel_rfl)).mono ?_
            rintro e w4 ⟨rfl, own4, hE4, hA4⟩
            have hS4 := hS.ext hE4 (by simp)
            have hR4 := hR.ext hE4 (by simp)
            have HE4 := Lib.hid (HE.out.trans (hE4.mono (by simp)))
            have cS : w4.cell? ⟨sb, q, none⟩ = some (.int .i64 seen[q]) := by rw [hS4.cell, ints_get, List.getElem?_eq_getElem hq1]; rfl
            have fS := hS4.free q
            have cR4 : w4.cell? ⟨sb + 1, q, none⟩ = some (.bool false) := by rw [← cR]; rw [hR4.cell, hR.cell]
            have fR := hR4.free q
            clear cR hE4
            go_wp2_with fail
            have hS5 : Blk ((w4.setCell ⟨sb, q, none⟩ (.int .i64 d)).setCell ⟨sb + 1, q, none⟩ (.bool true)) own4 2 sb (.cells (ints (seen.set q d)) 2 (0, 0)) := by
              rw [← ints_set]; exact (hS4.setCell q _).setCell_other (by simp) _
            have hR5 : Blk ((w4.setCell ⟨sb, q, none⟩ (.int .i64 d)).setCell ⟨sb + 1, q, none⟩ (.bool true)) own4 2 (sb + 1) (.cells (bools (reads.set q true)) 4 (0, 0)) := by
              rw [← bools_set]; exact (hR4.setCell_other (by simp) _).setCell q _
            have hE5 : Ext (fun c => c = 2) w4 ((w4.setCell ⟨sb, q, none⟩ (.int .i64 d)).setCell ⟨sb + 1, q, none⟩ (.bool true)) own4 own4 :=
              (Ext.refl.setCell (fun _ => hS4.col) _).setCell (fun _ => hR4.col) _
            go_roundw
            case rel => exact ⟨own4, k + 1, d, seen.set q d, reads.set q true, by go_num, rfl, by omega, by omega, by simp [hs], by simp [hr], hA4.ext hE5 (by simp), hS5, hR5, HE4.out.trans (hE5.mono (by simp))⟩
            case measure => simp [intOf]; omega
          | true =>
            have cR : wr.cell? ⟨sb + 1, q, none⟩ = some (.bool true) := by rw [hR.cell, bools_get, List.getElem?_eq_getElem hq2, hrd]; rfl
            have cS : wr.cell? ⟨sb, q, none⟩ = some (.int .i64 seen[q]) := by rw [hS.cell, ints_get, List.getElem?_eq_getElem hq1]; rfl
            clear hrd
            generalize hx : seen[q] = x at *
            clear hx
            have hp3 : (q : Int) < (m : Int) + 1 := by omega
            go_wp2_with fail
            refine wp_region_plan [(true, 6, [8, 9, 10, 11, 12, 13, 14, 15, 16]), (true, 7, [8, 9, 10, 11, 12, 13, 14, 15, 16]), (true, 8, [9, 10, 11, 12, 13, 14, 15, 16]), (true, 9, [10, 11, 12, 13, 14, 15, 16]), (true, 10, [11, 12, 13, 14, 15, 16]), (true, 0, [11, 12, 13, 14, 15, 16]), (true, 1, [11, 12, 13, 14, 15, 16]), (true, 2, [4, 5, 11, 12, 13, 14, 15, 16]), (true, 3, [4, 5, 11, 12, 13, 14, 15, 16]), (true, 4, [5, 11, 12, 13, 14, 15, 16]), (true, 5, [11, 12, 13, 14, 15, 16]), (false, 11, []), (true, 12, [13, 14, 15, 16]), (true, 13, [15, 16]), (true, 14, [16]), (true, 15, [16]), (true, 16, [])] (by kernel_rfl) (by kernel_rfl) (fun _ _ _ d _ h => by cases d <;> exact h) ?_
            iterate 11 (refine plan_early rfl ?_; still_step; refine wpStill_nil ?_)
            refine plan_big rfl ?_
            go_wp2_with fail
            have hAd : Arena wr.drew own 1 a ⟨10, 1, 1, 0, [(1, [(d : Int)])]⟩ := hA.ext (M := fun _ => False) Ext.refl.drew (by simp)
            by_cases hx : (d : Int) = x
            · have hw : wrap64 (x + 1) = (d : Int) + 1 := by rw [← hx]; unfold wrap64; omega
              rw [hw]
              have hV : (AV.swap ⟨10, 1, 1, 0, [(1, [(d : Int)])]⟩ 1 0 x ((d : Int) + 1)) = ⟨10, 1, 1, 0, [(1, [((d + 1 : Nat) : Int)])]⟩ := by
                rw [← hx]; simp [AV.swap, AV.swapOk, AV.err, AV.val, AV.find, AV.set, setAt]
              have hr : (Value.tuple #[.bool (AV.swapOk ⟨10, 1, 1, 0, [(1, [(d : Int)])]⟩ 1 0 x), .int .i64 (AV.err ⟨10, 1, 1, 0, [(1, [(d : Int)])]⟩ 1 0)]) = .tuple #[.bool true, .int .i64 0] := by
                rw [← hx]; simp [AV.swapOk, AV.err, AV.val, AV.find]
              have hc := calls_as (Swap_any hAd (show (0 : Int) < 1000000000000000 by decide) 1 0 x ((d : Int) + 1)) hr hV
              have HX := Lib.hid hx
              have HC := Lib.hid hc
              clear hx hw hV hr hc
              refine HC.out.mono ?_
              rintro e w4 ⟨rfl, own4, hE4, hA4⟩
              have hS4 := hS.ext ((Ext.refl.drew).trans hE4) (by simp)
              have hR4 := hR.ext ((Ext.refl.drew).trans hE4) (by simp)
              have HE4 := Lib.hid (HE.out.trans (((Ext.refl.drew).trans hE4).mono (by simp)))
              have cR4 : w4.cell? ⟨sb + 1, q, none⟩ = some (.bool true) := by rw [← cR]; rw [hR4.cell, hR.cell]
              have fR := hR4.free q
              clear cR cS hE4 HX
              go_wp2_with fail
              iterate 5 (refine plan_early rfl ?_; still_step; refine wpStill_nil ?_)
              refine plan_nil ?_
              go_wp2_with fail
              have hS5 : Blk (w4.setCell ⟨sb + 1, q, none⟩ (.bool false)) own4 2 sb (.cells (ints seen) 2 (0, 0)) := hS4.setCell_other (by simp) _
              have hR5 : Blk (w4.setCell ⟨sb + 1, q, none⟩ (.bool false)) own4 2 (sb + 1) (.cells (bools (reads.set q false)) 4 (0, 0)) := by
                rw [← bools_set]; exact hR4.setCell q _
              have hE5 : Ext (fun c => c = 2) w4 (w4.setCell ⟨sb + 1, q, none⟩ (.bool false)) own4 own4 := Ext.refl.setCell (fun _ => hR4.col) _
              go_roundw
              case rel => exact ⟨own4, k + 1, d + 1, seen, reads.set q false, by go_num, by go_num, by omega, by omega, hs, by simp [hr], hA4.ext hE5 (by simp), hS5, hR5, HE4.out.trans (hE5.mono (by simp))⟩
              case measure => simp [intOf]; omega
            · have hV : (AV.swap ⟨10, 1, 1, 0, [(1, [(d : Int)])]⟩ 1 0 x (wrap64 (x + 1))) = ⟨10, 1, 1, 0, [(1, [(d : Int)])]⟩ := by
                simp [AV.swap, AV.swapOk, AV.err, AV.val, AV.find, AV.touch, hx]
              have hr : (Value.tuple #[.bool (AV.swapOk ⟨10, 1, 1, 0, [(1, [(d : Int)])]⟩ 1 0 x), .int .i64 (AV.err ⟨10, 1, 1, 0, [(1, [(d : Int)])]⟩ 1 0)]) = .tuple #[.bool false, .int .i64 0] := by
                simp [AV.swapOk, AV.err, AV.val, AV.find, hx]
              have hc := calls_as (Swap_any hAd (show (0 : Int) < 1000000000000000 by decide) 1 0 x (wrap64 (x + 1))) hr hV
              have HC := Lib.hid hc
              clear hx hV hr hc
              refine HC.out.mono ?_
              rintro e w4 ⟨rfl, own4, hE4, hA4⟩
              have hS4 := hS.ext ((Ext.refl.drew).trans hE4) (by simp)
              have hR4 := hR.ext ((Ext.refl.drew).trans hE4) (by simp)
              have HE4 := Lib.hid (HE.out.trans (((Ext.refl.drew).trans hE4).mono (by simp)))
              have cR4 : w4.cell? ⟨sb + 1, q, none⟩ = some (.bool true) := by rw [← cR]; rw [hR4.cell, hR.cell]
              have fR := hR4.free q
              clear cR cS hE4
              go_wp2_with fail
              iterate 5 (refine plan_early rfl ?_; still_step; refine wpStill_nil ?_)
              refine plan_nil ?_
              go_wp2_with fail
              have hS5 : Blk (w4.setCell ⟨sb + 1, q, none⟩ (.bool false)) own4 2 sb (.cells (ints seen) 2 (0, 0)) := hS4.setCell_other (by simp) _
              have hR5 : Blk (w4.setCell ⟨sb + 1, q, none⟩ (.bool false)) own4 2 (sb + 1) (.cells (bools (reads.set q false)) 4 (0, 0)) := by
                rw [← bools_set]; exact hR4.setCell q _
              have hE5 : Ext (fun c => c = 2) w4 (w4.setCell ⟨sb + 1, q, none⟩ (.bool false)) own4 own4 := Ext.refl.setCell (fun _ => hR4.col) _
              go_roundw
              case rel => exact ⟨own4, k + 1, d, seen, reads.set q false, by go_num, rfl, by omega, by omega, hs, by simp [hr], hA4.ext hE5 (by simp), hS5, hR5, HE4.out.trans (hE5.mono (by simp))⟩
              case measure => simp [intOf]; omega
    · have hge : n ≤ k := by omega
      go_wp2_with fail
      refine (calls_as (r' := .tuple #[.int .i64 d, .int .i64 0]) (V' := ⟨10, 1, 1, 0, [(1, [(d : Int)])]⟩) (Load_any hA (show (0 : Int) < 1000000000000000 by decide) 1 0) (by kernel_rfl) (by kernel_rfl)).mono ?_
      rintro e w4 ⟨rfl, own4, hE4, hA4⟩
      have HE4 := Lib.hid (HE.out.trans (hE4.mono (by simp)))
      go_wp2_with fail
      go_ret
      exact ⟨rfl, HE4.out.below (by simp)⟩
end Go.Proofs.Ytemibcglhbjaoaa
