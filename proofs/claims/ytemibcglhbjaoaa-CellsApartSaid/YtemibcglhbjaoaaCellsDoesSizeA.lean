/- Layer 2: one call against the document (asks), whatever the two arenas are. -/
import Derived.Test.YtemibcglhbjaoaaCellsDoes
import Derived.BigRegion
set_option maxRecDepth 20000
set_option linter.unusedVariables false
set_option linter.unusedSimpArgs false
namespace Go.Proofs.Ytemibcglhbjaoaa
open Go.RowKit Go.PM
section
variable {w : World} {own : Nat → Nat} {k a L : Nat} {V : AV} {v : Value} {A : RA}
set_option maxHeartbeats 8000000 in
theorem asks_7a (hS : Arena w own k a V) (hR : RefA w own L v A) (hkL : k ≠ L) (hf : V.faults < 1000000000000000) (hm : V.made < 1000000000000000) (hrf : -1 ≤ A.faults ∧ A.faults < 6000000000000000)
    (hlen2 : A.blocks.length < 4000000000000) (hmost : 0 ≤ A.most ∧ A.most ≤ 65536) (b i x y : Int) (hf0 : A.reachErr b 0 = 0) :
    Calls Try.prog 29 #[.pointer (some ⟨a, 0, none⟩), v, .agg #[.int .i64 7, .int .i64 b, .int .i64 i, .int .i64 x, .int .i64 y]] w (AsPost k a L (askV V 7 b i x y) (askR A 7 b i x y) (askOk V A 7 b i x y) w own) := by
  obtain ⟨ba, bc, rfl⟩ := hR.agg
  obtain ⟨hE, hb1, hb2, hb3⟩ := as_start w own (k + L + 1) (.cells #[.slice ba A.blocks.length bc, .int .i64 A.most, .int .i64 A.faults] 56 (0, 0)) (.cells #[.int .i64 7, .int .i64 b, .int .i64 i, .int .i64 x, .int .i64 y] 53 (0, 0)) (.cells #[.slice none 0 0, .int .i64 0, .int .i64 0] 56 (0, 0))
  have hBk : k ≠ k + L + 1 := by omega
  have hBL : L ≠ k + L + 1 := by omega
  have hSa := hS.ext (hE (fun _ => False)) (by simp)
  have hRa := hR.ext (hE (fun _ => False)) (by simp)
  have hEa := hE (fun c => c = k)
  generalize k + L + 1 = B at *
  clear hE hS hR
  unfold aAgg
  go_enter Try.func29, Try.ntmps29
  generalize hown : ow own w.heap.size B = own1 at *
  clear hown
  have HF0 := Lib.hid hf0
  clear hf0
  have hV : askV V 7 b i x y = V.touch b := by simp [askV]
  have hRv : askR A 7 b i x y = A.reach b := by simp [askR]
  have hok : askOk V A 7 b i x y = (sizeOk V A b) := by simp [askOk]
  have HV := Lib.hid hV
  have HRV := Lib.hid hRv
  have HOK := Lib.hid hok
  clear hV hRv hok
  go_wp2_with fail
  generalize ((w.alloc (.cells #[.slice ba A.blocks.length bc, .int .i64 A.most, .int .i64 A.faults] 56)).alloc (.cells #[.int .i64 7, .int .i64 b, .int .i64 i, .int .i64 x, .int .i64 y] 53)).alloc (.cells #[.slice none 0 0, .int .i64 0, .int .i64 0] 56) = wa at *
  refine (Size_any hSa hf b).mono ?_
  rintro e w2 ⟨rfl, own2, hE2, hS2⟩
  have hb1 := hb1.ext hE2 (fun h => hBk h.symm)
  have hb2 := hb2.ext hE2 (fun h => hBk h.symm)
  have hb3 := hb3.ext hE2 (fun h => hBk h.symm)
  have hR2 := hRa.ext hE2 (fun h => hkL h.symm)
  have hE02 := hEa.trans hE2
  have hn2 := hE02.size
  obtain ⟨c0, c1, c2⟩ := three hb1
  obtain ⟨o0, o1, o2, o3, o4⟩ := fiveO hb2
  clear hE2 hEa hRa hSa
  have HS2 := Lib.hid hS2
  have HE02 := Lib.hid hE02
  have HR2 := Lib.hid hR2
  clear hS2 hE02 hR2
  go_wp2_with fail
  refine (aReach_any HR2.out hrf b 0).mono ?_
  rintro e w3 ⟨v', rfl, hR3, hB⟩
  have hE3 : ∀ M, Ext M w2 w3 own2 (ow own2 w2.heap.size L) := fun M => Ext.of_below hB _ _
  have hS3 := HS2.out.ext (hE3 (fun _ => False)) (by simp)
  have hb3 := hb3.ext (hE3 (fun _ => False)) (by simp)
  have hb1 := hb1.ext (hE3 (fun _ => False)) (by simp)
  have hb2 := hb2.ext (hE3 (fun _ => False)) (by simp)
  have hRo := HR2.out.ext (hE3 (fun _ => False)) (by simp)
  have hE03 := HE02.out.trans (hE3 (fun c => c = k))
  clear HS2 HE02 HR2 hB c0 c1 c2 o0 o1 o2 o3 o4 hE3
  generalize ow own2 w2.heap.size L = own3 at *
  obtain ⟨sa', sc', rfl⟩ := hR3.agg
  have hYb := Blk.new (own := ow own3 w3.heap.size B) (k := B) w3 (.cells #[.slice sa' (A.reach b).blocks.length sc', .int .i64 (A.reach b).most, .int .i64 (A.reach b).faults] 56 (0, 0)) (ow_ge (Nat.le_refl _))
  have hX : ∀ M, Ext M w3 (w3.alloc (.cells #[.slice sa' (A.reach b).blocks.length sc', .int .i64 (A.reach b).most, .int .i64 (A.reach b).faults] 56)) own3 (ow own3 w3.heap.size B) := fun M => (Ext.refl.ow B).alloc _
  have hn3 := hb3.lt
  have hS4 := hS3.ext (hX (fun _ => False)) (by simp)
  have hR4 := hR3.ext (hX (fun _ => False)) (by simp)
  have hRo := hRo.ext (hX (fun _ => False)) (by simp)
  have hb1 := hb1.ext (hX (fun _ => False)) (by simp)
  have hb2 := hb2.ext (hX (fun _ => False)) (by simp)
  have hb4 := hb3.ext (hX (fun _ => False)) (by simp)
  have hE4 := hE03.trans (hX _)
  unfold withErr aAgg
  clear hX hS3 hR3 hb3 hE03
  go_wp2_with fail
  generalize hw3 : w3.heap.size = nb at *
  generalize w3.alloc (.cells #[.slice sa' (A.reach b).blocks.length sc', .int .i64 (A.reach b).most, .int .i64 (A.reach b).faults] 56) = w4 at *
  generalize ow own3 nb B = own4 at *
  obtain ⟨c0, c1, c2⟩ := three hb1
  obtain ⟨o0, o1, o2, o3, o4⟩ := fiveO hb2
  obtain ⟨n0, n1, n2⟩ := three hYb
  have HB5 := Lib.hid hb4.drew
  have hD : ∀ M, Ext M w4 w4.drew own4 own4 := fun M => Ext.refl.drew
  have hEND := as_end (by omega) hBk hBL (hE4.trans (hD _)) hb4.drew (hS4.ext (hD (fun _ => False)) (by simp)) (hR4.ext (hD (fun _ => False)) (by simp))
  have HEND := Lib.hid hEND
  clear hD
  have hf0 := HF0.out
  obtain ⟨j, rfl, hj, hblk⟩ := RA.reach_in hf0
  have hlen := hRo.1
  have hj2 : (j : Int) < A.blocks.length := by omega
  have hj0 : (0 : Int) ≤ j := by omega
  have hwj : IntKind.i64.wrap (j : Int) = j := by rw [IntKind.wrap_i64]; omega
  obtain ⟨g, xa, xc, rfl, hgl, hgc, hg, hx, hx256⟩ := hRo.at_ rfl hj
  have hgb : g ≠ w.heap.size + 1 + 1 := fun h => hBL (by rw [← hgc, ← hb4.col, h])
  have bf : (A.reachErr ((j : Int) + 1) 0 == 0) = true := by simp [hf0]
  have bf2 : (A.reachErr ((j : Int) + 1) 0 != 0) = false := by simp [hf0]
  have hok2 : sizeOk V A ((j : Int) + 1) = (V.freeErr ((j : Int) + 1) == A.reachErr ((j : Int) + 1) 0 && V.size ((j : Int) + 1) == (A.blocks[j].length : Int)) := by simp [sizeOk, hf0, hblk]
  rw [hok2] at HOK
  generalize A.blocks[j].length = q at *
  have HI := Lib.hid (show (AO nb w.heap.size (w.heap.size + 1) (.slice sa' (A.reach ((j : Int) + 1)).blocks.length sc') (.int .i64 (A.reach ((j : Int) + 1)).most) (.int .i64 (A.reach ((j : Int) + 1)).faults) (.slice (some ⟨g, 0, none⟩) A.blocks.length bc) (.int .i64 A.most) (.int .i64 A.faults) (.int .i64 7) (.int .i64 ((j : Int) + 1)) (.int .i64 i) (.int .i64 x) (.int .i64 y) g j (some (.slice xa q xc))) w4.drew from ⟨three hYb.drew, three hb1.drew, fiveO hb2.drew, fun v hv => by cases hv; exact hg⟩)
  have HNO := Lib.hid (show (AO nb w.heap.size (w.heap.size + 1) (.slice sa' (A.reach ((j : Int) + 1)).blocks.length sc') (.int .i64 (A.reach ((j : Int) + 1)).most) (.int .i64 (A.reach ((j : Int) + 1)).faults) (.slice (some ⟨g, 0, none⟩) A.blocks.length bc) (.int .i64 A.most) (.int .i64 A.faults) (.int .i64 7) (.int .i64 ((j : Int) + 1)) (.int .i64 i) (.int .i64 x) (.int .i64 y) g j (some (.slice xa q xc)))
      (putCells w4.drew (w.heap.size + 1 + 1) 0 [.slice sa' (A.reach ((j : Int) + 1)).blocks.length sc', .int .i64 (A.reach ((j : Int) + 1)).most, .int .i64 (A.reach ((j : Int) + 1)).faults]) from
    ⟨three (hYb.drew.putCells_other (by omega) _ _ _), three (hb1.drew.putCells_other (by omega) _ _ _), fiveO (hb2.drew.putCells_other (by omega) _ _ _), fun v hv => by cases hv; rw [cell_putCells_ne hgb]; exact hg⟩)
  clear hx hb1 hb2 hYb hb4 hE4 hS4 hR4 hRo hEND hf0 hblk hok2 o0 o1 o2 o3 o4 n0 n1 n2 c0 c1 c2
  refine wp_region_plan3 [(true, 0, [28, 29]), (true, 1, [3, 4, 5, 6, 7, 8, 9, 10, 11, 12, 13, 14, 15, 16, 17, 18, 19, 20, 21, 22, 23, 24, 25, 26, 27, 28, 29]), (true, 2, [3, 4, 5, 6, 7, 8, 9, 10, 11, 12, 13, 14, 15, 16, 17, 18, 19, 20, 21, 22, 23, 24, 25, 26, 27, 28, 29]), (true, 3, [4, 5, 6, 7, 8, 9, 10, 11, 12, 13, 14, 15, 16, 17, 18, 19, 20, 21, 22, 23, 24, 25, 26, 27, 28, 29]), (true, 4, [5, 6, 7, 8, 9, 10, 11, 12, 13, 14, 15, 16, 17, 18, 19, 20, 21, 22, 23, 24, 25, 26, 27, 28, 29]), (true, 5, [6, 7, 8, 9, 10, 11, 12, 13, 14, 15, 16, 17, 18, 19, 20, 21, 22, 23, 24, 25, 26, 27, 28, 29]), (true, 6, [7, 8, 9, 10, 11, 12, 13, 14, 15, 16, 17, 18, 19, 20, 21, 22, 23, 24, 25, 26, 27, 28, 29]), (true, 7, [8, 9, 10, 11, 12, 13, 14, 15, 16, 17, 18, 19, 20, 21, 22, 23, 24, 25, 26, 27, 28, 29]), (true, 8, [17, 18, 19, 20, 21, 22, 23, 24, 25, 26, 27, 28, 29]), (true, 9, [10, 14, 15, 16, 17, 18, 19, 20, 21, 22, 23, 24, 25, 26, 27, 28, 29]), (true, 10, [14, 15, 16, 17, 18, 19, 20, 21, 22, 23, 24, 25, 26, 27, 28, 29]), (true, 11, [12, 13, 14, 15, 16, 17, 18, 19, 20, 21, 22, 23, 24, 25, 26, 27, 28, 29]), (true, 12, [13, 14, 15, 16, 17, 18, 19, 20, 21, 22, 23, 24, 25, 26, 27, 28, 29]), (true, 13, [14, 15, 16, 17, 18, 19, 20, 21, 22, 23, 24, 25, 26, 27, 28, 29]), (true, 14, [15, 16, 17, 18, 19, 20, 21, 22, 23, 24, 25, 26, 27, 28, 29]), (true, 15, [16, 17, 18, 19, 20, 21, 22, 23, 24, 25, 26, 27, 28, 29]), (true, 16, [17, 18, 19, 20, 21, 22, 23, 24, 25, 26, 27, 28, 29]), (true, 17, [18, 19, 20, 21, 22, 23, 24, 25, 26, 27, 28, 29]), (true, 18, [19, 20, 21, 22, 23, 24, 25, 26, 27, 28, 29]), (true, 19, [20, 21, 22, 23, 24, 25, 26, 27, 28, 29]), (true, 20, [21, 22, 23, 24, 25, 26, 27, 28, 29]), (true, 21, [22, 23, 24, 25, 26, 27, 28, 29]), (true, 22, [23, 24, 25, 26, 27, 28, 29]), (true, 23, [24, 25, 26, 27, 29]), (true, 24, [25, 26, 27, 29]), (true, 25, [26, 27, 29]), (true, 26, [27, 29]), (true, 27, [29]), (false, 28, []), (true, 29, [])] (AO nb w.heap.size (w.heap.size + 1) (.slice sa' (A.reach ((j : Int) + 1)).blocks.length sc') (.int .i64 (A.reach ((j : Int) + 1)).most) (.int .i64 (A.reach ((j : Int) + 1)).faults) (.slice (some ⟨g, 0, none⟩) A.blocks.length bc) (.int .i64 A.most) (.int .i64 A.faults) (.int .i64 7) (.int .i64 ((j : Int) + 1)) (.int .i64 i) (.int .i64 x) (.int .i64 y) g j (some (.slice xa q xc))) (by kernel_rfl) (by kernel_rfl) (fun _ _ _ d _ h => by cases d <;> exact h) HI.out ?_
  clear HI
  generalize w4.drew = w5 at *
  iterate 5
    apply plan3_early
    case hi => rfl
    case h =>
      rintro w1 ⟨⟨n0, n1, n2⟩, ⟨c0, c1, c2⟩, ⟨o0, o1, o2, o3, o4⟩, hg⟩
      have hg := hg _ rfl
      still_step
      exact wpStill_nil rfl
  rcases Bool.eq_false_or_eq_true (V.freeErr ((j : Int) + 1) == A.reachErr ((j : Int) + 1) 0) with be | be
  · show wpPlan3 _ _ _ _ _ _ _
    iterate 15
      apply plan3_early
      case hi => rfl
      case h =>
        rintro w1 ⟨⟨n0, n1, n2⟩, ⟨c0, c1, c2⟩, ⟨o0, o1, o2, o3, o4⟩, hg⟩
        have hg := hg _ rfl
        still_step
        exact wpStill_nil rfl
    rcases Bool.eq_false_or_eq_true (V.size ((j : Int) + 1) == (q : Int)) with bs | bs
    all_goals
      iterate 8
        apply plan3_early
        case hi => rfl
        case h =>
          rintro w1 ⟨⟨n0, n1, n2⟩, ⟨c0, c1, c2⟩, ⟨o0, o1, o2, o3, o4⟩, hg⟩
          have hg := hg _ rfl
          still_step
          exact wpStill_nil rfl
      obtain ⟨d0, d1, d2⟩ := three HB5.out
      obtain ⟨f0, f1, f2⟩ := three_free HB5.out
      refine plan3_big rfl ?_
      go_wp2_with fail
      refine ⟨HNO.out, ?_⟩
      apply plan3_early
      case hi => rfl
      case h =>
        rintro w1 h1
        still_step
        exact wpStill_nil rfl
      refine plan3_nil ?_
      go_wp2
      ((try simp only [Exit.inBlock, Exit.then]); refine bodyPost_ret (results_ct rfl _ _ ((w.heap.size + 1 + 1)) 56 _ _ _ rfl (HEND.out.2) Try.underlying56 rfl (by kernel_rfl)) rfl ?_)
      refine HEND.out.1 _ _ _ _ HV.out.symm HRV.out.symm ?_
      first | exact HOK.out.symm | (rw [HOK.out]; simp [*])
  · show wpPlan3 _ _ _ _ _ _ _
    iterate 23
      apply plan3_early
      case hi => rfl
      case h =>
        rintro w1 ⟨⟨n0, n1, n2⟩, ⟨c0, c1, c2⟩, ⟨o0, o1, o2, o3, o4⟩, hg⟩
        have hg := hg _ rfl
        still_step
        exact wpStill_nil rfl
    obtain ⟨d0, d1, d2⟩ := three HB5.out
    obtain ⟨f0, f1, f2⟩ := three_free HB5.out
    refine plan3_big rfl ?_
    go_wp2_with fail
    refine ⟨HNO.out, ?_⟩
    apply plan3_early
    case hi => rfl
    case h =>
      rintro w1 h1
      still_step
      exact wpStill_nil rfl
    refine plan3_nil ?_
    go_wp2
    ((try simp only [Exit.inBlock, Exit.then]); refine bodyPost_ret (results_ct rfl _ _ ((w.heap.size + 1 + 1)) 56 _ _ _ rfl (HEND.out.2) Try.underlying56 rfl (by kernel_rfl)) rfl ?_)
    refine HEND.out.1 _ _ _ _ HV.out.symm HRV.out.symm ?_
    first | exact HOK.out.symm | (rw [HOK.out]; simp [*])
end
end Go.Proofs.Ytemibcglhbjaoaa
