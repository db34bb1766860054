/- Layer 2: one call against the document (asks), whatever the two arenas are. -/
import Derived.Test.YtemibcglhbjaoaaCellsDoes
import Derived.BigRegion
set_option maxRecDepth 20000
set_option linter.unusedVariables false
set_option linter.unusedSimpArgs false
namespace Go.Proofs.Ytemibcglhbjaoaa
open Go.RowKit Go.PM
section
variable {w : World} {own : Nat → Nat} {k a L : Nat} {V : AV} {v : Value} {A : RA}
set_option maxHeartbeats 8000000 in
theorem asks_1 (hS : Arena w own k a V) (hR : RefA w own L v A) (hkL : k ≠ L) (hf : V.faults < 1000000000000000) (hm : V.made < 1000000000000000) (hrf : -1 ≤ A.faults ∧ A.faults < 6000000000000000)
    (hlen2 : A.blocks.length < 4000000000000) (hmost : 0 ≤ A.most ∧ A.most ≤ 65536) (b i x y : Int) :
    Calls Try.prog 29 #[.pointer (some ⟨a, 0, none⟩), v, .agg #[.int .i64 1, .int .i64 b, .int .i64 i, .int .i64 x, .int .i64 y]] w (AsPost k a L (askV V 1 b i x y) (askR A 1 b i x y) (askOk V A 1 b i x y) w own) := by
  obtain ⟨ba, bc, rfl⟩ := hR.agg
  obtain ⟨hE, hb1, hb2, hb3⟩ := as_start w own (k + L + 1) (.cells #[.slice ba A.blocks.length bc, .int .i64 A.most, .int .i64 A.faults] 56 (0, 0)) (.cells #[.int .i64 1, .int .i64 b, .int .i64 i, .int .i64 x, .int .i64 y] 53 (0, 0)) (.cells #[.slice none 0 0, .int .i64 0, .int .i64 0] 56 (0, 0))
  have hBk : k ≠ k + L + 1 := by omega
  have hBL : L ≠ k + L + 1 := by omega
  have hSa := hS.ext (hE (fun _ => False)) (by simp)
  have hRa := hR.ext (hE (fun _ => False)) (by simp)
  have hEa := hE (fun c => c = k)
  generalize k + L + 1 = B at *
  clear hE hS hR
  unfold aAgg
  go_enter Try.func29, Try.ntmps29
  generalize hown : ow own w.heap.size B = own1 at *
  clear hown
  have hV : askV V 1 b i x y = V.alloc i := by simp [askV]
  have hRv : askR A 1 b i x y = A.alloc i := by simp [askR]
  have hok : askOk V A 1 b i x y = (V.allocId i == A.allocId i && V.allocErr i == A.allocErr i) := by simp [askOk]
  have HV := Lib.hid hV
  have HRV := Lib.hid hRv
  have HOK := Lib.hid hok
  clear hV hRv hok
  go_wp2_with fail
  generalize ((w.alloc (.cells #[.slice ba A.blocks.length bc, .int .i64 A.most, .int .i64 A.faults] 56)).alloc (.cells #[.int .i64 1, .int .i64 b, .int .i64 i, .int .i64 x, .int .i64 y] 53)).alloc (.cells #[.slice none 0 0, .int .i64 0, .int .i64 0] 56) = wa at *
  refine ((show Calls Try.prog 23 #[.pointer (some ⟨a, 0, none⟩), .int .i64 i] wa (ArPost k a (V.alloc i) wa own1 (.tuple #[.int .i64 (V.allocId i), .int .i64 (V.allocErr i)])) from Alloc_any hSa hm i)).mono ?_
  rintro e w2 ⟨rfl, own2, hE2, hS2⟩
  have hb1 := hb1.ext hE2 (fun h => hBk h.symm)
  have hb2 := hb2.ext hE2 (fun h => hBk h.symm)
  have hb3 := hb3.ext hE2 (fun h => hBk h.symm)
  have hR2 := hRa.ext hE2 (fun h => hkL h.symm)
  have hE02 := hEa.trans hE2
  have hn2 := hE02.size
  obtain ⟨c0, c1, c2⟩ := three hb1
  obtain ⟨o0, o1, o2, o3, o4⟩ := fiveO hb2
  clear hE2 hEa hRa hSa
  have HS2 := Lib.hid hS2
  have HE02 := Lib.hid hE02
  have HR2 := Lib.hid hR2
  clear hS2 hE02 hR2
  go_wp2_with fail
  refine (aAlloc_any HR2.out hlen2 hmost i).mono ?_
  rintro e w3 ⟨v', rfl, hR3, hB⟩
  have hE3 : ∀ M, Ext M w2 w3 own2 (ow own2 w2.heap.size L) := fun M => Ext.of_below hB _ _
  have hS3 := HS2.out.ext (hE3 (fun _ => False)) (by simp)
  have hb3 := hb3.ext (hE3 (fun _ => False)) (by simp)
  have hb1 := hb1.ext (hE3 (fun _ => False)) (by simp)
  have hb2 := hb2.ext (hE3 (fun _ => False)) (by simp)
  have hRo := HR2.out.ext (hE3 (fun _ => False)) (by simp)
  have hE03 := HE02.out.trans (hE3 (fun c => c = k))
  clear HS2 HE02 HR2 hB c0 c1 c2 o0 o1 o2 o3 o4 hE3
  generalize ow own2 w2.heap.size L = own3 at *
  obtain ⟨sa', sc', rfl⟩ := hR3.agg
  have hX := Ext.refl (M := fun _ => False) (w := w3) (own := own3)
  have hX := hX.alloc (.cells #[.slice sa' (A.alloc i).blocks.length sc', .int .i64 (A.alloc i).most, .int .i64 (A.alloc i).faults] 56)
  have hS4 := hS3.ext hX (by simp)
  have hR4 := hR3.ext hX (by simp)
  have hb4 := hb3.ext hX (by simp)
  have hE4 := hE03.trans (hX.mono (M' := fun c => c = k) (by simp))
  have hEND := as_end (by omega) hBk hBL hE4 hb4 hS4 hR4
  obtain ⟨d0, d1, d2⟩ := three hb4
  obtain ⟨f0, f1, f2⟩ := three_free hb4
  simp only [putCells, Nat.reduceAdd] at hEND
  have HEND := Lib.hid hEND
  clear hEND hX hS3 hS4 hR3 hR4 hb3 hb4 hE03 hE4 hb1 hb2 hRo
  unfold withTwo aAgg
  go_wp2
  all_goals
    ((try simp only [Exit.inBlock, Exit.then]); refine bodyPost_ret (results_ct rfl _ _ ((w.heap.size + 1 + 1)) 56 _ _ _ rfl (HEND.out.2) Try.underlying56 rfl (by kernel_rfl)) rfl ?_)
    refine HEND.out.1 _ _ _ _ HV.out.symm HRV.out.symm ?_
    first | exact HOK.out.symm | (rw [HOK.out]; simp [*])
set_option maxHeartbeats 8000000 in
theorem asks_2 (hS : Arena w own k a V) (hR : RefA w own L v A) (hkL : k ≠ L) (hf : V.faults < 1000000000000000) (hm : V.made < 1000000000000000) (hrf : -1 ≤ A.faults ∧ A.faults < 6000000000000000)
    (hlen2 : A.blocks.length < 4000000000000) (hmost : 0 ≤ A.most ∧ A.most ≤ 65536) (b i x y : Int) :
    Calls Try.prog 29 #[.pointer (some ⟨a, 0, none⟩), v, .agg #[.int .i64 2, .int .i64 b, .int .i64 i, .int .i64 x, .int .i64 y]] w (AsPost k a L (askV V 2 b i x y) (askR A 2 b i x y) (askOk V A 2 b i x y) w own) := by
  obtain ⟨ba, bc, rfl⟩ := hR.agg
  obtain ⟨hE, hb1, hb2, hb3⟩ := as_start w own (k + L + 1) (.cells #[.slice ba A.blocks.length bc, .int .i64 A.most, .int .i64 A.faults] 56 (0, 0)) (.cells #[.int .i64 2, .int .i64 b, .int .i64 i, .int .i64 x, .int .i64 y] 53 (0, 0)) (.cells #[.slice none 0 0, .int .i64 0, .int .i64 0] 56 (0, 0))
  have hBk : k ≠ k + L + 1 := by omega
  have hBL : L ≠ k + L + 1 := by omega
  have hSa := hS.ext (hE (fun _ => False)) (by simp)
  have hRa := hR.ext (hE (fun _ => False)) (by simp)
  have hEa := hE (fun c => c = k)
  generalize k + L + 1 = B at *
  clear hE hS hR
  unfold aAgg
  go_enter Try.func29, Try.ntmps29
  generalize hown : ow own w.heap.size B = own1 at *
  clear hown
  have hV : askV V 2 b i x y = V.free b := by simp [askV]
  have hRv : askR A 2 b i x y = A.free b := by simp [askR]
  have hok : askOk V A 2 b i x y = (V.freeErr b == A.freeErr b) := by simp [askOk]
  have HV := Lib.hid hV
  have HRV := Lib.hid hRv
  have HOK := Lib.hid hok
  clear hV hRv hok
  go_wp2_with fail
  generalize ((w.alloc (.cells #[.slice ba A.blocks.length bc, .int .i64 A.most, .int .i64 A.faults] 56)).alloc (.cells #[.int .i64 2, .int .i64 b, .int .i64 i, .int .i64 x, .int .i64 y] 53)).alloc (.cells #[.slice none 0 0, .int .i64 0, .int .i64 0] 56) = wa at *
  refine (Free_any hSa hf b).mono ?_
  rintro e w2 ⟨rfl, own2, hE2, hS2⟩
  have hb1 := hb1.ext hE2 (fun h => hBk h.symm)
  have hb2 := hb2.ext hE2 (fun h => hBk h.symm)
  have hb3 := hb3.ext hE2 (fun h => hBk h.symm)
  have hR2 := hRa.ext hE2 (fun h => hkL h.symm)
  have hE02 := hEa.trans hE2
  have hn2 := hE02.size
  obtain ⟨c0, c1, c2⟩ := three hb1
  obtain ⟨o0, o1, o2, o3, o4⟩ := fiveO hb2
  clear hE2 hEa hRa hSa
  have HS2 := Lib.hid hS2
  have HE02 := Lib.hid hE02
  have HR2 := Lib.hid hR2
  clear hS2 hE02 hR2
  go_wp2_with fail
  refine (aFree_any HR2.out hrf b).mono ?_
  rintro e w3 ⟨v', rfl, hR3, hB⟩
  have hE3 : ∀ M, Ext M w2 w3 own2 (ow own2 w2.heap.size L) := fun M => Ext.of_below hB _ _
  have hS3 := HS2.out.ext (hE3 (fun _ => False)) (by simp)
  have hb3 := hb3.ext (hE3 (fun _ => False)) (by simp)
  have hb1 := hb1.ext (hE3 (fun _ => False)) (by simp)
  have hb2 := hb2.ext (hE3 (fun _ => False)) (by simp)
  have hRo := HR2.out.ext (hE3 (fun _ => False)) (by simp)
  have hE03 := HE02.out.trans (hE3 (fun c => c = k))
  clear HS2 HE02 HR2 hB c0 c1 c2 o0 o1 o2 o3 o4 hE3
  generalize ow own2 w2.heap.size L = own3 at *
  obtain ⟨sa', sc', rfl⟩ := hR3.agg
  have hX := Ext.refl (M := fun _ => False) (w := w3) (own := own3)
  have hX := hX.alloc (.cells #[.slice sa' (A.free b).blocks.length sc', .int .i64 (A.free b).most, .int .i64 (A.free b).faults] 56)
  have hS4 := hS3.ext hX (by simp)
  have hR4 := hR3.ext hX (by simp)
  have hb4 := hb3.ext hX (by simp)
  have hE4 := hE03.trans (hX.mono (M' := fun c => c = k) (by simp))
  have hEND := as_end (by omega) hBk hBL hE4 hb4 hS4 hR4
  obtain ⟨d0, d1, d2⟩ := three hb4
  obtain ⟨f0, f1, f2⟩ := three_free hb4
  simp only [putCells, Nat.reduceAdd] at hEND
  have HEND := Lib.hid hEND
  clear hEND hX hS3 hS4 hR3 hR4 hb3 hb4 hE03 hE4 hb1 hb2 hRo
  unfold withErr aAgg
  go_wp2
  all_goals
    ((try simp only [Exit.inBlock, Exit.then]); refine bodyPost_ret (results_ct rfl _ _ ((w.heap.size + 1 + 1)) 56 _ _ _ rfl (HEND.out.2) Try.underlying56 rfl (by kernel_rfl)) rfl ?_)
    refine HEND.out.1 _ _ _ _ HV.out.symm HRV.out.symm ?_
    first | exact HOK.out.symm | (rw [HOK.out]; simp [*])
end
end Go.Proofs.Ytemibcglhbjaoaa
