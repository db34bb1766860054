/- Layer 2: one call against the document (asks), whatever the two arenas are. -/
import Derived.Test.YtemibcglhbjaoaaCellsDoes
import Derived.BigRegion
set_option maxRecDepth 20000
set_option linter.unusedVariables false
set_option linter.unusedSimpArgs false
namespace Go.Proofs.Ytemibcglhbjaoaa
open Go.RowKit Go.PM
section
variable {w : World} {own : Nat → Nat} {k a L : Nat} {V : AV} {v : Value} {A : RA}
set_option maxHeartbeats 8000000 in
theorem asks_3 (hS : Arena w own k a V) (hR : RefA w own L v A) (hkL : k ≠ L) (hf : V.faults < 1000000000000000) (hm : V.made < 1000000000000000) (hrf : -1 ≤ A.faults ∧ A.faults < 6000000000000000)
    (hlen2 : A.blocks.length < 4000000000000) (hmost : 0 ≤ A.most ∧ A.most ≤ 65536) (b i x y : Int) :
    Calls Try.prog 29 #[.pointer (some ⟨a, 0, none⟩), v, .agg #[.int .i64 3, .int .i64 b, .int .i64 i, .int .i64 x, .int .i64 y]] w (AsPost k a L (askV V 3 b i x y) (askR A 3 b i x y) (askOk V A 3 b i x y) w own) := by
  obtain ⟨ba, bc, rfl⟩ := hR.agg
  obtain ⟨hE, hb1, hb2, hb3⟩ := as_start w own (k + L + 1) (.cells #[.slice ba A.blocks.length bc, .int .i64 A.most, .int .i64 A.faults] 56 (0, 0)) (.cells #[.int .i64 3, .int .i64 b, .int .i64 i, .int .i64 x, .int .i64 y] 53 (0, 0)) (.cells #[.slice none 0 0, .int .i64 0, .int .i64 0] 56 (0, 0))
  have hBk : k ≠ k + L + 1 := by omega
  have hBL : L ≠ k + L + 1 := by omega
  have hSa := hS.ext (hE (fun _ => False)) (by simp)
  have hRa := hR.ext (hE (fun _ => False)) (by simp)
  have hEa := hE (fun c => c = k)
  generalize k + L + 1 = B at *
  clear hE hS hR
  unfold aAgg
  go_enter Try.func29, Try.ntmps29
  generalize hown : ow own w.heap.size B = own1 at *
  clear hown
  have hV : askV V 3 b i x y = cellV V 3 b i x y := by simp [askV]
  have hRv : askR A 3 b i x y = cellR A 3 b i x y := by simp [askR]
  have hok : askOk V A 3 b i x y = cellOk V A 3 b i x y := by simp [askOk]
  have HV := Lib.hid hV
  have HRV := Lib.hid hRv
  have HOK := Lib.hid hok
  clear hV hRv hok
  go_wp2_with fail
  generalize ((w.alloc (.cells #[.slice ba A.blocks.length bc, .int .i64 A.most, .int .i64 A.faults] 56)).alloc (.cells #[.int .i64 3, .int .i64 b, .int .i64 i, .int .i64 x, .int .i64 y] 53)).alloc (.cells #[.slice none 0 0, .int .i64 0, .int .i64 0] 56) = wa at *
  refine (cell_any hSa hRa hkL hf hrf 3 b i x y).mono ?_
  rintro e w2 ⟨v', own2, rfl, hE2, hS2, hR2⟩
  have hb3 := hb3.ext hE2 (fun h => hBk h.symm)
  have hE02 := hEa.trans hE2
  obtain ⟨sa', sc', rfl⟩ := hR2.agg
  have hEND := as_end (by omega) hBk hBL hE02 hb3 hS2 hR2
  obtain ⟨d0, d1, d2⟩ := three hb3
  obtain ⟨f0, f1, f2⟩ := three_free hb3
  have HEND := Lib.hid hEND
  clear hEND hb1 hb2 hb3 hSa hRa hEa hE2 hS2 hR2 hE02
  unfold aAgg
  go_wp2
  all_goals
    ((try simp only [Exit.inBlock, Exit.then]); refine bodyPost_ret (results_ct rfl _ _ ((w.heap.size + 1 + 1)) 56 _ _ _ rfl (HEND.out.2) Try.underlying56 rfl (by kernel_rfl)) rfl ?_)
    exact HEND.out.1 _ _ _ _ HV.out.symm HRV.out.symm HOK.out.symm
set_option maxHeartbeats 8000000 in
theorem asks_4 (hS : Arena w own k a V) (hR : RefA w own L v A) (hkL : k ≠ L) (hf : V.faults < 1000000000000000) (hm : V.made < 1000000000000000) (hrf : -1 ≤ A.faults ∧ A.faults < 6000000000000000)
    (hlen2 : A.blocks.length < 4000000000000) (hmost : 0 ≤ A.most ∧ A.most ≤ 65536) (b i x y : Int) :
    Calls Try.prog 29 #[.pointer (some ⟨a, 0, none⟩), v, .agg #[.int .i64 4, .int .i64 b, .int .i64 i, .int .i64 x, .int .i64 y]] w (AsPost k a L (askV V 4 b i x y) (askR A 4 b i x y) (askOk V A 4 b i x y) w own) := by
  obtain ⟨ba, bc, rfl⟩ := hR.agg
  obtain ⟨hE, hb1, hb2, hb3⟩ := as_start w own (k + L + 1) (.cells #[.slice ba A.blocks.length bc, .int .i64 A.most, .int .i64 A.faults] 56 (0, 0)) (.cells #[.int .i64 4, .int .i64 b, .int .i64 i, .int .i64 x, .int .i64 y] 53 (0, 0)) (.cells #[.slice none 0 0, .int .i64 0, .int .i64 0] 56 (0, 0))
  have hBk : k ≠ k + L + 1 := by omega
  have hBL : L ≠ k + L + 1 := by omega
  have hSa := hS.ext (hE (fun _ => False)) (by simp)
  have hRa := hR.ext (hE (fun _ => False)) (by simp)
  have hEa := hE (fun c => c = k)
  generalize k + L + 1 = B at *
  clear hE hS hR
  unfold aAgg
  go_enter Try.func29, Try.ntmps29
  generalize hown : ow own w.heap.size B = own1 at *
  clear hown
  have hV : askV V 4 b i x y = cellV V 4 b i x y := by simp [askV]
  have hRv : askR A 4 b i x y = cellR A 4 b i x y := by simp [askR]
  have hok : askOk V A 4 b i x y = cellOk V A 4 b i x y := by simp [askOk]
  have HV := Lib.hid hV
  have HRV := Lib.hid hRv
  have HOK := Lib.hid hok
  clear hV hRv hok
  go_wp2_with fail
  generalize ((w.alloc (.cells #[.slice ba A.blocks.length bc, .int .i64 A.most, .int .i64 A.faults] 56)).alloc (.cells #[.int .i64 4, .int .i64 b, .int .i64 i, .int .i64 x, .int .i64 y] 53)).alloc (.cells #[.slice none 0 0, .int .i64 0, .int .i64 0] 56) = wa at *
  refine (cell_any hSa hRa hkL hf hrf 4 b i x y).mono ?_
  rintro e w2 ⟨v', own2, rfl, hE2, hS2, hR2⟩
  have hb3 := hb3.ext hE2 (fun h => hBk h.symm)
  have hE02 := hEa.trans hE2
  obtain ⟨sa', sc', rfl⟩ := hR2.agg
  have hEND := as_end (by omega) hBk hBL hE02 hb3 hS2 hR2
  obtain ⟨d0, d1, d2⟩ := three hb3
  obtain ⟨f0, f1, f2⟩ := three_free hb3
  have HEND := Lib.hid hEND
  clear hEND hb1 hb2 hb3 hSa hRa hEa hE2 hS2 hR2 hE02
  unfold aAgg
  go_wp2
  all_goals
    ((try simp only [Exit.inBlock, Exit.then]); refine bodyPost_ret (results_ct rfl _ _ ((w.heap.size + 1 + 1)) 56 _ _ _ rfl (HEND.out.2) Try.underlying56 rfl (by kernel_rfl)) rfl ?_)
    exact HEND.out.1 _ _ _ _ HV.out.symm HRV.out.symm HOK.out.symm
set_option maxHeartbeats 8000000 in
theorem asks_5 (hS : Arena w own k a V) (hR : RefA w own L v A) (hkL : k ≠ L) (hf : V.faults < 1000000000000000) (hm : V.made < 1000000000000000) (hrf : -1 ≤ A.faults ∧ A.faults < 6000000000000000)
    (hlen2 : A.blocks.length < 4000000000000) (hmost : 0 ≤ A.most ∧ A.most ≤ 65536) (b i x y : Int) :
    Calls Try.prog 29 #[.pointer (some ⟨a, 0, none⟩), v, .agg #[.int .i64 5, .int .i64 b, .int .i64 i, .int .i64 x, .int .i64 y]] w (AsPost k a L (askV V 5 b i x y) (askR A 5 b i x y) (askOk V A 5 b i x y) w own) := by
  obtain ⟨ba, bc, rfl⟩ := hR.agg
  obtain ⟨hE, hb1, hb2, hb3⟩ := as_start w own (k + L + 1) (.cells #[.slice ba A.blocks.length bc, .int .i64 A.most, .int .i64 A.faults] 56 (0, 0)) (.cells #[.int .i64 5, .int .i64 b, .int .i64 i, .int .i64 x, .int .i64 y] 53 (0, 0)) (.cells #[.slice none 0 0, .int .i64 0, .int .i64 0] 56 (0, 0))
  have hBk : k ≠ k + L + 1 := by omega
  have hBL : L ≠ k + L + 1 := by omega
  have hSa := hS.ext (hE (fun _ => False)) (by simp)
  have hRa := hR.ext (hE (fun _ => False)) (by simp)
  have hEa := hE (fun c => c = k)
  generalize k + L + 1 = B at *
  clear hE hS hR
  unfold aAgg
  go_enter Try.func29, Try.ntmps29
  generalize hown : ow own w.heap.size B = own1 at *
  clear hown
  have hV : askV V 5 b i x y = cellV V 5 b i x y := by simp [askV]
  have hRv : askR A 5 b i x y = cellR A 5 b i x y := by simp [askR]
  have hok : askOk V A 5 b i x y = cellOk V A 5 b i x y := by simp [askOk]
  have HV := Lib.hid hV
  have HRV := Lib.hid hRv
  have HOK := Lib.hid hok
  clear hV hRv hok
  go_wp2_with fail
  generalize ((w.alloc (.cells #[.slice ba A.blocks.length bc, .int .i64 A.most, .int .i64 A.faults] 56)).alloc (.cells #[.int .i64 5, .int .i64 b, .int .i64 i, .int .i64 x, .int .i64 y] 53)).alloc (.cells #[.slice none 0 0, .int .i64 0, .int .i64 0] 56) = wa at *
  refine (cell_any hSa hRa hkL hf hrf 5 b i x y).mono ?_
  rintro e w2 ⟨v', own2, rfl, hE2, hS2, hR2⟩
  have hb3 := hb3.ext hE2 (fun h => hBk h.symm)
  have hE02 := hEa.trans hE2
  obtain ⟨sa', sc', rfl⟩ := hR2.agg
  have hEND := as_end (by omega) hBk hBL hE02 hb3 hS2 hR2
  obtain ⟨d0, d1, d2⟩ := three hb3
  obtain ⟨f0, f1, f2⟩ := three_free hb3
  have HEND := Lib.hid hEND
  clear hEND hb1 hb2 hb3 hSa hRa hEa hE2 hS2 hR2 hE02
  unfold aAgg
  go_wp2
  all_goals
    ((try simp only [Exit.inBlock, Exit.then]); refine bodyPost_ret (results_ct rfl _ _ ((w.heap.size + 1 + 1)) 56 _ _ _ rfl (HEND.out.2) Try.underlying56 rfl (by kernel_rfl)) rfl ?_)
    exact HEND.out.1 _ _ _ _ HV.out.symm HRV.out.symm HOK.out.symm
set_option maxHeartbeats 8000000 in
theorem asks_6 (hS : Arena w own k a V) (hR : RefA w own L v A) (hkL : k ≠ L) (hf : V.faults < 1000000000000000) (hm : V.made < 1000000000000000) (hrf : -1 ≤ A.faults ∧ A.faults < 6000000000000000)
    (hlen2 : A.blocks.length < 4000000000000) (hmost : 0 ≤ A.most ∧ A.most ≤ 65536) (b i x y : Int) :
    Calls Try.prog 29 #[.pointer (some ⟨a, 0, none⟩), v, .agg #[.int .i64 6, .int .i64 b, .int .i64 i, .int .i64 x, .int .i64 y]] w (AsPost k a L (askV V 6 b i x y) (askR A 6 b i x y) (askOk V A 6 b i x y) w own) := by
  obtain ⟨ba, bc, rfl⟩ := hR.agg
  obtain ⟨hE, hb1, hb2, hb3⟩ := as_start w own (k + L + 1) (.cells #[.slice ba A.blocks.length bc, .int .i64 A.most, .int .i64 A.faults] 56 (0, 0)) (.cells #[.int .i64 6, .int .i64 b, .int .i64 i, .int .i64 x, .int .i64 y] 53 (0, 0)) (.cells #[.slice none 0 0, .int .i64 0, .int .i64 0] 56 (0, 0))
  have hBk : k ≠ k + L + 1 := by omega
  have hBL : L ≠ k + L + 1 := by omega
  have hSa := hS.ext (hE (fun _ => False)) (by simp)
  have hRa := hR.ext (hE (fun _ => False)) (by simp)
  have hEa := hE (fun c => c = k)
  generalize k + L + 1 = B at *
  clear hE hS hR
  unfold aAgg
  go_enter Try.func29, Try.ntmps29
  generalize hown : ow own w.heap.size B = own1 at *
  clear hown
  have hV : askV V 6 b i x y = cellV V 6 b i x y := by simp [askV]
  have hRv : askR A 6 b i x y = cellR A 6 b i x y := by simp [askR]
  have hok : askOk V A 6 b i x y = cellOk V A 6 b i x y := by simp [askOk]
  have HV := Lib.hid hV
  have HRV := Lib.hid hRv
  have HOK := Lib.hid hok
  clear hV hRv hok
  go_wp2_with fail
  generalize ((w.alloc (.cells #[.slice ba A.blocks.length bc, .int .i64 A.most, .int .i64 A.faults] 56)).alloc (.cells #[.int .i64 6, .int .i64 b, .int .i64 i, .int .i64 x, .int .i64 y] 53)).alloc (.cells #[.slice none 0 0, .int .i64 0, .int .i64 0] 56) = wa at *
  refine (cell_any hSa hRa hkL hf hrf 6 b i x y).mono ?_
  rintro e w2 ⟨v', own2, rfl, hE2, hS2, hR2⟩
  have hb3 := hb3.ext hE2 (fun h => hBk h.symm)
  have hE02 := hEa.trans hE2
  obtain ⟨sa', sc', rfl⟩ := hR2.agg
  have hEND := as_end (by omega) hBk hBL hE02 hb3 hS2 hR2
  obtain ⟨d0, d1, d2⟩ := three hb3
  obtain ⟨f0, f1, f2⟩ := three_free hb3
  have HEND := Lib.hid hEND
  clear hEND hb1 hb2 hb3 hSa hRa hEa hE2 hS2 hR2 hE02
  unfold aAgg
  go_wp2
  all_goals
    ((try simp only [Exit.inBlock, Exit.then]); refine bodyPost_ret (results_ct rfl _ _ ((w.heap.size + 1 + 1)) 56 _ _ _ rfl (HEND.out.2) Try.underlying56 rfl (by kernel_rfl)) rfl ?_)
    exact HEND.out.1 _ _ _ _ HV.out.symm HRV.out.symm HOK.out.symm
end
end Go.Proofs.Ytemibcglhbjaoaa
