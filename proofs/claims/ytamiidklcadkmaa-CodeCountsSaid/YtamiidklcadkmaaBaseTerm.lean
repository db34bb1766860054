/- base.Term: a clause's term. -/
import Derived.Test.YtamiidklcadkmaaBaseOwn
set_option maxRecDepth 20000
set_option linter.unusedVariables false
set_option linter.unusedSimpArgs false
namespace Go.Proofs.Ytamiidklcadkmaa
open Go.RowKit Go.PM
def colonS : ByteArray := ⟨#[58, 45]⟩
/-- A clause's value. -/
def ClV (w : World) (C : Nat → Prop) (h b : Tm) (v : Value) : Prop := ∃ k1 s1 x1 sl1 k2 s2 x2 sl2, v = .agg #[.int .i64 k1, .string s1, .int .i64 x1, sl1, .int .i64 k2, .string s2, .int .i64 x2, sl2] ∧ TmV w C h (.agg #[.int .i64 k1, .string s1, .int .i64 x1, sl1]) ∧ TmV w C b (.agg #[.int .i64 k2, .string s2, .int .i64 x2, sl2])
theorem TmV_at {w : World} {C : Nat → Prop} {t : Tm} {k : Int} {s : ByteArray} {x : Int} {sl : Value} (h : TmV w C t (.agg #[.int .i64 k, .string s, .int .i64 x, sl])) : k = t.k ∧ s = t.s ∧ x = t.x ∧ rng64 t.k ∧ t.s.size ≤ 9223372036854775807 ∧ rng64 t.x ∧ Tm.At w C t sl := by
  obtain ⟨sl', he, h1, h2, h3, h4⟩ := h
  injection he with he
  have e0 := congrArg (fun a => a[0]?) he
  have e1 := congrArg (fun a => a[1]?) he
  have e2 := congrArg (fun a => a[2]?) he
  have e3 := congrArg (fun a => a[3]?) he
  simp at e0 e1 e2 e3
  subst e3
  exact ⟨e0, e1, e2, h1, h2, h3, h4⟩
theorem pair_at {w : World} {C : Nat → Prop} {h b : Tm} {k1 : Int} {s1 : ByteArray} {x1 : Int} {sl1 : Value} {k2 : Int} {s2 : ByteArray} {x2 : Int} {sl2 : Value} {g : Nat} (k : Int) (s : ByteArray) (x : Int) (c : Nat)
    (hh : TmV w C h (.agg #[.int .i64 k1, .string s1, .int .i64 x1, sl1])) (hb : TmV w C b (.agg #[.int .i64 k2, .string s2, .int .i64 x2, sl2]))
    (hg : w.heap[g]? = some (.cells #[.int .i64 k1, .string s1, .int .i64 x1, sl1, .int .i64 k2, .string s2, .int .i64 x2, sl2] 24 (0, 0))) (hC : C g) : Tm.At w C (.mk k s x [h, b]) (.slice (some ⟨g, 0, none⟩) 2 c) := by
  obtain ⟨e1, e2, e3, a1, a2, a3, a4⟩ := TmV_at hh
  obtain ⟨f1, f2, f3, b1, b2, b3, b4⟩ := TmV_at hb
  subst e1
  subst e2
  subst e3
  subst f1
  subst f2
  subst f3
  have hb : Blk w (fun _ => 0) 0 g _ := ⟨hg, rfl⟩
  unfold Tm.At
  refine .inr ⟨by simp, g, 0, c, rfl, hb.lt, hC, ?_⟩
  refine ⟨⟨hb.cell 0, hb.cell 1, hb.cell 2, a1, a2, a3, sl1, hb.cell 3, a4⟩, ⟨hb.cell 4, hb.cell 5, hb.cell 6, b1, b2, b3, sl2, hb.cell 7, b4⟩, trivial⟩
theorem TmV_new {w w' : World} {t : Tm} {v : Value} {n m : Nat} (h : TmV w (fun g => n ≤ g) t v) (hB : Below w.heap.size w w') (hm : m ≤ n) : TmV w' (fun g => m ≤ g) t v :=
  h.carry hB.size fun g hg hc => ⟨hB.block g hg, by show m ≤ g; omega⟩
def TmRet1 (w : World) (t : Tm) (e : Ending) (w' : World) : Prop := ∃ v', e = .returned v' ∧ TmV w' (fun g => w.heap.size ≤ g) t v' ∧ Below w.heap.size w w'
set_option maxHeartbeats 1000000 in
theorem Term_right (h b : Tm) (w : World) (C : Nat → Prop) (k1 : Int) (s1 : ByteArray) (x1 : Int) (a1 : Option Addr) (l1 c1 : Nat) (k2 : Int) (s2 : ByteArray) (x2 : Int) (a2 : Option Addr) (l2 c2 : Nat)
    (hh : TmV w C h (.agg #[.int .i64 k1, .string s1, .int .i64 x1, .slice a1 l1 c1])) (hb : TmV w C b (.agg #[.int .i64 k2, .string s2, .int .i64 x2, .slice a2 l2 c2])) (hr1 : Tm.rightN h = true) (hr2 : Tm.rightN b = true) :
    Calls Try.prog 24 #[.agg #[.int .i64 k1, .string s1, .int .i64 x1, .slice a1 l1 c1, .int .i64 k2, .string s2, .int .i64 x2, .slice a2 l2 c2]] w (TmRet1 w (.mk 4 colonS 0 [Tm.ren [] h, Tm.ren [] b])) := by
  have HH := Lib.hid (fun w2 (hB : Below w.heap.size w w2) => own_right h w2 C _ (TmV.below hh hB) hr1)
  have HBB := Lib.hid (fun w2 (hB : Below w.heap.size w w2) => own_right b w2 C _ (TmV.below hb hB) hr2)
  clear hh hb hr1 hr2
  obtain ⟨hb0, hb1, hB0, hz0⟩ := two_new w (.cells #[.int .i64 k1, .string s1, .int .i64 x1, .slice a1 l1 c1, .int .i64 k2, .string s2, .int .i64 x2, .slice a2 l2 c2] 26) (.cells #[.int .i64 0, .string noStr, .int .i64 0, .slice none 0 0] 24)
  have H0 := Lib.hid hb0
  have H1 := Lib.hid hb1
  have HB0 := Lib.hid hB0
  have HZ0 := Lib.hid hz0
  clear hb0 hb1 hB0 hz0
  go_enter Try.func24, Try.ntmps24
  go_wp2_with fail
  refine (HH.out _ HB0.out).mono ?_
  rintro e w3 ⟨v3, rfl, hv3, hB3⟩
  have hb0 := Blk_same H0.out hB3
  have H13 := Lib.hid (Blk_same H1.out hB3)
  have b4 := hb0.cell 4
  have b5 := hb0.cell 5
  have b6 := hb0.cell 6
  have b7 := hb0.cell 7
  simp at b4 b5 b6 b7
  have l0 := hb0.lt
  have hz3 := hB3.size
  have HB3 := Lib.hid (HB0.out.trans (hB3.mono HB0.out.size))
  have HV3 := Lib.hid hv3
  obtain ⟨a3, l3, c3, rfl, -, -, -, -⟩ := TmV_open hv3
  clear hB3 hb0 hv3 H0 H1 HH
  generalize Tm.ren [] h = h' at *
  generalize Tm.k h' = k3 at *
  generalize Tm.s h' = s3 at *
  generalize Tm.x h' = x3 at *
  have HCB := Lib.hid (HBB.out (w3.alloc (.cells #[.int .i64 k3, .string s3, .int .i64 x3, .slice a3 l3 c3] 24)) (HB3.out.alloc HB3.out.size _))
  go_wp2_with fail
  refine HCB.out.mono ?_
  rintro e w5 ⟨v5, rfl, hv5, hB5⟩
  have hn3 : Blk w5 (fun _ => 0) 0 w3.heap.size (.cells #[.int .i64 k3, .string s3, .int .i64 x3, .slice a3 l3 c3] 24 (0, 0)) := Blk_same (Blk.new w3 _ rfl) hB5
  have m0 := hn3.cell 0
  have m1 := hn3.cell 1
  have m2 := hn3.cell 2
  have m3 := hn3.cell 3
  simp at m0 m1 m2 m3
  have l3' := hn3.lt
  have hb1 := Blk_same (H13.out.alloc (.cells #[.int .i64 k3, .string s3, .int .i64 x3, .slice a3 l3 c3] 24)) hB5
  have H15 := Lib.hid hb1
  have f0 := hb1.free 0
  have f1 := hb1.free 1
  have f2 := hb1.free 2
  have f3 := hb1.free 3
  have l1' := hb1.lt
  have l1'' : w.heap.size + 1 < w5.heap.size + 1 := by omega
  have d0 : w5.cell? ⟨w.heap.size + 1, 0, none⟩ = some (.int .i64 0) := hb1.cell 0
  have d1 : w5.cell? ⟨w.heap.size + 1, 1, none⟩ = some (.string noStr) := hb1.cell 1
  have d2 : w5.cell? ⟨w.heap.size + 1, 2, none⟩ = some (.int .i64 0) := hb1.cell 2
  have d3 : w5.cell? ⟨w.heap.size + 1, 3, none⟩ = some (.slice none 0 0) := hb1.cell 3
  have HB5 := Lib.hid ((HB3.out.alloc HB3.out.size (.cells #[.int .i64 k3, .string s3, .int .i64 x3, .slice a3 l3 c3] 24)).trans (hB5.mono (by rw [World.size_alloc]; have := HB3.out.size; omega)))
  have hz5 := hB5.size
  rw [World.size_alloc] at hz5
  have HV5 := Lib.hid hv5
  have HV35 := Lib.hid (TmV_new (m := w.heap.size + 1 + 1) HV3.out (((Below.refl _ _).alloc (Nat.le_refl _) (.cells #[.int .i64 k3, .string s3, .int .i64 x3, .slice a3 l3 c3] 24)).trans (hB5.mono (by rw [World.size_alloc]; omega))) (by have := HZ0.out; omega))
  obtain ⟨a5, l5, c5, rfl, -, -, -, -⟩ := TmV_open hv5
  clear hB5 hb1 hv5 hn3 H13 HBB HCB HV3
  generalize Tm.ren [] b = b' at *
  generalize Tm.k b' = k5 at *
  generalize Tm.s b' = s5 at *
  generalize Tm.x b' = x5 at *
  go_wp2_with fail
  have hend := ((Blk.putCells (cs := [.int .i64 0, .string noStr, .int .i64 0, .slice none 0 0]) (vs := [.int .i64 4, .string colonS, .int .i64 0, .slice (some ⟨w5.heap.size + 1, 0, none⟩) 2 2]) H15.out rfl).alloc (.cells #[.int .i64 k5, .string s5, .int .i64 x5, .slice a5 l5 c5] 24)).alloc (.cells #[.int .i64 k3, .string s3, .int .i64 x3, .slice a3 l3 c3, .int .i64 k5, .string s5, .int .i64 x5, .slice a5 l5 c5] 24)
  have hbel := below_put HB5.out (b := w.heap.size + 1) (by omega) [.int .i64 4, .string colonS, .int .i64 0, .slice (some ⟨w5.heap.size + 1, 0, none⟩) 2 2]
  have hbel2 := (hbel.alloc hbel.size (.cells #[.int .i64 k5, .string s5, .int .i64 x5, .slice a5 l5 c5] 24)).alloc (by rw [World.size_alloc]; have := hbel.size; omega) (.cells #[.int .i64 k3, .string s3, .int .i64 x3, .slice a3 l3 c3, .int .i64 k5, .string s5, .int .i64 x5, .slice a5 l5 c5] 24)
  have hB2 : Below (putCells w5 (w.heap.size + 1) 0 [.int .i64 4, .string colonS, .int .i64 0, .slice (some ⟨w5.heap.size + 1, 0, none⟩) 2 2]).heap.size (putCells w5 (w.heap.size + 1) 0 [.int .i64 4, .string colonS, .int .i64 0, .slice (some ⟨w5.heap.size + 1, 0, none⟩) 2 2]) (((putCells w5 (w.heap.size + 1) 0 [.int .i64 4, .string colonS, .int .i64 0, .slice (some ⟨w5.heap.size + 1, 0, none⟩) 2 2]).alloc (.cells #[.int .i64 k5, .string s5, .int .i64 x5, .slice a5 l5 c5] 24)).alloc (.cells #[.int .i64 k3, .string s3, .int .i64 x3, .slice a3 l3 c3, .int .i64 k5, .string s5, .int .i64 x5, .slice a5 l5 c5] 24)) :=
    ((Below.refl _ _).alloc (Nat.le_refl _) _).alloc (by rw [World.size_alloc]; omega) _
  have t1 := TmV_new (m := w.heap.size) (TmV_put (b := w.heap.size + 1) HV35.out (by omega) [.int .i64 4, .string colonS, .int .i64 0, .slice (some ⟨w5.heap.size + 1, 0, none⟩) 2 2]) hB2 (by omega)
  have t2 := TmV_new (m := w.heap.size) (TmV_put (b := w.heap.size + 1) HV5.out (by rw [World.size_alloc]; omega) [.int .i64 4, .string colonS, .int .i64 0, .slice (some ⟨w5.heap.size + 1, 0, none⟩) 2 2]) hB2 (by rw [World.size_alloc]; omega)
  have hsz : (putCells w5 (w.heap.size + 1) 0 [.int .i64 4, .string colonS, .int .i64 0, .slice (some ⟨w5.heap.size + 1, 0, none⟩) 2 2]).heap.size = w5.heap.size := by simp [putCells]
  have hnew := heap_alloc_new ((putCells w5 (w.heap.size + 1) 0 [.int .i64 4, .string colonS, .int .i64 0, .slice (some ⟨w5.heap.size + 1, 0, none⟩) 2 2]).alloc (.cells #[.int .i64 k5, .string s5, .int .i64 x5, .slice a5 l5 c5] 24)) (.cells #[.int .i64 k3, .string s3, .int .i64 x3, .slice a3 l3 c3, .int .i64 k5, .string s5, .int .i64 x5, .slice a5 l5 c5] 24)
  rw [World.size_alloc, hsz] at hnew
  have hpair := pair_at 4 colonS 0 2 t1 t2 hnew (by show w.heap.size ≤ w5.heap.size + 1; omega)
  simp only [putCells, Nat.reduceAdd] at hend hbel2 hpair
  refine bodyPost_ret (v := .agg #[.int .i64 4, .string colonS, .int .i64 0, .slice (some ⟨w5.heap.size + 1, 0, none⟩) 2 2]) (results_cell_row rfl _ _ (w.heap.size + 1) 24 _ _ _ rfl hend.at_ Try.underlying24 rfl (by kernel_rfl)) rfl ?_
  refine ⟨_, rfl, ⟨_, rfl, ?_, ?_, ?_, hpair⟩, hbel2⟩
  · unfold rng64; show -9223372036854775808 ≤ (4 : Int) ∧ (4 : Int) ≤ 9223372036854775807; decide
  · show colonS.size ≤ _; decide
  · unfold rng64; show -9223372036854775808 ≤ (0 : Int) ∧ (0 : Int) ≤ 9223372036854775807; decide
theorem own_any (t : Tm) (w : World) (C : Nat → Prop) (v : Value) (hv : TmV w C t v) :
    Calls Try.prog 40 #[v] w (TmRet w (bif Tm.rightN t then Tm.ren [] t else .mk 0 noStr 0 []) [.int .i64 (bif Tm.rightN t then 0 else 70)]) := by
  cases hr : Tm.rightN t
  · exact own_wrong t w C v hv hr
  · exact own_right t w C v hv hr
def TmRetW (w : World) (t : Tm) (e : Ending) (w' : World) : Prop := ∃ v', e = .returned v' ∧ TmV w' (fun _ => True) t v' ∧ Below w.heap.size w w'
set_option maxHeartbeats 1000000 in
theorem Term_wrong (h b : Tm) (w : World) (C : Nat → Prop) (k1 : Int) (s1 : ByteArray) (x1 : Int) (a1 : Option Addr) (l1 c1 : Nat) (k2 : Int) (s2 : ByteArray) (x2 : Int) (a2 : Option Addr) (l2 c2 : Nat)
    (hh : TmV w C h (.agg #[.int .i64 k1, .string s1, .int .i64 x1, .slice a1 l1 c1])) (hb : TmV w C b (.agg #[.int .i64 k2, .string s2, .int .i64 x2, .slice a2 l2 c2])) (hr : Tm.rightN h = false ∨ Tm.rightN b = false) :
    Calls Try.prog 24 #[.agg #[.int .i64 k1, .string s1, .int .i64 x1, .slice a1 l1 c1, .int .i64 k2, .string s2, .int .i64 x2, .slice a2 l2 c2]] w (TmRetW w (.mk 4 colonS 0 [h, b])) := by
  have HH := Lib.hid (fun w2 (hB : Below w.heap.size w w2) => own_any h w2 C _ (TmV.below hh hB))
  have HBB := Lib.hid (fun w2 (hB : Below w.heap.size w w2) => own_any b w2 C _ (TmV.below hb hB))
  have HVH := Lib.hid hh
  have HVB := Lib.hid hb
  clear hh hb
  obtain ⟨gh, e1, HH, he1⟩ : ∃ gh e1, Hid (∀ w2, Below w.heap.size w w2 → Calls Try.prog 40 #[.agg #[.int .i64 k1, .string s1, .int .i64 x1, .slice a1 l1 c1]] w2 (TmRet w2 gh [.int .i64 e1])) ∧ e1 = bif Tm.rightN h then 0 else 70 := ⟨_, _, HH, rfl⟩
  obtain ⟨gb, e2, HBB, he2⟩ : ∃ gb e2, Hid (∀ w2, Below w.heap.size w w2 → Calls Try.prog 40 #[.agg #[.int .i64 k2, .string s2, .int .i64 x2, .slice a2 l2 c2]] w2 (TmRet w2 gb [.int .i64 e2])) ∧ e2 = bif Tm.rightN b then 0 else 70 := ⟨_, _, HBB, rfl⟩
  obtain ⟨hor⟩ : Nonempty (e1 = 70 ∨ (e1 = 0 ∧ e2 = 70)) := ⟨by
    subst he1
    subst he2
    cases hx1 : Tm.rightN h
    · exact .inl rfl
    · cases hx2 : Tm.rightN b
      · exact .inr ⟨rfl, rfl⟩
      · rw [hx1, hx2] at hr; simp at hr⟩
  clear he1 he2 hr
  rcases hor with rfl | ⟨rfl, rfl⟩
  all_goals
    obtain ⟨hb0, hb1, hB0, hz0⟩ := two_new w (.cells #[.int .i64 k1, .string s1, .int .i64 x1, .slice a1 l1 c1, .int .i64 k2, .string s2, .int .i64 x2, .slice a2 l2 c2] 26) (.cells #[.int .i64 0, .string noStr, .int .i64 0, .slice none 0 0] 24)
    have H0 := Lib.hid hb0
    have H1 := Lib.hid hb1
    have HB0 := Lib.hid hB0
    have HZ0 := Lib.hid hz0
    clear hb0 hb1 hB0 hz0
    go_enter Try.func24, Try.ntmps24
    go_wp2_with fail
    refine (HH.out _ HB0.out).mono ?_
    rintro e w3 ⟨v3, rfl, hv3, hB3⟩
    have hb0 := Blk_same H0.out hB3
    have H03 := Lib.hid hb0
    have H13 := Lib.hid (Blk_same H1.out hB3)
    have b4 := hb0.cell 4
    have b5 := hb0.cell 5
    have b6 := hb0.cell 6
    have b7 := hb0.cell 7
    simp at b4 b5 b6 b7
    have l0 := hb0.lt
    have hz3 := hB3.size
    have HB3 := Lib.hid (HB0.out.trans (hB3.mono HB0.out.size))
    have HV3 := Lib.hid hv3
    obtain ⟨a3, l3, c3, rfl, -, -, -, -⟩ := TmV_open hv3
    clear hB3 hb0 hv3 H0 H1 HH
    generalize gh = h' at *
    generalize Tm.k h' = k3 at *
    generalize Tm.s h' = s3 at *
    generalize Tm.x h' = x3 at *
    have HCB := Lib.hid (HBB.out (w3.alloc (.cells #[.int .i64 k3, .string s3, .int .i64 x3, .slice a3 l3 c3] 24)) (HB3.out.alloc HB3.out.size _))
    go_wp2_with fail
    refine HCB.out.mono ?_
    rintro e w5 ⟨v5, rfl, hv5, hB5⟩
    have hn3 : Blk w5 (fun _ => 0) 0 w3.heap.size (.cells #[.int .i64 k3, .string s3, .int .i64 x3, .slice a3 l3 c3] 24 (0, 0)) := Blk_same (Blk.new w3 _ rfl) hB5
    have m0 := hn3.cell 0
    have m1 := hn3.cell 1
    have m2 := hn3.cell 2
    have m3 := hn3.cell 3
    simp at m0 m1 m2 m3
    have l3' := hn3.lt
    have p0 := hn3.free 0
    have p1 := hn3.free 1
    have p2 := hn3.free 2
    have p3 := hn3.free 3
    have HN3 := Lib.hid hn3
    have hb05 := Blk_same (H03.out.alloc (.cells #[.int .i64 k3, .string s3, .int .i64 x3, .slice a3 l3 c3] 24)) hB5
    have b0 := hb05.cell 0
    have b1 := hb05.cell 1
    have b2 := hb05.cell 2
    have b3 := hb05.cell 3
    have b4 := hb05.cell 4
    have b5 := hb05.cell 5
    have b6 := hb05.cell 6
    have b7 := hb05.cell 7
    simp at b0 b1 b2 b3 b4 b5 b6 b7
    have l0 := hb05.lt
    clear hb05
    have hb1 := Blk_same (H13.out.alloc (.cells #[.int .i64 k3, .string s3, .int .i64 x3, .slice a3 l3 c3] 24)) hB5
    have H15 := Lib.hid hb1
    have f0 := hb1.free 0
    have f1 := hb1.free 1
    have f2 := hb1.free 2
    have f3 := hb1.free 3
    have l1' := hb1.lt
    have l1'' : w.heap.size + 1 < w5.heap.size + 1 := by omega
    have d0 : w5.cell? ⟨w.heap.size + 1, 0, none⟩ = some (.int .i64 0) := hb1.cell 0
    have d1 : w5.cell? ⟨w.heap.size + 1, 1, none⟩ = some (.string noStr) := hb1.cell 1
    have d2 : w5.cell? ⟨w.heap.size + 1, 2, none⟩ = some (.int .i64 0) := hb1.cell 2
    have d3 : w5.cell? ⟨w.heap.size + 1, 3, none⟩ = some (.slice none 0 0) := hb1.cell 3
    have HB5 := Lib.hid ((HB3.out.alloc HB3.out.size (.cells #[.int .i64 k3, .string s3, .int .i64 x3, .slice a3 l3 c3] 24)).trans (hB5.mono (by rw [World.size_alloc]; have := HB3.out.size; omega)))
    have hz5 := hB5.size
    rw [World.size_alloc] at hz5
    have HV5 := Lib.hid hv5
    have HV35 := Lib.hid (TmV_new (m := w.heap.size + 1 + 1) HV3.out (((Below.refl _ _).alloc (Nat.le_refl _) (.cells #[.int .i64 k3, .string s3, .int .i64 x3, .slice a3 l3 c3] 24)).trans (hB5.mono (by rw [World.size_alloc]; omega))) (by have := HZ0.out; omega))
    obtain ⟨a5, l5, c5, rfl, -, -, -, -⟩ := TmV_open hv5
    clear hB5 hb1 hv5 hn3 H13 HBB HCB HV3
    generalize gb = b' at *
    generalize Tm.k b' = k5 at *
    generalize Tm.s b' = s5 at *
    generalize Tm.x b' = x5 at *
    go_wp2_with fail
    go_region
    have hE6 : Ext (fun c => c = 7) w5 (putCells w5 w3.heap.size 0 [.int .i64 k1, .string s1, .int .i64 x1, .slice a1 l1 c1]) (fun b => if b = w3.heap.size then 7 else 0) (fun b => if b = w3.heap.size then 7 else 0) := Ext.putCells (M := fun c => c = 7) (fun _ => by simp) _ _ _ Ext.refl
    have hn6 := ((Blk.putCells (cs := [.int .i64 k3, .string s3, .int .i64 x3, .slice a3 l3 c3]) (vs := [.int .i64 k1, .string s1, .int .i64 x1, .slice a1 l1 c1]) HN3.out rfl).alloc (.cells #[.int .i64 k2, .string s2, .int .i64 x2, .slice a2 l2 c2] 24)).drew
    have hb6 := ((Blk.putCells_other (b := w3.heap.size) (by have := HZ0.out; omega) [.int .i64 k1, .string s1, .int .i64 x1, .slice a1 l1 c1] _ 0 H15.out).alloc (.cells #[.int .i64 k2, .string s2, .int .i64 x2, .slice a2 l2 c2] 24)).drew
    have hm6 := (Blk.new (own := fun _ => 0) (k := 0) (putCells w5 w3.heap.size 0 [.int .i64 k1, .string s1, .int .i64 x1, .slice a1 l1 c1]) (.cells #[.int .i64 k2, .string s2, .int .i64 x2, .slice a2 l2 c2] 24) rfl).drew
    have hB6 : Below w.heap.size w ((putCells w5 w3.heap.size 0 [.int .i64 k1, .string s1, .int .i64 x1, .slice a1 l1 c1]).alloc (.cells #[.int .i64 k2, .string s2, .int .i64 x2, .slice a2 l2 c2] 24)).drew := ((below_put HB5.out (b := w3.heap.size) (by omega) _).alloc (below_put HB5.out (b := w3.heap.size) (by omega) _).size _).drew
    rw [show (putCells w5 w3.heap.size 0 [.int .i64 k1, .string s1, .int .i64 x1, .slice a1 l1 c1]).heap.size = w5.heap.size by simp [putCells]] at hm6
    clear b0 b1 b2 b3 b4 b5 b6 b7 m0 m1 m2 m3 p0 p1 p2 p3 f0 f1 f2 f3 d0 d1 d2 d3 H15 HB5 HV5 HV35 HN3 hE6 l0 l1' l1'' l3'
    simp only [putCells, Nat.reduceAdd] at hn6 hb6 hm6 hB6
    generalize (((((w5.setCell ⟨w3.heap.size, 0, none⟩ (.int .i64 k1)).setCell ⟨w3.heap.size, 1, none⟩ (.string s1)).setCell ⟨w3.heap.size, 2, none⟩ (.int .i64 x1)).setCell ⟨w3.heap.size, 3, none⟩ (.slice a1 l1 c1)).alloc (.cells #[.int .i64 k2, .string s2, .int .i64 x2, .slice a2 l2 c2] 24)).drew = w6 at *
    have m0 := hn6.cell 0
    have m1 := hn6.cell 1
    have m2 := hn6.cell 2
    have m3 := hn6.cell 3
    have n0 := hm6.cell 0
    have n1 := hm6.cell 1
    have n2 := hm6.cell 2
    have n3 := hm6.cell 3
    have l3' := hn6.lt
    have l5' := hm6.lt
    simp at m0 m1 m2 m3 n0 n1 n2 n3
    have H15 := Lib.hid hb6
    have f0 := hb6.free 0
    have f1 := hb6.free 1
    have f2 := hb6.free 2
    have f3 := hb6.free 3
    have l1' := hb6.lt
    have d0 : w6.cell? ⟨w.heap.size + 1, 0, none⟩ = some (.int .i64 0) := hb6.cell 0
    have d1 : w6.cell? ⟨w.heap.size + 1, 1, none⟩ = some (.string noStr) := hb6.cell 1
    have d2 : w6.cell? ⟨w.heap.size + 1, 2, none⟩ = some (.int .i64 0) := hb6.cell 2
    have d3 : w6.cell? ⟨w.heap.size + 1, 3, none⟩ = some (.slice none 0 0) := hb6.cell 3
    have HB6 := Lib.hid hB6
    clear hn6 hm6 hb6 hB6
    go_wp2_with fail
    have hend := ((Blk.putCells (cs := [.int .i64 0, .string noStr, .int .i64 0, .slice none 0 0]) (vs := [.int .i64 4, .string colonS, .int .i64 0, .slice (some ⟨w6.heap.size, 0, none⟩) 2 2]) H15.out rfl).alloc (.cells #[.int .i64 k1, .string s1, .int .i64 x1, .slice a1 l1 c1, .int .i64 k2, .string s2, .int .i64 x2, .slice a2 l2 c2] 24))
    have hbel := below_put HB6.out (b := w.heap.size + 1) (by omega) [.int .i64 4, .string colonS, .int .i64 0, .slice (some ⟨w6.heap.size, 0, none⟩) 2 2]
    have hbel2 := (hbel.alloc hbel.size (.cells #[.int .i64 k1, .string s1, .int .i64 x1, .slice a1 l1 c1, .int .i64 k2, .string s2, .int .i64 x2, .slice a2 l2 c2] 24))
    have hsz : (putCells w6 (w.heap.size + 1) 0 [.int .i64 4, .string colonS, .int .i64 0, .slice (some ⟨w6.heap.size, 0, none⟩) 2 2]).heap.size = w6.heap.size := by simp [putCells]
    have hnew := heap_alloc_new (putCells w6 (w.heap.size + 1) 0 [.int .i64 4, .string colonS, .int .i64 0, .slice (some ⟨w6.heap.size, 0, none⟩) 2 2]) (.cells #[.int .i64 k1, .string s1, .int .i64 x1, .slice a1 l1 c1, .int .i64 k2, .string s2, .int .i64 x2, .slice a2 l2 c2] 24)
    rw [hsz] at hnew
    have hpair := pair_at (C := fun _ => True) 4 colonS 0 2 (HVH.out.carry hbel2.size fun g hg _ => ⟨hbel2.block g hg, trivial⟩) (HVB.out.carry hbel2.size fun g hg _ => ⟨hbel2.block g hg, trivial⟩) hnew trivial
    simp only [putCells, Nat.reduceAdd] at hend hbel2 hpair
    refine bodyPost_ret (v := .agg #[.int .i64 4, .string colonS, .int .i64 0, .slice (some ⟨w6.heap.size, 0, none⟩) 2 2]) (results_cell_row rfl _ _ (w.heap.size + 1) 24 _ _ _ rfl hend.at_ Try.underlying24 rfl (by kernel_rfl)) rfl ?_
    refine ⟨_, rfl, ⟨_, rfl, ?_, ?_, ?_, hpair⟩, hbel2⟩
    · unfold rng64; show -9223372036854775808 ≤ (4 : Int) ∧ (4 : Int) ≤ 9223372036854775807; decide
    · show colonS.size ≤ _; decide
    · unfold rng64; show -9223372036854775808 ≤ (0 : Int) ∧ (0 : Int) ≤ 9223372036854775807; decide
end Go.Proofs.Ytamiidklcadkmaa
