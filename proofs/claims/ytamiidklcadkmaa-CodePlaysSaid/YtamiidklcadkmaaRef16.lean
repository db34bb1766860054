/- The document's layer 16: Of, Whole, Sound, Renamed. -/
import Derived.Test.YtamiidklcadkmaaGoalPure
import Derived.Test.YtamiidklcadkmaaCodeAlive
import Derived.Test.YtamiidklcadkmaaLikeSelf
import Derived.Test.YtamiidklcadkmaaPlan5
set_option maxRecDepth 20000
set_option linter.unusedVariables false
set_option linter.unusedSimpArgs false
namespace Go.Proofs.Ytamiidklcadkmaa
open Go.RowKit Go.PM
theorem rOf_any (t : Tm) (w : World) (C : Nat → Prop) (v : Value) (hv : TmV w C t v) :
    Calls Try.prog 30 #[v] w fun e w' => e = .returned (.tuple #[.agg #[.string (Tm.predS t), .int .i64 (Tm.predN t)], .bool (Tm.isHead t)]) ∧ Below w.heap.size w w' := by
  obtain ⟨a2, l2, c2, rfl, wk, ws, wx, hat⟩ := TmV_open hv
  obtain ⟨hl2, hl3⟩ := at_len hat
  have HP := Lib.hid (show Tm.predS t = if t.k = 3 ∨ t.k = 4 then t.s else noStr from rfl)
  have HN := Lib.hid (show Tm.predN t = if t.k = 4 then t.ls.length else 0 from rfl)
  have HI := Lib.hid (show Tm.isHead t = (decide (t.k = 3) || decide (t.k = 4)) from rfl)
  rw [← hl2] at HN
  clear hv hat hl2
  generalize Tm.predS t = ps at *
  generalize Tm.predN t = pn at *
  generalize Tm.isHead t = ih at *
  generalize Tm.k t = k1 at *
  generalize Tm.s t = s1 at *
  generalize Tm.x t = x1 at *
  have hB0 : ∀ o1 o2, Below w.heap.size w ((w.alloc o1).alloc o2) := fun o1 o2 => ((Below.refl _ _).alloc (Nat.le_refl _) _).alloc (by rw [World.size_alloc]; omega) _
  have HB0 := Lib.hid hB0
  clear hB0
  by_cases k3 : k1 = 3
  · subst k3
    go_enter Try.func30, Try.ntmps30
    go_wp2_with fail
    refine bodyPost_ret (v := .tuple #[.agg #[.string s1, .int .i64 0], .bool true]) (by simp [results, Try.results30, go_sem]) rfl ⟨?_, HB0.out _ _⟩
    rw [HP.out, HN.out, HI.out]
    rfl
  by_cases k4 : k1 = 4
  · subst k4
    go_enter Try.func30, Try.ntmps30
    go_wp2_with fail
    refine bodyPost_ret (v := .tuple #[.agg #[.string s1, .int .i64 l2], .bool true]) (by simp [results, Try.results30, go_sem]) rfl ⟨?_, HB0.out _ _⟩
    rw [HP.out, HN.out, HI.out]
    rfl
  have b3 : (k1 == 3) = false := by simp [k3]
  have b4 : (k1 == 4) = false := by simp [k4]
  rw [if_neg (by omega)] at HP
  rw [if_neg k4] at HN
  rw [decide_eq_false k3, decide_eq_false k4] at HI
  clear k3 k4
  go_enter Try.func30, Try.ntmps30
  go_wp2_with fail
  refine bodyPost_ret (v := .tuple #[.agg #[.string noStr, .int .i64 0], .bool false]) (by simp [results, Try.results30, go_sem]; rfl) rfl ⟨?_, HB0.out _ _⟩
  rw [HP.out, HN.out, HI.out]
  rfl
set_option maxHeartbeats 1000000 in
theorem Whole_any (h b : Tm) (w : World) (C : Nat → Prop) (k1 : Int) (s1 : ByteArray) (x1 : Int) (a1 : Option Addr) (l1 c1 : Nat) (k2 : Int) (s2 : ByteArray) (x2 : Int) (a2 : Option Addr) (l2 c2 : Nat)
    (hh : TmV w C h (.agg #[.int .i64 k1, .string s1, .int .i64 x1, .slice a1 l1 c1])) (hb : TmV w C b (.agg #[.int .i64 k2, .string s2, .int .i64 x2, .slice a2 l2 c2])) :
    Calls Try.prog 31 #[.agg #[.int .i64 k1, .string s1, .int .i64 x1, .slice a1 l1 c1, .int .i64 k2, .string s2, .int .i64 x2, .slice a2 l2 c2]] w (TmRetT w (whole h b)) := by
  obtain ⟨hb0, hb1, hB0, hz0⟩ := two_new w (.cells #[.int .i64 k1, .string s1, .int .i64 x1, .slice a1 l1 c1, .int .i64 k2, .string s2, .int .i64 x2, .slice a2 l2 c2] 26) (.cells #[.int .i64 0, .string noStr, .int .i64 0, .slice none 0 0] 24)
  have H1 := Lib.hid hb1
  have HB0 := Lib.hid hB0
  have HZ0 := Lib.hid hz0
  have HVH := Lib.hid (fun w2 (hB : Below w.heap.size w w2) => TmV.below hh hB)
  have HVB := Lib.hid (fun w2 (hB : Below w.heap.size w w2) => TmV.below hb hB)
  clear hb0 hb1 hB0 hz0 hh hb
  go_enter Try.func31, Try.ntmps31
  go_wp2_with fail
  refine (C_any _ _ _ _ _).mono ?_
  rintro e w4 ⟨rfl, hB4⟩
  have hn := (Blk.new (own := fun _ => 0) (k := 0) ((w.alloc (.cells #[.int .i64 k1, .string s1, .int .i64 x1, .slice a1 l1 c1, .int .i64 k2, .string s2, .int .i64 x2, .slice a2 l2 c2] 26)).alloc (.cells #[.int .i64 0, .string noStr, .int .i64 0, .slice none 0 0] 24)) (.cells #[.int .i64 k1, .string s1, .int .i64 x1, .slice a1 l1 c1, .int .i64 k2, .string s2, .int .i64 x2, .slice a2 l2 c2] 24) rfl)
  rw [HZ0.out] at hn
  have hn4 := Blk_same hn hB4
  have hb1 := Blk_same (H1.out.alloc (.cells #[.int .i64 k1, .string s1, .int .i64 x1, .slice a1 l1 c1, .int .i64 k2, .string s2, .int .i64 x2, .slice a2 l2 c2] 24)) hB4
  have hB := HB0.out.alloc HB0.out.size (.cells #[.int .i64 k1, .string s1, .int .i64 x1, .slice a1 l1 c1, .int .i64 k2, .string s2, .int .i64 x2, .slice a2 l2 c2] 24)
  have HB4 := Lib.hid (hB.trans (hB4.mono hB.size))
  have HN4 := Lib.hid hn4
  have H14 := Lib.hid hb1
  have f0 := hb1.free 0
  have f1 := hb1.free 1
  have f2 := hb1.free 2
  have f3 := hb1.free 3
  have l1' := hb1.lt
  have d0 : w4.cell? ⟨w.heap.size + 1, 0, none⟩ = some (.int .i64 0) := hb1.cell 0
  have d1 : w4.cell? ⟨w.heap.size + 1, 1, none⟩ = some (.string noStr) := hb1.cell 1
  have d2 : w4.cell? ⟨w.heap.size + 1, 2, none⟩ = some (.int .i64 0) := hb1.cell 2
  have d3 : w4.cell? ⟨w.heap.size + 1, 3, none⟩ = some (.slice none 0 0) := hb1.cell 3
  clear hn hn4 hb1 hB hB4 H1
  go_wp2_with fail
  have hend := Blk.putCells (cs := [.int .i64 0, .string noStr, .int .i64 0, .slice none 0 0]) (vs := [.int .i64 4, .string colonS, .int .i64 0, .slice (some ⟨w.heap.size + 1 + 1, 0, none⟩) 2 2]) H14.out rfl
  have hbel := below_put HB4.out (b := w.heap.size + 1) (by omega) [.int .i64 4, .string colonS, .int .i64 0, .slice (some ⟨w.heap.size + 1 + 1, 0, none⟩) 2 2]
  have hnew : (putCells w4 (w.heap.size + 1) 0 [.int .i64 4, .string colonS, .int .i64 0, .slice (some ⟨w.heap.size + 1 + 1, 0, none⟩) 2 2]).heap[w.heap.size + 1 + 1]? = some (.cells #[.int .i64 k1, .string s1, .int .i64 x1, .slice a1 l1 c1, .int .i64 k2, .string s2, .int .i64 x2, .slice a2 l2 c2] 24 (0, 0)) := by
    have hE : Ext (fun c => c = 1) w4 (putCells w4 (w.heap.size + 1) 0 [.int .i64 4, .string colonS, .int .i64 0, .slice (some ⟨w.heap.size + 1 + 1, 0, none⟩) 2 2]) (fun g => if g = w.heap.size + 1 then 1 else 0) (fun g => if g = w.heap.size + 1 then 1 else 0) := Ext.putCells (M := fun c => c = 1) (fun _ => by simp) _ _ _ Ext.refl
    rw [hE.same _ HN4.out.lt (by rw [if_neg (by omega)]; decide)]
    exact HN4.out.at_
  have hT : ∀ t v, (∀ w2, Below w.heap.size w w2 → TmV w2 C t v) → TmV (putCells w4 (w.heap.size + 1) 0 [.int .i64 4, .string colonS, .int .i64 0, .slice (some ⟨w.heap.size + 1 + 1, 0, none⟩) 2 2]) (fun _ => True) t v := fun t v h => (h _ hbel).carry (Nat.le_refl _) fun _ _ _ => ⟨rfl, trivial⟩
  have hpair := pair_at 4 colonS 0 2 (hT _ _ HVH.out) (hT _ _ HVB.out) hnew trivial
  simp only [putCells, Nat.reduceAdd] at hend hbel hpair
  refine bodyPost_ret (v := .agg #[.int .i64 4, .string colonS, .int .i64 0, .slice (some ⟨w.heap.size + 1 + 1, 0, none⟩) 2 2]) (results_cell_row rfl _ _ (w.heap.size + 1) 24 _ _ _ rfl hend.at_ Try.underlying24 rfl (by kernel_rfl)) rfl ?_
  refine ⟨_, rfl, ⟨_, rfl, ?_, ?_, ?_, hpair⟩, hbel⟩
  · unfold rng64; show -9223372036854775808 ≤ (4 : Int) ∧ (4 : Int) ≤ 9223372036854775807; decide
  · show colonS.size ≤ _; decide
  · unfold rng64; show -9223372036854775808 ≤ (0 : Int) ∧ (0 : Int) ≤ 9223372036854775807; decide
def soundM (h b : Tm) : Bool := Tm.isHead h && (!(decide (b.k = 2)) && (Tm.rightN h && (Tm.rightN b && Tm.rightN (whole h b))))
theorem soundM_eq (h b : Tm) : soundM h b = compOk h b := by
  unfold soundM compOk
  cases hw : Tm.rightN (whole h b)
  · simp
  · obtain ⟨h1, h2⟩ := whole_parts hw
    rw [h1, h2]
    cases Tm.isHead h <;> cases decide (b.k = 2) <;> rfl
set_option maxHeartbeats 4000000 in
theorem Sound_any (h b : Tm) (w : World) (C : Nat → Prop) (k1 : Int) (s1 : ByteArray) (x1 : Int) (a1 : Option Addr) (l1 c1 : Nat) (k2 : Int) (s2 : ByteArray) (x2 : Int) (a2 : Option Addr) (l2 c2 : Nat)
    (hh : TmV w C h (.agg #[.int .i64 k1, .string s1, .int .i64 x1, .slice a1 l1 c1])) (hb : TmV w C b (.agg #[.int .i64 k2, .string s2, .int .i64 x2, .slice a2 l2 c2])) :
    Calls Try.prog 29 #[.agg #[.int .i64 k1, .string s1, .int .i64 x1, .slice a1 l1 c1, .int .i64 k2, .string s2, .int .i64 x2, .slice a2 l2 c2]] w fun e w' => e = .returned (.bool (soundM h b)) ∧ Below w.heap.size w w' := by
  have hb0 := Blk.new (own := fun _ => 0) (k := 0) w (.cells #[.int .i64 k1, .string s1, .int .i64 x1, .slice a1 l1 c1, .int .i64 k2, .string s2, .int .i64 x2, .slice a2 l2 c2] 26) rfl
  have hB0 := (Below.refl w.heap.size w).alloc (Nat.le_refl _) (.cells #[.int .i64 k1, .string s1, .int .i64 x1, .slice a1 l1 c1, .int .i64 k2, .string s2, .int .i64 x2, .slice a2 l2 c2] 26)
  have H0 := Lib.hid hb0
  have HB0 := Lib.hid hB0
  have HOF := Lib.hid (fun w2 (hB : Below w.heap.size w w2) => rOf_any h w2 C _ (TmV.below hh hB))
  have HR1 := Lib.hid (fun w2 (hB : Below w.heap.size w w2) => Right_any h w2 C _ (TmV.below hh hB))
  have HR2 := Lib.hid (fun w2 (hB : Below w.heap.size w w2) => Right_any b w2 C _ (TmV.below hb hB))
  have HWH := Lib.hid (fun w2 (hB : Below w.heap.size w w2) => Whole_any h b w2 C _ _ _ _ _ _ _ _ _ _ _ _ (TmV.below hh hB) (TmV.below hb hB))
  have EKB := Lib.hid (TmV_at hb).1
  have HSM := Lib.hid (show soundM h b = (Tm.isHead h && (!(decide (b.k = 2)) && (Tm.rightN h && (Tm.rightN b && Tm.rightN (whole h b))))) from rfl)
  have HRW := Lib.hid (fun w2 v2 (hv : TmV w2 (fun _ => True) (whole h b) v2) => Right_any (whole h b) w2 _ v2 hv)
  clear hb0 hB0 hh hb
  rw [← EKB.out] at HSM
  clear EKB
  generalize soundM h b = r at *
  generalize Tm.predS h = ps at *
  generalize Tm.predN h = pn at *
  generalize Tm.isHead h = ih at *
  generalize Tm.rightN (whole h b) = rw at *
  generalize whole h b = wh at *
  generalize Tm.rightN h = r1 at *
  generalize Tm.rightN b = r2 at *
  go_enter Try.func29, Try.ntmps29
  go_wp2_with fail
  refine (HOF.out _ HB0.out).mono ?_
  rintro e w2 ⟨rfl, hB2⟩
  have hb0 := Blk_same H0.out hB2
  have H02 := Lib.hid hb0
  have hB2' := HB0.out.trans (hB2.mono HB0.out.size)
  have HB2 := Lib.hid (hB2'.alloc hB2'.size (.cells #[.string ps, .int .i64 pn] 29))
  have hq := hb0.alloc (.cells #[.string ps, .int .i64 pn] 29)
  have HQ := Lib.hid hq
  have b0 := hb0.cell 0
  have b1 := hb0.cell 1
  have b2 := hb0.cell 2
  have b3 := hb0.cell 3
  have b4 := hb0.cell 4
  have b5 := hb0.cell 5
  have b6 := hb0.cell 6
  have b7 := hb0.cell 7
  simp at b0 b1 b2 b3 b4 b5 b6 b7
  have l0 := hb0.lt
  clear hB2 hB2' hb0 hq H0 HOF HB0 H02
  cases ih
  · have hr : r = false := HSM.out
    subst hr
    go_wp2_with fail
    go_ret
    exact ⟨rfl, HB2.out⟩
  by_cases hk : k2 = 2
  · subst hk
    have hr : r = false := HSM.out
    subst hr
    go_wp2_with fail
    go_ret
    exact ⟨rfl, HB2.out⟩
  have hk2 : (k2 == 2) = false := by simp [hk]
  have hk3 : (k2 != 2) = true := by simp [hk]
  have HS2 : Hid (r = (r1 && (r2 && rw))) := Lib.hid (by rw [HSM.out, decide_eq_false hk]; rfl)
  clear hk HSM
  go_wp2_with fail
  generalize (w2.alloc (.cells #[.string ps, .int .i64 pn] 29)) = w3 at *
  refine (HR1.out _ HB2.out).mono ?_
  rintro e w4 ⟨rfl, hB4⟩
  have hb0 := Blk_same HQ.out hB4
  have HQ4 := Lib.hid hb0
  have HB4 := Lib.hid (HB2.out.trans (hB4.mono HB2.out.size))
  clear b0 b1 b2 b3 b4 b5 b6 b7 l0
  have b0 := hb0.cell 0
  have b1 := hb0.cell 1
  have b2 := hb0.cell 2
  have b3 := hb0.cell 3
  have b4 := hb0.cell 4
  have b5 := hb0.cell 5
  have b6 := hb0.cell 6
  have b7 := hb0.cell 7
  simp at b0 b1 b2 b3 b4 b5 b6 b7
  have l0 := hb0.lt
  clear hB4 hb0 HQ HB2 HR1
  cases r1
  · have hr : r = false := HS2.out
    subst hr
    go_wp2_with fail
    go_ret
    exact ⟨rfl, HB4.out⟩
  go_wp2_with fail
  refine (HR2.out _ HB4.out).mono ?_
  rintro e w5 ⟨rfl, hB5⟩
  have hb0 := Blk_same HQ4.out hB5
  have HB5 := Lib.hid (HB4.out.trans (hB5.mono HB4.out.size))
  clear b0 b1 b2 b3 b4 b5 b6 b7 l0
  have b0 := hb0.cell 0
  have b1 := hb0.cell 1
  have b2 := hb0.cell 2
  have b3 := hb0.cell 3
  have b4 := hb0.cell 4
  have b5 := hb0.cell 5
  have b6 := hb0.cell 6
  have b7 := hb0.cell 7
  simp at b0 b1 b2 b3 b4 b5 b6 b7
  have l0 := hb0.lt
  clear hB5 hb0 HQ4 HB4 HR2
  cases r2
  · have hr : r = false := HS2.out
    subst hr
    go_wp2_with fail
    go_ret
    exact ⟨rfl, HB5.out⟩
  go_wp2_with fail
  refine (HWH.out _ HB5.out).mono ?_
  rintro e w6 ⟨v6, rfl, hv6, hB6⟩
  have HB6 := Lib.hid (HB5.out.trans (hB6.mono HB5.out.size))
  have HRR := Lib.hid (HRW.out _ _ hv6)
  clear b0 b1 b2 b3 b4 b5 b6 b7 l0 hv6 hB6 HB5 HWH HRW
  go_wp2_with fail
  refine HRR.out.mono ?_
  rintro e w7 ⟨rfl, hB7⟩
  have HB7 := Lib.hid (HB6.out.trans (hB7.mono HB6.out.size))
  have hr : r = rw := HS2.out
  subst hr
  clear hB7 HB6 HRR
  go_wp2_with fail
  go_ret
  exact ⟨rfl, HB7.out⟩
def ClRet (w : World) (h b : Tm) (e : Ending) (w' : World) : Prop :=
  ∃ a1 l1 c1 a2 l2 c2, e = .returned (.agg #[.int .i64 h.k, .string h.s, .int .i64 h.x, .slice a1 l1 c1, .int .i64 b.k, .string b.s, .int .i64 b.x, .slice a2 l2 c2]) ∧ TmV w' (fun _ => True) h (.agg #[.int .i64 h.k, .string h.s, .int .i64 h.x, .slice a1 l1 c1]) ∧ TmV w' (fun _ => True) b (.agg #[.int .i64 b.k, .string b.s, .int .i64 b.x, .slice a2 l2 c2]) ∧ Below w.heap.size w w'
set_option maxHeartbeats 4000000 in
theorem Renamed_any (h b : Tm) (w : World) (C : Nat → Prop) (k1 : Int) (s1 : ByteArray) (x1 : Int) (a1 : Option Addr) (l1 c1 : Nat) (k2 : Int) (s2 : ByteArray) (x2 : Int) (a2 : Option Addr) (l2 c2 : Nat)
    (hh : TmV w C h (.agg #[.int .i64 k1, .string s1, .int .i64 x1, .slice a1 l1 c1])) (hb : TmV w C b (.agg #[.int .i64 k2, .string s2, .int .i64 x2, .slice a2 l2 c2])) (hr : Tm.rightN (whole h b) = true) :
    Calls Try.prog 15 #[.agg #[.int .i64 k1, .string s1, .int .i64 x1, .slice a1 l1 c1, .int .i64 k2, .string s2, .int .i64 x2, .slice a2 l2 c2]] w (ClRet w (Tm.ren (clM h b) h) (Tm.ren (clM h b) b)) := by
  obtain ⟨hb0, hb1, hB0, hz0⟩ := two_new w (.cells #[.int .i64 k1, .string s1, .int .i64 x1, .slice a1 l1 c1, .int .i64 k2, .string s2, .int .i64 x2, .slice a2 l2 c2] 26) (.cells #[.int .i64 0, .string noStr, .int .i64 0, .slice none 0 0, .int .i64 0, .string noStr, .int .i64 0, .slice none 0 0] 26)
  have H1 := Lib.hid hb1
  have HB0 := Lib.hid hB0
  have HZ0 := Lib.hid hz0
  have HWH := Lib.hid (fun w2 (hB : Below w.heap.size w w2) => Whole_any h b w2 C _ _ _ _ _ _ _ _ _ _ _ _ (TmV.below hh hB) (TmV.below hb hB))
  have HRN := Lib.hid (fun w2 v2 (hv : TmV w2 (fun _ => True) (whole h b) v2) => (show Calls Try.prog 22 #[v2, .int .i64 1] w2 (TmRet w2 (whole (Tm.ren (clM h b) h) (Tm.ren (clM h b) b)) [.int .i64 (1 + (Tm.vars (whole h b) []).length)]) from rRename_right (whole h b) w2 _ v2 1 hv hr (by decide) (by decide)))
  clear hb0 hb1 hB0 hz0 hh hb hr
  generalize whole h b = wh at *
  generalize Tm.ren (clM h b) h = h' at *
  generalize Tm.ren (clM h b) b = b' at *
  generalize (Tm.vars wh []).length = vn at *
  go_enter Try.func15, Try.ntmps15
  go_wp2_with fail
  refine (HWH.out _ HB0.out).mono ?_
  rintro e w2 ⟨v2, rfl, hv2, hB2⟩
  have H12 := Lib.hid (Blk_same H1.out hB2)
  have HB2 := Lib.hid (HB0.out.trans (hB2.mono HB0.out.size))
  have HR2 := Lib.hid (HRN.out w2 v2 hv2)
  clear hv2 hB2 HRN HWH H1 HB0
  go_wp2_with fail
  refine HR2.out.mono ?_
  rintro e w3 ⟨v3, rfl, hv3, hB3⟩
  have H13 := Lib.hid (Blk_same H12.out hB3)
  have HB3 := Lib.hid (HB2.out.trans (hB3.mono HB2.out.size))
  have hz3 : w.heap.size + 1 + 1 ≤ w3.heap.size := by
    have := hB3.size
    have := H12.out.lt
    omega
  have HV3 := Lib.hid hv3
  have HB2s : Hid (w.heap.size + 1 + 1 ≤ w2.heap.size) := Lib.hid (by have := H12.out.lt; omega)
  obtain ⟨a3, l3, c3, rfl, -, -, -, hat3⟩ := TmV_open hv3
  have HL3 : Hid (l3 = 2) := Lib.hid (at_len hat3).1
  clear hB3 hv3 HR2 H12 HB2 hat3
  have hq0 : (whole h' b').ls.length = 2 := rfl
  obtain ⟨g, off, rfl, hg, hgc, hargs⟩ := arg_cells HV3.out (by show 0 < 2; omega)
  obtain ⟨a5, l5, c5, x0, x1, x2, x3, ht0⟩ := hargs 0 (by rw [hq0]; omega)
  obtain ⟨a6, l6, c6, y0, y1, y2, y3, ht1⟩ := hargs 1 (by rw [hq0]; omega)
  have e0 : targ (whole h' b') 0 = h' := rfl
  have e1 : targ (whole h' b') 1 = b' := rfl
  rw [e0] at x0 x1 x2 ht0
  rw [e1] at y0 y1 y2 ht1
  have HT0 := Lib.hid ht0
  have HT1 := Lib.hid ht1
  have hkw : Tm.k (whole h' b') = 4 := rfl
  have hsw : Tm.s (whole h' b') = colonS := rfl
  have hxw : Tm.x (whole h' b') = 0 := rfl
  rw [hkw, hsw, hxw]
  clear hargs hq0 ht0 ht1 e0 e1 hkw hsw hxw HV3
  simp only [Nat.zero_mul, Nat.one_mul, Nat.add_zero] at x0 x1 x2 x3 y0 y1 y2 y3
  have hal : ∀ o, ∀ i, (w3.alloc o).cell? ⟨g, i, none⟩ = w3.cell? ⟨g, i, none⟩ := fun o i => (((Below.refl w3.heap.size w3).alloc (Nat.le_refl _) o).cell (p := ⟨g, i, none⟩) hg)
  have hn := Blk.new (own := fun _ => 0) (k := 0) w3 (.cells #[.int .i64 4, .string colonS, .int .i64 0, .slice (some ⟨g, off, none⟩) l3 c3] 24) rfl
  have HF : Hid (Facts [(⟨w3.heap.size, 3, none⟩, .slice (some ⟨g, off, none⟩) l3 c3), (⟨g, off, none⟩, .int .i64 h'.k), (⟨g, off + 1, none⟩, .string h'.s), (⟨g, off + 2, none⟩, .int .i64 h'.x), (⟨g, off + 3, none⟩, .slice a5 l5 c5), (⟨g, off + 4, none⟩, .int .i64 b'.k), (⟨g, off + 4 + 1, none⟩, .string b'.s), (⟨g, off + 4 + 2, none⟩, .int .i64 b'.x), (⟨g, off + 4 + 3, none⟩, .slice a6 l6 c6)] (w3.alloc (.cells #[.int .i64 4, .string colonS, .int .i64 0, .slice (some ⟨g, off, none⟩) l3 c3] 24)).drew) := by
    refine Lib.hid ⟨hn.cell 3, ?_, ?_, ?_, ?_, ?_, ?_, ?_, ?_, trivial⟩
    · show (w3.alloc _).cell? _ = _; rw [hal]; exact x0
    · show (w3.alloc _).cell? _ = _; rw [hal]; exact x1
    · show (w3.alloc _).cell? _ = _; rw [hal]; exact x2
    · show (w3.alloc _).cell? _ = _; rw [hal]; exact x3
    · show (w3.alloc _).cell? _ = _; rw [hal]; exact y0
    · show (w3.alloc _).cell? _ = _; rw [hal]; exact y1
    · show (w3.alloc _).cell? _ = _; rw [hal]; exact y2
    · show (w3.alloc _).cell? _ = _; rw [hal]; exact y3
  have hb1 := (H13.out.alloc (.cells #[.int .i64 4, .string colonS, .int .i64 0, .slice (some ⟨g, off, none⟩) l3 c3] 24)).drew
  have HB4 := Lib.hid ((HB3.out.alloc HB3.out.size (.cells #[.int .i64 4, .string colonS, .int .i64 0, .slice (some ⟨g, off, none⟩) l3 c3] 24)).drew)
  have HT : ∀ t v, TmV w3 (fun g => w2.heap.size ≤ g) t v → TmV (w3.alloc (.cells #[.int .i64 4, .string colonS, .int .i64 0, .slice (some ⟨g, off, none⟩) l3 c3] 24)).drew (fun g => w.heap.size + 1 + 1 ≤ g) t v := fun t v h => by
    refine h.carry (by show w3.heap.size ≤ (w3.alloc _).heap.size; rw [World.size_alloc]; omega) fun u hu hc => ⟨?_, ?_⟩
    · show (w3.alloc _).heap[u]? = _
      rw [heap_alloc_old _ _ hu]
    · have := HB2s.out
      show w.heap.size + 1 + 1 ≤ u
      omega
  have HT0 := Lib.hid (HT _ _ HT0.out)
  have HT1 := Lib.hid (HT _ _ HT1.out)
  have H14 := Lib.hid hb1
  clear x0 x1 x2 x3 y0 y1 y2 y3 hal hn hb1 HT H13 HB3 hg
  obtain rfl : l3 = 2 := HL3.out
  go_wp2_with fail
  refine wp_region_plan4 [(true, 0, [1, 2, 3, 8, 9]), (true, 1, [2, 3, 8, 9]), (true, 2, [3, 8, 9]), (true, 3, [8, 9]), (true, 4, [5, 6, 7, 8, 9]), (true, 5, [6, 7, 8, 9]), (true, 6, [7, 8, 9]), (true, 7, [8, 9]), (true, 8, [9]), (false, 9, [])] 9 (Facts _) (by kernel_rfl) (by kernel_rfl) (fun _ _ _ d _ h => by cases d <;> exact h) HF.out ?_
  generalize (w3.alloc (.cells #[.int .i64 4, .string colonS, .int .i64 0, .slice (some ⟨g, off, none⟩) 2 c3] 24)).drew = w4 at *
  have hb1 := H14.out
  have f0 := hb1.free 0
  have f1 := hb1.free 1
  have f2 := hb1.free 2
  have f3 := hb1.free 3
  have f4 := hb1.free 4
  have f5 := hb1.free 5
  have f6 := hb1.free 6
  have f7 := hb1.free 7
  have l1' := hb1.lt
  have d0 : w4.cell? ⟨w.heap.size + 1, 0, none⟩ = some (.int .i64 0) := hb1.cell 0
  have d1 : w4.cell? ⟨w.heap.size + 1, 1, none⟩ = some (.string noStr) := hb1.cell 1
  have d2 : w4.cell? ⟨w.heap.size + 1, 2, none⟩ = some (.int .i64 0) := hb1.cell 2
  have d3 : w4.cell? ⟨w.heap.size + 1, 3, none⟩ = some (.slice none 0 0) := hb1.cell 3
  have d4 : w4.cell? ⟨w.heap.size + 1, 4, none⟩ = some (.int .i64 0) := hb1.cell 4
  have d5 : w4.cell? ⟨w.heap.size + 1, 5, none⟩ = some (.string noStr) := hb1.cell 5
  have d6 : w4.cell? ⟨w.heap.size + 1, 6, none⟩ = some (.int .i64 0) := hb1.cell 6
  have d7 : w4.cell? ⟨w.heap.size + 1, 7, none⟩ = some (.slice none 0 0) := hb1.cell 7
  clear hb1
  iterate 9
    apply plan4_early
    case hi => rfl
    case h =>
      intro w9 hf
      simp only [Facts] at hf
      obtain ⟨z0, z1, z2, z3, z4, z5, z6, z7, z8, _⟩ := hf
      still_step
      exact wpStill_nil rfl
  refine plan4_big rfl ?_
  go_wp2_with fail
  refine ⟨fun h => absurd rfl h, ?_⟩
  refine plan4_nil ?_
  go_wp2_with fail
  have hend := Blk.putCells (cs := [.int .i64 0, .string noStr, .int .i64 0, .slice none 0 0, .int .i64 0, .string noStr, .int .i64 0, .slice none 0 0]) (vs := [.int .i64 h'.k, .string h'.s, .int .i64 h'.x, .slice a5 l5 c5, .int .i64 b'.k, .string b'.s, .int .i64 b'.x, .slice a6 l6 c6]) H14.out rfl
  have hbel := below_put HB4.out (b := w.heap.size + 1) (by omega) [.int .i64 h'.k, .string h'.s, .int .i64 h'.x, .slice a5 l5 c5, .int .i64 b'.k, .string b'.s, .int .i64 b'.x, .slice a6 l6 c6]
  have t0 := (TmV_put (b := w.heap.size + 1) HT0.out (by omega) [.int .i64 h'.k, .string h'.s, .int .i64 h'.x, .slice a5 l5 c5, .int .i64 b'.k, .string b'.s, .int .i64 b'.x, .slice a6 l6 c6]).carry (C' := fun _ => True) (Nat.le_refl _) fun g hg hc => ⟨rfl, trivial⟩
  have t1 := (TmV_put (b := w.heap.size + 1) HT1.out (by omega) [.int .i64 h'.k, .string h'.s, .int .i64 h'.x, .slice a5 l5 c5, .int .i64 b'.k, .string b'.s, .int .i64 b'.x, .slice a6 l6 c6]).carry (C' := fun _ => True) (Nat.le_refl _) fun g hg hc => ⟨rfl, trivial⟩
  simp only [putCells, Nat.reduceAdd] at hend hbel t0 t1
  refine bodyPost_ret (results_cell_row rfl _ _ (w.heap.size + 1) 26 _ _ _ rfl hend.at_ Try.underlying26 rfl (by kernel_rfl)) rfl ?_
  exact ⟨_, _, _, _, _, _, rfl, t0, t1, hbel⟩
end Go.Proofs.Ytamiidklcadkmaa
