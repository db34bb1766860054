/- The document's Goal. -/
import Derived.Test.YtamiidklcadkmaaRCompile
set_option maxRecDepth 20000
set_option linter.unusedVariables false
set_option linter.unusedSimpArgs false
namespace Go.Proofs.Ytamiidklcadkmaa
open Go.RowKit Go.PM
def GgInv (w1 : World) (own1 : Nat → Nat) (N : Nat) (g : Nat) (ov iv : Value) (w : World) : Prop :=
  ∃ (own : Nat → Nat) (i : Nat), iv = .int .i64 ((i : Int) + 1) ∧ i + g = N ∧ TRow w own 2 (fun _ => False) ov (goalVars i) ∧ Ext (fun c => c = 2) w1 w own1 own
set_option maxHeartbeats 8000000 in
theorem rGoal_any (t : Tm) (w : World) (C : Nat → Prop) (k : Int) (s : ByteArray) (x : Int) (a : Option Addr) (l c : Nat) (hv : TmV w C t (.agg #[.int .i64 k, .string s, .int .i64 x, .slice a l c])) (hr : Tm.rightN t = true) :
    Calls Try.prog 13 #[.agg #[.int .i64 k, .string s, .int .i64 x, .slice a l c]] w (fun e w' => ∃ v, e = .returned v ∧ RCdV w' (fun _ => True) v (goalC t) ∧ Below w.heap.size w w') := by
  obtain ⟨hb0, hb1, hB0, hz0⟩ := two_new w (.cells #[.int .i64 k, .string s, .int .i64 x, .slice a l c] 24) (.cells #[.string ⟨#[]⟩, .int .i64 0, .int .i64 0, .int .i64 0, .slice none 0 0] 38)
  have H1 := Lib.hid hb1
  have HB0 := Lib.hid hB0
  have HRN := Lib.hid (fun w2 (hB : Below w.heap.size w w2) => (show Calls Try.prog 22 #[.agg #[.int .i64 k, .string s, .int .i64 x, .slice a l c], .int .i64 1] w2 (TmRet w2 (ren1 t) [.int .i64 (1 + goalN t)]) from rRename_right t w2 C _ 1 (TmV.below hv hB) hr (by decide) (by decide)))
  obtain ⟨q1, q2, q3⟩ := (rightN_iff t).1 hr
  have hsz : Tm.sz (ren1 t) ≤ 2000 := by unfold ren1; rw [ren_sz]; omega
  have hdp : Tm.dp (ren1 t) ≤ 100 := by unfold ren1; rw [ren_dp]; omega
  have hN : goalN t ≤ 2000 := by
    have h1 := vars_len t []
    simp only [List.length_nil] at h1
    unfold goalN
    omega
  have HCM := Lib.hid (show goalC t = codeOf (goalVars (goalN t)) (ren1 t) (sGoal, (goalN t : Int)) (goalN t) from rfl)
  clear hb0 hb1 hB0 hv hr q1 q2 q3 hz0
  generalize goalC t = cm at *
  generalize ren1 t = t1 at *
  generalize goalN t = N at *
  go_enter Try.func13, Try.ntmps13
  go_wp2_with fail
  refine (HRN.out _ HB0.out).mono ?_
  rintro e w2 ⟨v2, rfl, hv2, hB2⟩
  obtain ⟨a1, l1, c1, rfl, -, -, -, -⟩ := TmV_open hv2
  have H12 := Blk_same H1.out hB2
  have HB2 := Lib.hid (HB0.out.trans (hB2.mono HB0.out.size))
  have hT2 := TmV.lt hv2
  clear hB2 hv2 H1 HB0 HRN
  have hal : Below w2.heap.size w2 (w2.alloc (.cells #[.int .i64 t1.k, .string t1.s, .int .i64 t1.x, .slice a1 l1 c1] 24)) := (Below.refl _ _).alloc (Nat.le_refl _) _
  have hX3 : Ext (fun c => c = 2) w2 ((w2.alloc (.cells #[.int .i64 t1.k, .string t1.s, .int .i64 t1.x, .slice a1 l1 c1] 24)).alloc (.cells #[] 24)) (fun _ => 0) (ow (fun _ => 0) (w2.heap.size + 1) 2) := by
    have h1 := Ext_same (M := fun c => c = 2) (fun _ => 0) hal
    have h2 := (Ext.refl (M := fun c => c = 2) (w := (w2.alloc (.cells #[.int .i64 t1.k, .string t1.s, .int .i64 t1.x, .slice a1 l1 c1] 24))) (own := fun _ => 0)).ow 2
    have h3 := h1.trans (h2.alloc (.cells #[] 24))
    rwa [World.size_alloc] at h3
  have HT3 := Lib.hid ((Blk.new (own := fun _ => 0) (k := 0) w2 (.cells #[.int .i64 t1.k, .string t1.s, .int .i64 t1.x, .slice a1 l1 c1] 24) rfl).alloc (.cells #[] 24))
  have HROW3 : Hid (TRow ((w2.alloc (.cells #[.int .i64 t1.k, .string t1.s, .int .i64 t1.x, .slice a1 l1 c1] 24)).alloc (.cells #[] 24)) (ow (fun _ => 0) (w2.heap.size + 1) 2) 2 (fun _ => False) (.slice (some ⟨w2.heap.size + 1, 0, none⟩) 0 0) (goalVars 0)) := Lib.hid ⟨[], Row.start (by
    have := Blk.new (own := ow (fun _ => 0) (w2.heap.size + 1) 2) (k := 2) (w2.alloc (.cells #[.int .i64 t1.k, .string t1.s, .int .i64 t1.x, .slice a1 l1 c1] 24)) (.cells #[] 24) (by rw [World.size_alloc]; exact ow_ge (Nat.le_refl _))
    rwa [World.size_alloc] at this), rfl⟩
  have HX3 := Lib.hid hX3
  have HT2 := Lib.hid hT2
  have H12 := Lib.hid H12
  have hbt : (ow (fun _ => 0) (w2.heap.size + 1) 2) w2.heap.size = 0 := ow_lt (by omega)
  have HBT := Lib.hid hbt
  clear hal hX3 hT2 hbt
  go_wp2_with fail
  generalize ((w2.alloc (.cells #[.int .i64 t1.k, .string t1.s, .int .i64 t1.x, .slice a1 l1 c1] 24)).alloc (.cells #[] 24)) = w3 at *
  generalize hq2 : (Value.slice (some ⟨w2.heap.size + 1, 0, none⟩) 0 0) = bv3 at *
  generalize (ow (fun _ => 0) (w2.heap.size + 1) 2) = own3 at *
  clear hq2
  go_loopg [5, 6] N (fun g ov iv wr => GgInv w3 own3 N g ov iv wr)
  case atStart => exact ⟨own3, 0, rfl, by omega, HROW3.out, Ext.refl⟩
  case round =>
    obtain ⟨ownr, i, rfl, hi, hrow, hEr⟩ := hrel
    have hEw := HX3.out.trans hEr
    have hB : Below w2.heap.size w2 wr := hEw.below fun b hb => by decide
    have HROW := Lib.hid hrow
    have HER := Lib.hid hEr
    have HB := Lib.hid hB
    obtain ⟨oa, oc, rfl⟩ := hrow.shape
    by_cases hlt : i < N
    · have hlt2 : (i : Int) + 1 < 1 + (N : Int) := by omega
      have hlen3 : (goalVars i).length ≤ 1000000000000 := by rw [goalVars_len]; omega
      have HNX := Lib.hid (goalVars_succ i)
      clear hrow hEr hEw hB
      generalize goalVars i = rs at *
      go_wp2_with fail
      refine (V_any ((i : Int) + 1) _).mono ?_
      rintro e w5 ⟨rfl, hB5⟩
      have HE5 := Lib.hid (HER.out.trans (Ext_same ownr hB5))
      have HROW5 := Lib.hid (HROW.out.ext (C' := fun _ => False) (M := fun _ => False) (Ext_same ownr hB5) id fun u hu hc => hc.elim)
      clear hB5 HROW HER
      go_wp2_with (at_builtin; refine wpList_append_trow (t := varT ((i : Int) + 1)) (v := .slice oa rs.length oc) rfl _ _ rfl (varV _ (fun _ => False) ((i : Int) + 1) (by unfold rng64; omega)) rfl HROW5.out hlen3 (fun u hu hc => hc.elim) rfl rfl ?_; intro v8 w8 hr8 hE8; obtain ⟨a8, c8, rfl⟩ := TRow.shape hr8; rw [List.length_append, List.length_singleton] at hr8)
      have HR8 := Lib.hid (hr8.ext (C' := fun _ => False) (M := fun _ => False) Ext.refl id fun u hu hc => ⟨id, hc.1⟩)
      have HE8 := Lib.hid (HE5.out.trans hE8)
      clear hr8 hE8
      go_wp2_with fail
      go_roundg (N - (i + 1))
      case measure => omega
      case rel => exact ⟨_, i + 1, by go_num, by omega, by rw [HNX.out]; simpa only [List.length_append, List.length_singleton] using HR8.out, HE8.out⟩
    · obtain rfl : i = N := by omega
      have ht := HT3.out.recol (own' := own3) (k := 0) HBT.out
      have ht2 := ht.ext hEr (by decide)
      have z0 : wr.cell? ⟨w2.heap.size, 0, none⟩ = some (.int .i64 t1.k) := ht2.cell 0
      have z1 : wr.cell? ⟨w2.heap.size, 1, none⟩ = some (.string t1.s) := ht2.cell 1
      have z2 : wr.cell? ⟨w2.heap.size, 2, none⟩ = some (.int .i64 t1.x) := ht2.cell 2
      have z3 : wr.cell? ⟨w2.heap.size, 3, none⟩ = some (.slice a1 l1 c1) := ht2.cell 3
      have lz := ht2.lt
      have H1R := Lib.hid (Blk_same H12.out hB)
      have HBR := Lib.hid (HB2.out.trans (hB.mono HB2.out.size))
      have HTB := Lib.hid ((TmV.below HT2.out hB).carry (w' := wr) (C' := fun g => g < wr.heap.size) (Nat.le_refl _) fun g hg _ => ⟨rfl, hg⟩)
      have hat := hrow.at 0 noStr 0 (C' := fun g => g < wr.heap.size) (fun g hg _ => hg) (fun g hg _ => hg) (by rw [goalVars_len]; omega)
      have HTH : Hid (TmV wr (fun g => g < wr.heap.size) (.mk 0 noStr 0 (goalVars i)) (.agg #[.int .i64 0, .string noStr, .int .i64 0, .slice oa (goalVars i).length oc])) := Lib.hid ⟨_, rfl, by unfold rng64; show -9223372036854775808 ≤ (0 : Int) ∧ (0 : Int) ≤ 9223372036854775807; decide, by show noStr.size ≤ _; decide, by unfold rng64; show -9223372036854775808 ≤ (0 : Int) ∧ (0 : Int) ≤ 9223372036854775807; decide, hat⟩
      have HST := Lib.hid (settle_any (goalVars i) t1 (sGoal, (i : Int)) i wr.heap.size wr _ _ _ _ _ _ _ _ _ (Nat.le_refl _) HTH.out HTB.out (by rw [goalVars_len]; omega) hsz hdp)
      rw [← HCM.out] at HST
      have HGL := Lib.hid (goalVars_len i)
      clear ht ht2 hat hrow hEr hEw hB HTH HTB HROW HER HB
      have hgl : (goalVars i).length = i := HGL.out
      rw [hgl] at HST ⊢
      clear hgl
      go_wp2_with fail
      refine HST.out.mono ?_
      rintro e w7 ⟨v7, rfl, hcv, hB⟩
      have hb1 := Blk_same H1R.out hB
      have H17 := Lib.hid hb1
      have HB7 := Lib.hid (HBR.out.trans (hB.mono HBR.out.size))
      obtain ⟨rv, rfl, hrv⟩ := hcv
      have HRV := Lib.hid (RV.ne hb1 (fun s e => by cases e) hrv)
      obtain ⟨ra, rc, rfl⟩ := hrv.shape
      have f0 := hb1.free 0
      have f1 := hb1.free 1
      have f2 := hb1.free 2
      have f3 := hb1.free 3
      have f4 := hb1.free 4
      have l1' := hb1.lt
      have d0 : w7.cell? ⟨w.heap.size + 1, 0, none⟩ = some (.string noStr) := hb1.cell 0
      have d1 : w7.cell? ⟨w.heap.size + 1, 1, none⟩ = some (.int .i64 0) := hb1.cell 1
      have d2 : w7.cell? ⟨w.heap.size + 1, 2, none⟩ = some (.int .i64 0) := hb1.cell 2
      have d3 : w7.cell? ⟨w.heap.size + 1, 3, none⟩ = some (.int .i64 0) := hb1.cell 3
      have d4 : w7.cell? ⟨w.heap.size + 1, 4, none⟩ = some (.slice none 0 0) := hb1.cell 4
      clear hb1 hB hrv HST z0 z1 z2 z3 lz
      generalize hcl : cm.is.length = cl at *
      clear hcl
      go_wp2_with fail
      have hend := Blk.putCells (cs := [.string ⟨#[]⟩, .int .i64 0, .int .i64 0, .int .i64 0, .slice none 0 0]) (vs := [.string cm.p.1, .int .i64 cm.p.2, .int .i64 cm.vs, .int .i64 cm.slots, .slice ra cl rc]) H17.out rfl
      have hbel := below_put HB7.out (b := w.heap.size + 1) (by omega) [.string cm.p.1, .int .i64 cm.p.2, .int .i64 cm.vs, .int .i64 cm.slots, .slice ra cl rc]
      have hrv := HRV.out.put (b := w.heap.size + 1) H17.out (by decide) (fun h => h.2 rfl) [.string cm.p.1, .int .i64 cm.p.2, .int .i64 cm.vs, .int .i64 cm.slots, .slice ra cl rc]
      simp only [putCells, Nat.reduceAdd] at hend hbel hrv
      ((try simp only [Exit.inBlock, Exit.then]); refine bodyPost_ret (results_cell_row rfl _ _ ((w.heap.size + 1)) 38 _ _ _ rfl (hend.at_) Try.underlying38 rfl (by kernel_rfl)) rfl ?_)
      exact ⟨_, rfl, RCdV.all ⟨_, rfl, hrv⟩, hbel⟩
end Go.Proofs.Ytamiidklcadkmaa
