/- code.Goal: what it answers, over plain terms. -/
import Derived.Test.YtamiidklcadkmaaCompile
set_option maxRecDepth 20000
set_option linter.unusedVariables false
set_option linter.unusedSimpArgs false
namespace Go.Proofs.Ytamiidklcadkmaa
open Go.RowKit Go.PM
def sGoal : ByteArray := ⟨#[36, 103, 111, 97, 108]⟩
def varT (i : Int) : Tm := .mk 1 noStr i []
def goalVars (n : Nat) : List Tm := (List.range n).map fun i : Nat => varT ((i : Int) + 1)
theorem goalVars_len (n : Nat) : (goalVars n).length = n := by unfold goalVars; rw [List.length_map, List.length_range]
theorem goalVars_succ (n : Nat) : goalVars (n + 1) = goalVars n ++ [varT ((n : Int) + 1)] := by unfold goalVars; rw [List.range_succ, List.map_append]; rfl
theorem varV (w : World) (C : Nat → Prop) (i : Int) (hi : rng64 i) : TmV w C (varT i) (.agg #[.int .i64 1, .string noStr, .int .i64 i, .slice none 0 0]) := by
  refine ⟨_, rfl, ?_, ?_, hi, ?_⟩
  · unfold rng64; show -9223372036854775808 ≤ (1 : Int) ∧ (1 : Int) ≤ 9223372036854775807; decide
  · show noStr.size ≤ _; decide
  · unfold varT Tm.At; exact .inl ⟨rfl, _, _, rfl⟩
def goalE (g : Tm) : Int := bif Tm.rightN g then (if g.k = 2 then 160 else 0) else 70
def goalN (g : Tm) : Nat := (Tm.vars g []).length
def goalC (g : Tm) : Cd := codeOf (goalVars (goalN g)) (ren1 g) (sGoal, (goalN g : Int)) (goalN g)
def goalM (g : Tm) : Cd := if goalE g = 0 then goalC g else zeroCd
def GlInv (w6 : World) (own6 : Nat → Nat) (mb : Nat) (p : ByteArray × Int) (L : Nat) (g : Nat) (iv : Value) (w : World) : Prop :=
  ∃ (own : Nat → Nat) (i : Nat), iv = .int .i64 i ∧ i + g = L ∧ Mk w own mb p L 0 (getsOf (goalVars i) 1) ∧ Ext MM w6 w own6 own
set_option maxHeartbeats 1500000 in
theorem Goal_any (g : Tm) (w : World) (C : Nat → Prop) (v : Value) (hv : TmV w C g v) :
    Calls Try.prog 11 #[v] w (CpPost w (goalM g) (goalE g)) := by
  obtain ⟨a1, l1, c1, rfl, -, -, -, -⟩ := TmV_open hv
  obtain ⟨hb0, hb1, hB0, hz0⟩ := two_new w (.cells #[.int .i64 g.k, .string g.s, .int .i64 g.x, .slice a1 l1 c1] 24) (.cells #[.string noStr, .int .i64 0, .int .i64 0, .int .i64 0, .slice none 0 0] 32)
  obtain ⟨rt, nx, er, HRN, hcase⟩ : ∃ rt nx er, Hid (∀ w2, Below w.heap.size w w2 → Calls Try.prog 26 #[.agg #[.int .i64 g.k, .string g.s, .int .i64 g.x, .slice a1 l1 c1], .int .i64 1] w2 (TmRet w2 rt [.int .i64 nx, .int .i64 er])) ∧ ((Tm.rightN g = true ∧ rt = ren1 g ∧ nx = 1 + (Tm.vars g []).length ∧ er = 0) ∨ (Tm.rightN g = false ∧ er = 70)) := by
    refine ⟨_, _, _, Lib.hid (fun w2 hB => Rename1_any g w2 _ _ (TmV.below hv hB)), ?_⟩
    cases Tm.rightN g
    · exact .inr ⟨rfl, rfl⟩
    · exact .inl ⟨rfl, rfl, rfl, rfl⟩
  have H1 := Lib.hid hb1
  have HB0 := Lib.hid hB0
  have HZ0 := Lib.hid hz0
  have HGE := Lib.hid (show goalE g = bif Tm.rightN g then (if g.k = 2 then 160 else 0) else 70 from rfl)
  have HGM := Lib.hid (show goalM g = if goalE g = 0 then codeOf (goalVars (goalN g)) (ren1 g) (sGoal, (goalN g : Int)) (goalN g) else zeroCd from rfl)
  have HRK := Lib.hid (show (ren1 g).k = g.k from ren_k _ _)
  have HSZ := Lib.hid (fun (hr : Tm.rightN g = true) => (show Tm.sz (ren1 g) ≤ 2000 ∧ Tm.dp (ren1 g) ≤ 100 ∧ goalN g ≤ 2000 by
    obtain ⟨q1, q2, q3⟩ := (rightN_iff g).1 hr
    refine ⟨by unfold ren1; rw [ren_sz]; exact q1, by unfold ren1; rw [ren_dp]; exact q2, ?_⟩
    have hv := vars_len g []
    unfold goalN
    simp at hv
    omega))
  clear hb0 hb1 hB0 hz0 hv
  generalize goalM g = cm at *
  generalize hge : goalE g = ge at *
  generalize g.k = k1 at *
  generalize g.s = s1 at *
  generalize g.x = x1 at *
  go_enter Try.func11, Try.ntmps11
  go_wp2_with fail
  refine (HRN.out _ HB0.out).mono ?_
  rintro e w2 ⟨v2, rfl, hv2, hB2⟩
  have H12 := Lib.hid (Blk_same H1.out hB2)
  have HB2 := Lib.hid (HB0.out.trans (hB2.mono HB0.out.size))
  have hz2 : w.heap.size + 1 + 1 ≤ w2.heap.size := by have := hB2.size; have := HZ0.out; omega
  have HV2 : Hid (TmV w2 (fun g => w.heap.size + 1 + 1 ≤ g) rt v2) := Lib.hid (hv2.carry (Nat.le_refl _) fun u hu hc => ⟨rfl, by have := HZ0.out; show w.heap.size + 1 + 1 ≤ u; omega⟩)
  obtain ⟨a4, l4, c4, rfl, -, -, -, -⟩ := TmV_open hv2
  have f0 := H12.out.free 0
  have f1 := H12.out.free 1
  have f2 := H12.out.free 2
  have f3 := H12.out.free 3
  have f4 := H12.out.free 4
  have l1' := H12.out.lt
  have d0 : w2.cell? ⟨w.heap.size + 1, 0, none⟩ = some (.string noStr) := H12.out.cell 0
  have d1 : w2.cell? ⟨w.heap.size + 1, 1, none⟩ = some (.int .i64 0) := H12.out.cell 1
  have d2 : w2.cell? ⟨w.heap.size + 1, 2, none⟩ = some (.int .i64 0) := H12.out.cell 2
  have d3 : w2.cell? ⟨w.heap.size + 1, 3, none⟩ = some (.int .i64 0) := H12.out.cell 3
  have d4 : w2.cell? ⟨w.heap.size + 1, 4, none⟩ = some (.slice none 0 0) := H12.out.cell 4
  clear hB2 hv2 H1 HRN
  rcases hcase with ⟨hrt, hrt2, hnx, rfl⟩ | ⟨hrt, rfl⟩
  · obtain ⟨hszb, hdpb, hvl⟩ := HSZ.out hrt
    rw [hrt] at HGE
    rw [← hrt2] at hszb hdpb HRK HGM
    have HRK2 := HRK.out
    have HGE2 : Hid (ge = if k1 = 2 then 160 else 0) := Lib.hid HGE.out
    clear HSZ hrt hrt2 HGE HRK
    generalize hkk : Tm.k rt = k4 at *
    generalize Tm.s rt = s4 at *
    generalize Tm.x rt = x4 at *
    rw [← HRK2] at HGE2
    clear HRK2
    by_cases hk2 : k4 = 2
    · have hge2 : ge = 160 := by rw [HGE2.out, if_pos hk2]
      subst hge2
      rw [if_neg (by decide)] at HGM
      have hcm := HGM.out
      subst hcm
      subst hk2
      clear HGM HGE2 hkk hge
      go_wp2_with fail
      have hend := (Blk.putCells (cs := [.string noStr, .int .i64 0, .int .i64 0, .int .i64 0, .slice none 0 0]) (vs := [.string noStr, .int .i64 0, .int .i64 0, .int .i64 0, .slice none 0 0]) H12.out rfl).alloc (.cells #[.int .i64 2, .string s4, .int .i64 x4, .slice a4 l4 c4] 24)
      have hp := cp_zero H12.out HB2.out (by omega) (.cells #[.int .i64 2, .string s4, .int .i64 x4, .slice a4 l4 c4] 24) 160
      simp only [putCells, Nat.reduceAdd] at hend hp
      ((try simp only [Exit.inBlock, Exit.then]); refine bodyPost_ret (results_ct rfl _ _ ((w.heap.size + 1)) 32 _ _ _ rfl (hend.at_) Try.underlying32 rfl (by kernel_rfl)) rfl ?_)
      exact hp
    · have hge2 : ge = 0 := by rw [HGE2.out, if_neg hk2]
      subst hge2
      rw [if_pos rfl] at HGM
      have hbk : (k4 == 2) = false := by simp [hk2]
      have HCMM := Lib.hid HGM.out
      unfold goalN at hvl HCMM
      clear HGE2 HGM hk2 hkk hge
      generalize (Tm.vars g []).length = L at *
      have hsub : (1 : Int) + (L : Int) - 1 = L := by omega
      subst hnx
      generalize rt = t1 at *
      go_wp2_with fail
      have hmb : Blk ((w2.alloc (.cells #[.int .i64 k4, .string s4, .int .i64 x4, .slice a4 l4 c4] 24)).alloc (.cells #[.string ⟨#[36, 103, 111, 97, 108]⟩, .int .i64 L, .int .i64 L, .int .i64 0, .slice none 0 0] 70)) (fun b => if b = w2.heap.size + 1 then 1 else if b = w.heap.size + 1 then 3 else 0) 1 (w2.heap.size + 1) (.cells #[.string sGoal, .int .i64 L, .int .i64 L, .int .i64 0, .slice none 0 0] 70 (0, 0)) := by
        have := Blk.new (own := (fun b => if b = w2.heap.size + 1 then 1 else if b = w.heap.size + 1 then 3 else 0)) (k := 1) (w2.alloc (.cells #[.int .i64 k4, .string s4, .int .i64 x4, .slice a4 l4 c4] 24)) (.cells #[.string ⟨#[36, 103, 111, 97, 108]⟩, .int .i64 L, .int .i64 L, .int .i64 0, .slice none 0 0] 70) (by rw [World.size_alloc]; simp)
        rwa [World.size_alloc] at this
      have hs7 : Blk ((w2.alloc (.cells #[.int .i64 k4, .string s4, .int .i64 x4, .slice a4 l4 c4] 24)).alloc (.cells #[.string ⟨#[36, 103, 111, 97, 108]⟩, .int .i64 L, .int .i64 L, .int .i64 0, .slice none 0 0] 70)) (fun b => if b = w2.heap.size + 1 then 1 else if b = w.heap.size + 1 then 3 else 0) 0 w2.heap.size _ := ⟨((Blk.new (own := fun _ => 0) (k := 0) w2 (.cells #[.int .i64 k4, .string s4, .int .i64 x4, .slice a4 l4 c4] 24) rfl).alloc (.cells #[.string ⟨#[36, 103, 111, 97, 108]⟩, .int .i64 L, .int .i64 L, .int .i64 0, .slice none 0 0] 70)).at_, by show (if w2.heap.size = w2.heap.size + 1 then 1 else if w2.heap.size = w.heap.size + 1 then 3 else 0) = 0; rw [if_neg (by omega), if_neg (by omega)]⟩
      have hs2 : Blk ((w2.alloc (.cells #[.int .i64 k4, .string s4, .int .i64 x4, .slice a4 l4 c4] 24)).alloc (.cells #[.string ⟨#[36, 103, 111, 97, 108]⟩, .int .i64 L, .int .i64 L, .int .i64 0, .slice none 0 0] 70)) (fun b => if b = w2.heap.size + 1 then 1 else if b = w.heap.size + 1 then 3 else 0) 3 (w.heap.size + 1) _ := ⟨((H12.out.alloc (.cells #[.int .i64 k4, .string s4, .int .i64 x4, .slice a4 l4 c4] 24)).alloc (.cells #[.string ⟨#[36, 103, 111, 97, 108]⟩, .int .i64 L, .int .i64 L, .int .i64 0, .slice none 0 0] 70)).at_, by show (if w.heap.size + 1 = w2.heap.size + 1 then 1 else if w.heap.size + 1 = w.heap.size + 1 then 3 else 0) = 3; rw [if_neg (by omega), if_pos rfl]⟩
      have hB5 : Below w.heap.size w ((w2.alloc (.cells #[.int .i64 k4, .string s4, .int .i64 x4, .slice a4 l4 c4] 24)).alloc (.cells #[.string ⟨#[36, 103, 111, 97, 108]⟩, .int .i64 L, .int .i64 L, .int .i64 0, .slice none 0 0] 70)) := (HB2.out.alloc HB2.out.size _).alloc (by rw [World.size_alloc]; have := HB2.out.size; omega) _
      have hTC : ∀ u, u < w2.heap.size → w.heap.size + 1 + 1 ≤ u → ((w2.alloc (.cells #[.int .i64 k4, .string s4, .int .i64 x4, .slice a4 l4 c4] 24)).alloc (.cells #[.string ⟨#[36, 103, 111, 97, 108]⟩, .int .i64 L, .int .i64 L, .int .i64 0, .slice none 0 0] 70)).heap[u]? = w2.heap[u]? ∧ TC (fun b => if b = w2.heap.size + 1 then 1 else if b = w.heap.size + 1 then 3 else 0) u := fun u hu hc => ⟨by rw [heap_alloc_old _ _ (by rw [World.size_alloc]; omega), heap_alloc_old _ _ hu], by
        show (if u = w2.heap.size + 1 then 1 else if u = w.heap.size + 1 then 3 else 0) ≠ 1 ∧ (if u = w2.heap.size + 1 then 1 else if u = w.heap.size + 1 then 3 else 0) ≠ 2 ∧ (if u = w2.heap.size + 1 then 1 else if u = w.heap.size + 1 then 3 else 0) ≠ 3
        rw [if_neg (by omega), if_neg (by omega)]; decide⟩
      have ht15 := HV2.out.carry (w' := ((w2.alloc (.cells #[.int .i64 k4, .string s4, .int .i64 x4, .slice a4 l4 c4] 24)).alloc (.cells #[.string ⟨#[36, 103, 111, 97, 108]⟩, .int .i64 L, .int .i64 L, .int .i64 0, .slice none 0 0] 70))) (C' := TC (fun b => if b = w2.heap.size + 1 then 1 else if b = w.heap.size + 1 then 3 else 0)) (by rw [World.size_alloc, World.size_alloc]; omega) fun u hu hc => hTC u hu hc
      have hlow : ∀ b, b < w.heap.size → ¬ MM ((fun b => if b = w2.heap.size + 1 then 1 else if b = w.heap.size + 1 then 3 else 0) b) := fun b hb => by
        show ¬ MM (if b = w2.heap.size + 1 then 1 else if b = w.heap.size + 1 then 3 else 0)
        rw [if_neg (by omega), if_neg (by omega)]
        unfold MM; omega
      have hF : FactsAt (fun b => if b = w2.heap.size + 1 then 1 else if b = w.heap.size + 1 then 3 else 0) [(⟨w2.heap.size, 0, none⟩, .int .i64 k4), (⟨w2.heap.size, 1, none⟩, .string s4), (⟨w2.heap.size, 2, none⟩, .int .i64 x4), (⟨w2.heap.size, 3, none⟩, .slice a4 l4 c4)] ((w2.alloc (.cells #[.int .i64 k4, .string s4, .int .i64 x4, .slice a4 l4 c4] 24)).alloc (.cells #[.string ⟨#[36, 103, 111, 97, 108]⟩, .int .i64 L, .int .i64 L, .int .i64 0, .slice none 0 0] 70)) :=
        ⟨Blk.fact hs7 (by decide) (hs7.cell 0), Blk.fact hs7 (by decide) (hs7.cell 1), Blk.fact hs7 (by decide) (hs7.cell 2), Blk.fact hs7 (by decide) (hs7.cell 3), trivial⟩
      have hm5 : Mk ((w2.alloc (.cells #[.int .i64 k4, .string s4, .int .i64 x4, .slice a4 l4 c4] 24)).alloc (.cells #[.string ⟨#[36, 103, 111, 97, 108]⟩, .int .i64 L, .int .i64 L, .int .i64 0, .slice none 0 0] 70)) (fun b => if b = w2.heap.size + 1 then 1 else if b = w.heap.size + 1 then 3 else 0) (w2.heap.size + 1) (sGoal, (L : Int)) L 0 (getsOf (goalVars 0) 1) := ⟨_, hmb, [], Row.nil _ _ _ _ _, rfl⟩
      have HS2 := Lib.hid hs2
      have HB5 := Lib.hid hB5
      have HT1 := Lib.hid ht15
      have HLOW := Lib.hid hlow
      have HF := Lib.hid hF
      have HM5 := Lib.hid hm5
      have hz5 : w.heap.size ≤ ((w2.alloc (.cells #[.int .i64 k4, .string s4, .int .i64 x4, .slice a4 l4 c4] 24)).alloc (.cells #[.string ⟨#[36, 103, 111, 97, 108]⟩, .int .i64 L, .int .i64 L, .int .i64 0, .slice none 0 0] 70)).heap.size := by have := hB5.size; exact this
      clear hmb hs7 hs2 hB5 hTC ht15 hlow hF hm5 f0 f1 f2 f3 f4 d0 d1 d2 d3 d4 l1' H12 HB2 HV2
      generalize ((w2.alloc (.cells #[.int .i64 k4, .string s4, .int .i64 x4, .slice a4 l4 c4] 24)).alloc (.cells #[.string ⟨#[36, 103, 111, 97, 108]⟩, .int .i64 L, .int .i64 L, .int .i64 0, .slice none 0 0] 70)) = w5 at *
      generalize (fun b => if b = w2.heap.size + 1 then 1 else if b = w.heap.size + 1 then 3 else 0) = own5 at *
      generalize w2.heap.size + 1 = mb at *
      generalize w2.heap.size = s7 at *
      go_loopg [35] L (fun g iv wr => GlInv w5 own5 mb (sGoal, (L : Int)) L g iv wr)
      case atStart => exact ⟨own5, 0, rfl, by omega, HM5.out, Ext.refl⟩
      case round =>
        obtain ⟨ownr, i, rfl, hi, hmr, hEr⟩ := hrel
        have HMR := Lib.hid hmr
        have HER := Lib.hid hEr
        by_cases hlt : i < L
        · have hlt2 : (i : Int) < L := by omega
          have HA := Lib.hid (add_any HMR.out ⟨1, (i : Int) + 1, varT ((i : Int) + 1)⟩ _ (varV _ _ _ (by unfold rng64; omega)) 1 noStr ((i : Int) + 1) none 0 0 rfl (by rw [getsOf_len, goalVars_len]; omega))
          have HTK := Lib.hid (show getsOf (goalVars (i + 1)) 1 = getsOf (goalVars i) 1 ++ [⟨1, (i : Int) + 1, varT ((i : Int) + 1)⟩] by
            rw [goalVars_succ, getsOf_snoc, goalVars_len, show (1 : Int) + (i : Int) = (i : Int) + 1 by omega])
          clear hmr hEr
          go_wp2_with fail
          refine HA.out.mono ?_
          rintro e w6 ⟨own6, rfl, hm6, hE6⟩
          have HM6 := Lib.hid hm6
          have HE6 := Lib.hid (HER.out.trans hE6)
          clear hm6 hE6 HA HMR HER
          go_wp2_with fail
          go_roundg (L - (i + 1))
          case measure => omega
          case rel => exact ⟨own6, i + 1, by go_num, by omega, by rw [HTK.out]; exact HM6.out, HE6.out⟩
        · obtain rfl : i = L := by omega
          have HMR := Lib.hid hmr
          have HFR := Lib.hid (FactsAt.ext hEr HF.out)
          obtain ⟨⟨z0, zl0, -, -⟩, ⟨z1, -, -, -⟩, ⟨z2, -, -, -⟩, ⟨z3, -, -, -⟩, -⟩ := HFR.out
          have HT1R := Lib.hid (TmV.mm HT1.out hEr)
          have HBD := Lib.hid (body_all 100 t1 wr ownr mb (sGoal, (i : Int)) i 0 (getsOf (goalVars i) 1) 3 0 k4 s4 x4 a4 l4 c4 HMR.out HT1R.out (by decide) (by decide) (by unfold rng64; decide) (by unfold rng64; decide) hdpb (by rw [getsOf_len, goalVars_len]; omega) (by decide) (by omega))
          have hbl := bd_le 100 t1 (In0 3 0) 0
          rw [getsOf_len, goalVars_len] at HBD
          have hpl := place_len (bd 100 t1 (In0 3 0) 0).1 i
          have hgl := getsOf_len (goalVars i) 1
          rw [goalVars_len] at hgl
          have HCX := Lib.hid (show cm = ⟨(sGoal, (i : Int)), i, (bd 100 t1 (In0 3 0) 0).2, getsOf (goalVars i) 1 ++ place i (bd 100 t1 (In0 3 0) 0).1 ++ [In0 9 0]⟩ by rw [HCMM.out]; unfold codeOf; rw [goalVars_len])
          generalize (bd 100 t1 (In0 3 0) 0).2 = sl at *
          generalize place i (bd 100 t1 (In0 3 0) 0).1 = pc at *
          generalize (bd 100 t1 (In0 3 0) 0).1.length = pcl at *
          generalize getsOf (goalVars i) 1 = gs at *
          clear hmr hEr HF HFR HCMM
          go_wp2_with fail
          refine HBD.out.mono ?_
          rintro e w7 ⟨own7, rfl, hm7, hE7⟩
          have HM7 := Lib.hid hm7
          have HE7 := Lib.hid (HER.out.trans hE7)
          have hlen7 : (gs ++ pc).length ≤ 1000000000 := by rw [List.length_append]; omega
          clear hm7 hE7 HBD HMR HER z0 z1 z2 z3 zl0
          go_wp2_with fail
          refine (add0 HM7.out 9 0 hlen7).mono ?_
          rintro e w8 ⟨own8, rfl, hm8, hE8⟩
          have hE58 := HE7.out.trans hE8
          have hs2 := HS2.out.ext hE58 (by unfold MM; omega)
          obtain ⟨rv, hb8, hr8⟩ := hm8
          obtain ⟨ra, rc, rfl⟩ := hr8.shape
          have hB8 := below_ext HB5.out hE58 hz5 HLOW.out
          have HR8 := Lib.hid hr8
          have HS8 := Lib.hid hs2
          have HB8 := Lib.hid hB8
          have c0 : w8.cell? ⟨mb, 0, none⟩ = some (.string sGoal) := hb8.cell 0
          have c1 : w8.cell? ⟨mb, 1, none⟩ = some (.int .i64 i) := hb8.cell 1
          have c2 : w8.cell? ⟨mb, 2, none⟩ = some (.int .i64 i) := hb8.cell 2
          have c3 : w8.cell? ⟨mb, 3, none⟩ = some (.int .i64 sl) := hb8.cell 3
          have c4' : w8.cell? ⟨mb, 4, none⟩ = some (.slice ra (gs ++ pc ++ [In0 9 0]).length rc) := hb8.cell 4
          have hmbl := hb8.lt
          have f0 := hs2.free 0
          have f1 := hs2.free 1
          have f2 := hs2.free 2
          have f3 := hs2.free 3
          have f4 := hs2.free 4
          have l1' := hs2.lt
          have d0 : w8.cell? ⟨w.heap.size + 1, 0, none⟩ = some (.string noStr) := hs2.cell 0
          have d1 : w8.cell? ⟨w.heap.size + 1, 1, none⟩ = some (.int .i64 0) := hs2.cell 1
          have d2 : w8.cell? ⟨w.heap.size + 1, 2, none⟩ = some (.int .i64 0) := hs2.cell 2
          have d3 : w8.cell? ⟨w.heap.size + 1, 3, none⟩ = some (.int .i64 0) := hs2.cell 3
          have d4 : w8.cell? ⟨w.heap.size + 1, 4, none⟩ = some (.slice none 0 0) := hs2.cell 4
          clear hE8 hE58 hs2 hb8 hr8 hB8 HM7 HE7
          generalize hrl : (gs ++ pc ++ [In0 9 0]).length = rl at *
          clear hrl
          go_wp2_with fail
          have hend := Blk.putCells (cs := [.string noStr, .int .i64 0, .int .i64 0, .int .i64 0, .slice none 0 0]) (vs := [.string sGoal, .int .i64 i, .int .i64 i, .int .i64 sl, .slice ra rl rc]) HS8.out rfl
          have hp := cp_end (w := w) (p := (sGoal, (i : Int))) (vs := i) (slots := sl) HR8.out HS8.out HB8.out (by omega) HCX.out
          simp only [putCells, Nat.reduceAdd] at hend hp
          ((try simp only [Exit.inBlock, Exit.then]); refine bodyPost_ret (results_ct rfl _ _ ((w.heap.size + 1)) 32 _ _ _ rfl (hend.at_) Try.underlying32 rfl (by kernel_rfl)) rfl ?_)
          exact hp
  · have hge2 : ge = 70 := by rw [HGE.out, hrt]; rfl
    subst hge2
    rw [if_neg (by decide)] at HGM
    have hcm := HGM.out
    subst hcm
    clear hrt HGM HGE HSZ HRK hge
    generalize Tm.k rt = k4 at *
    generalize Tm.s rt = s4 at *
    generalize Tm.x rt = x4 at *
    go_wp2_with fail
    have hend := (Blk.putCells (cs := [.string noStr, .int .i64 0, .int .i64 0, .int .i64 0, .slice none 0 0]) (vs := [.string noStr, .int .i64 0, .int .i64 0, .int .i64 0, .slice none 0 0]) H12.out rfl).alloc (.cells #[.int .i64 k4, .string s4, .int .i64 x4, .slice a4 l4 c4] 24)
    have hp := cp_zero H12.out HB2.out (by omega) (.cells #[.int .i64 k4, .string s4, .int .i64 x4, .slice a4 l4 c4] 24) 70
    simp only [putCells, Nat.reduceAdd] at hend hp
    ((try simp only [Exit.inBlock, Exit.then]); refine bodyPost_ret (results_ct rfl _ _ ((w.heap.size + 1)) 32 _ _ _ rfl (hend.at_) Try.underlying32 rfl (by kernel_rfl)) rfl ?_)
    exact hp
end Go.Proofs.Ytamiidklcadkmaa
