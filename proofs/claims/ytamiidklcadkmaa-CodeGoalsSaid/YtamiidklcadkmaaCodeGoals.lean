/- CodeGoals: the walk. Printed by gen_goals.py from goals.in. -/
import Derived.Test.YtamiidklcadkmaaGoalPure
set_option maxRecDepth 20000
set_option linter.unusedVariables false
set_option linter.unusedSimpArgs false
namespace Go.Proofs.Ytamiidklcadkmaa
open Go.RowKit Go.PM
theorem vars_rng : ∀ (t : Tm) (w : World) (C : Nat → Prop) (v : Value), TmV w C t v → ∀ x ∈ Tm.vars t [], rng64 x := by
  refine Tm.ind fun k s x ls ih w C v hv => ?_
  obtain ⟨a1, l1, c1, rfl, -, -, wx, -⟩ := TmV_open hv
  by_cases k1 : k = 1
  · subst k1
    rw [vars_one, if_neg (by simp)]
    intro y hy
    have : y = x := by simpa using hy
    subst this
    exact wx
  by_cases k4 : k = 4
  · subst k4
    rw [vars_4]
    intro y hy
    obtain ⟨t, ht, hy⟩ := (mem_varss y ls).1 hy
    obtain ⟨i, hi, rfl⟩ := List.getElem_of_mem ht
    obtain ⟨g', off', he, hg, hgc, hargs⟩ := arg_cells hv (by show 0 < ls.length; omega)
    obtain ⟨a3, l3, c3, x0, x1, x2, x3, ht2⟩ := hargs i hi
    rw [targ_get (t := .mk 4 s x ls) hi] at ht2
    exact ih _ ht w C _ ht2 y hy
  · rw [vars_else _ _ _ _ _ k1 k4]
    intro y hy
    cases hy
def GhInv (w5 : World) (own5 : Nat → Nat) (b8 : Nat) (vs : List Int) (g : Nat) (iv : Value) (w : World) : Prop :=
  ∃ (own : Nat → Nat) (i : Nat) (ov : Value), iv = .int .i64 i ∧ i + g = vs.length ∧ TRow w own 2 (fun _ => False) ov ((vs.take i).map varT) ∧ Blk w own 4 b8 (.cells #[.int .i64 4, .string sGoal, .int .i64 0, ov] 24 (0, 0)) ∧ Ext (fun c => c = 2 ∨ c = 4) w5 w own5 own
set_option maxHeartbeats 8000000 in
theorem codeGoals_walk (w : World) (g : Tm) (C : Nat → Prop) (v : Value) (hv : TmV w C g v) (n : Int) (hn : rng64 n) :
    Calls Try.prog 6 #[v, .int .i64 n] w fun e w' => e = .returned (.bool true) ∧ Below w.heap.size w w' := by
  obtain ⟨a1, l1, c1, rfl, -, -, -, -⟩ := TmV_open hv
  have hb0 := Blk.new (own := fun _ => 0) (k := 0) w (.cells #[.int .i64 g.k, .string g.s, .int .i64 g.x, .slice a1 l1 c1] 24) rfl
  have HBX := Lib.hid hb0
  have HB0 := Lib.hid ((Below.refl w.heap.size w).alloc (Nat.le_refl _) (.cells #[.int .i64 g.k, .string g.s, .int .i64 g.x, .slice a1 l1 c1] 24))
  have HTV := Lib.hid (fun w2 (hB : Below w.heap.size w w2) => TmV.below hv hB)
  have HG := Lib.hid (fun w2 (hB : Below w.heap.size w w2) => Goal_any g w2 _ _ (TmV.below hv hB))
  have HRG := Lib.hid (vars_rng g w C _ hv)
  clear hb0 hv
  generalize hk : Tm.k g = k at *
  generalize Tm.s g = s at *
  generalize Tm.x g = x at *
  clear hk
  go_enter Try.func6, Try.ntmps6
  go_wp2_with fail
  refine (alive_any _).mono ?_
  rintro e w1 ⟨rfl, hB1⟩
  have hbx1 := Blk_same HBX.out hB1
  have HBX1 := Lib.hid hbx1
  have hBw1 := HB0.out.trans (hB1.mono HB0.out.size)
  have HB1 := Lib.hid hBw1
  have z0 : w1.cell? ⟨w.heap.size, 0, none⟩ = some (.int .i64 k) := hbx1.cell 0
  have z1 : w1.cell? ⟨w.heap.size, 1, none⟩ = some (.string s) := hbx1.cell 1
  have z2 : w1.cell? ⟨w.heap.size, 2, none⟩ = some (.int .i64 x) := hbx1.cell 2
  have z3 : w1.cell? ⟨w.heap.size, 3, none⟩ = some (.slice a1 l1 c1) := hbx1.cell 3
  have hl0 := hbx1.lt
  have HG1 := Lib.hid (HG.out w1 hBw1)
  clear hB1 hbx1 hBw1 HG
  go_wp2_with fail
  refine HG1.out.mono ?_
  rintro e w2 ⟨own2, v2, rfl, hcv, hB2⟩
  have HBX2 := Lib.hid (Blk_same HBX1.out hB2)
  have HB2 := Lib.hid (HB1.out.trans (hB2.mono HB1.out.size))
  obtain ⟨rv, rfl, hir⟩ := hcv
  obtain ⟨ra, rc, rfl⟩ := hir.shape
  clear hB2 HG1 z0 z1 z2 z3 hl0 HBX HBX1
  by_cases hE : goalE g = 0
  · have hM : goalM g = goalC g := if_pos hE
    rw [hM] at hir
    rw [hM, hE]
    have hR := (goalE_0.1 hE).1
    have HLE := Lib.hid (goalC_le g hR)
    have HRT := Lib.hid (goal_right g hR)
    have hvl : ((Tm.vars g []).length : Int) ≤ 2000 := by
      have h1 := vars_len g []
      have h2 := ((rightN_iff g).1 hR).1
      simp only [List.length_nil] at h1
      omega
    have HSZ := Lib.hid (show Tm.sz g ≤ 1000000 by have := ((rightN_iff g).1 hR).1; omega)
    have h6 : ((goalC g).vs == (goalC g).p.2) = true := by show (((goalN g : Nat) : Int) == ((goalN g : Nat) : Int)) = true; simp
    have h9 : (((Tm.vars g []).length : Int) == (goalC g).vs) = true := by show (((goalN g : Nat) : Int) == ((goalN g : Nat) : Int)) = true; simp
    have h9n : (((Tm.vars g []).length : Int) != (goalC g).vs) = false := by show (((goalN g : Nat) : Int) != ((goalN g : Nat) : Int)) = false; simp
    have HCO := Lib.hid (comp_goal g)
    have HGR := Lib.hid (fun (hn : 1 ≤ n) => goal_ren g n hn hE)
    have HRR0 := Lib.hid (fun w2 (hB : Below w.heap.size w w2) h1 h2 => rRename_right g w2 C _ n (HTV.out w2 hB) hR h1 h2)
    have hBx3 := (Below.refl w2.heap.size w2).alloc (Nat.le_refl _) (.cells #[.string (goalC g).p.1, .int .i64 (goalC g).p.2, .int .i64 (goalC g).vs, .int .i64 (goalC g).slots, .slice ra (goalC g).is.length rc] 32)
    have HBX3 := Lib.hid (Blk_same HBX2.out hBx3)
    have HCV3 := Lib.hid (Blk.new (own := fun _ => 0) (k := 0) w2 (.cells #[.string (goalC g).p.1, .int .i64 (goalC g).p.2, .int .i64 (goalC g).vs, .int .i64 (goalC g).slots, .slice ra (goalC g).is.length rc] 32) rfl)
    have HBW3 := Lib.hid (HB2.out.trans (hBx3.mono HB2.out.size))
    have HIR3 := Lib.hid (hir.ext (Ext_same (M := fun _ => False) own2 hBx3) fun c h => h.elim)
    clear hir hBx3 HBX2 HB2 hM hE hR
    generalize goalC g = c at *
    generalize hvs : Tm.vars g [] = vs at *
    have HVQ := Lib.hid hvs
    clear hvs
    have HGL := Lib.hid (fun wq v C' (h1 : 1 ≤ n) (hv : TmV wq C' (Tm.ren (renM vs n) g) v) => (show Calls Try.prog 11 #[v] wq (CpPost wq c 0) by
      have := Goal_any (Tm.ren (renM vs n) g) wq C' v hv
      rw [show goalM (Tm.ren (renM vs n) g) = c from (if_pos (HGR.out h1).1).trans (HGR.out h1).2, (HGR.out h1).1] at this
      exact this))
    have HRS := Lib.hid (fun wr (hB : Below (w2.alloc (.cells #[.string c.p.1, .int .i64 c.p.2, .int .i64 c.vs, .int .i64 c.slots, .slice ra c.is.length rc] 32)).heap.size (w2.alloc (.cells #[.string c.p.1, .int .i64 c.p.2, .int .i64 c.vs, .int .i64 c.slots, .slice ra c.is.length rc] 32)) wr) => Right_code c wr own2 _ (CdV.below ⟨_, rfl, HIR3.out⟩ hB) HLE.out)
    have hrt := HRT.out
    go_wp2_with fail
    generalize (w2.alloc (.cells #[.string c.p.1, .int .i64 c.p.2, .int .i64 c.vs, .int .i64 c.slots, .slice ra c.is.length rc] 32)) = w3 at *
    refine (HRS.out w3 (Below.refl _ _)).mono ?_
    rw [hrt]
    rintro e w4 ⟨rfl, hB4⟩
    have hbx4 := Blk_same HBX3.out hB4
    have hbc4 := Blk_same HCV3.out hB4
    have z0 : w4.cell? ⟨w.heap.size, 0, none⟩ = some (.int .i64 k) := hbx4.cell 0
    have z1 : w4.cell? ⟨w.heap.size, 1, none⟩ = some (.string s) := hbx4.cell 1
    have z2 : w4.cell? ⟨w.heap.size, 2, none⟩ = some (.int .i64 x) := hbx4.cell 2
    have z3 : w4.cell? ⟨w.heap.size, 3, none⟩ = some (.slice a1 l1 c1) := hbx4.cell 3
    have u1 : w4.cell? ⟨w2.heap.size, 1, none⟩ = some (.int .i64 c.p.2) := hbc4.cell 1
    have u2 : w4.cell? ⟨w2.heap.size, 2, none⟩ = some (.int .i64 c.vs) := hbc4.cell 2
    have hl0 := hbx4.lt
    have hl1 := hbc4.lt
    have HB4 := Lib.hid hB4
    have HVS := Lib.hid (rVars_any g w4 C _ (HTV.out w4 (HBW3.out.trans (hB4.mono HBW3.out.size))) HSZ.out)
    clear hB4 hbx4 hbc4 HRS hrt HRT
    go_wp2_with fail
    refine HVS.out.mono ?_
    rintro e w5 ⟨v5, rfl, hr5, hB5⟩
    rw [HVQ.out] at hr5
    obtain ⟨va, vc, rfl⟩ := hr5.shape
    have hb5 := HB4.out.trans (hB5.mono HB4.out.size)
    have HBR := Lib.hid hb5
    have HRN := Lib.hid (fun wr (hB : Below w3.heap.size w3 wr) => HRR0.out wr (HBW3.out.trans (hB.mono HBW3.out.size)))
    have hbc5 := Blk_same HCV3.out hb5
    have u2 : w5.cell? ⟨w2.heap.size, 2, none⟩ = some (.int .i64 c.vs) := hbc5.cell 2
    have hl1 := hbc5.lt
    clear hl0 z0 z1 z2 z3 u1 hb5 hbc5 HVS HSZ HRR0
    by_cases hL : 1 ≤ vs.length ∧ vs.length ≤ 8
    · obtain ⟨hL1, hL2⟩ := hL
      have hL1' : (1 : Int) ≤ vs.length := by omega
      have hL2' : (vs.length : Int) ≤ 8 := by omega
      have hE35 : Ext (fun c => c = 2 ∨ c = 4) w3 w5 (fun _ => 0) (fresh w4.heap.size) := ⟨HBR.out.os, HBR.out.tape, HBR.out.output, HBR.out.size, fun b hb => ow_lt (by have := HB4.out.size; omega), fun b hb _ => HBR.out.block b hb⟩
      have hE56 : Ext (fun c => c = 2 ∨ c = 4) w5 (w5.alloc (.cells #[.int .i64 4, .string ⟨#[36, 103, 111, 97, 108]⟩, .int .i64 0, .slice none 0 0] 24)) (fresh w4.heap.size) (ow (fresh w4.heap.size) w5.heap.size 4) := (Ext.refl.ow 4).alloc _
      have HX6 := Lib.hid (hE35.trans hE56)
      have HV6 := Lib.hid (hr5.ext hE56 (by decide))
      have HH6 := Lib.hid (Blk.new (own := ow (fresh w4.heap.size) w5.heap.size 4) (k := 4) w5 (.cells #[.int .i64 4, .string ⟨#[36, 103, 111, 97, 108]⟩, .int .i64 0, .slice none 0 0] 24) (ow_ge (Nat.le_refl _)))
      clear hE35 hE56 hr5 hB5 HBR HB4
      go_wp2_with fail
      generalize (w5.alloc (.cells #[.int .i64 4, .string ⟨#[36, 103, 111, 97, 108]⟩, .int .i64 0, .slice none 0 0] 24)) = w6 at *
      generalize (ow (fresh w4.heap.size) w5.heap.size 4) = own6 at *
      go_loopg [67] vs.length (fun g iv wr => GhInv w6 own6 w5.heap.size vs g iv wr)
      case atStart => exact ⟨own6, 0, _, rfl, by omega, TRow.nil _ _ _ _, HH6.out, Ext.refl⟩
      case round =>
        obtain ⟨ownr, i, ov, rfl, hi, hrow, hob, hEr⟩ := hrel
        have hX := HX6.out.trans hEr
        have hb := hX.below fun b hb => by decide
        obtain ⟨oa, oc, rfl⟩ := hrow.shape
        have HROW := Lib.hid hrow
        have HOB := Lib.hid hob
        have HER := Lib.hid hEr
        have HBF := Lib.hid hb
        by_cases hlt : i < vs.length
        · have hlt2 : (i : Int) < vs.length := by omega
          obtain ⟨gv, rfl, hgl, hgc, hgf, hgx, hgv⟩ := (HV6.out.ext hEr (by decide)).irow_at hlt
          have hy : rng64 vs[i] := HRG.out _ (List.getElem_mem hlt)
          have HT := Lib.hid (show (vs.take (i + 1)).map varT = (vs.take i).map varT ++ [varT vs[i]] by rw [List.take_succ_eq_append_getElem hlt, List.map_append]; rfl)
          have hlen3 : ((vs.take i).map varT).length ≤ 1000000000000 := by rw [List.length_map, List.length_take]; omega
          have HF : Hid (FactsAt ownr [(⟨w5.heap.size, 3, none⟩, .slice oa ((vs.take i).map varT).length oc)] wr.drew) := Lib.hid ⟨Blk.fact hob.drew (by decide) (hob.cell 3), trivial⟩
          clear hrow hob hEr hX hb
          generalize (vs.take i).map varT = rs at *
          generalize vs[i] = y at *
          go_wp2_with fail
          refine wp_region_plan4 [(true, 0, [1, 5, 6, 7]), (true, 1, [5, 6, 7]), (true, 2, [3, 4, 5, 6, 7]), (false, 3, []), (false, 4, []), (false, 5, []), (true, 6, [7]), (false, 7, [])] 7 (Facts _) (by kernel_rfl) (by kernel_rfl) (fun _ _ _ d _ h => by cases d <;> exact h) (FactsAt.facts HF.out) ?_
          have HROW := Lib.hid (HROW.out.ext (C' := fun _ => False) (M := fun _ => False) Ext.refl.drew id fun u hu hc => hc.elim)
          have HOB := Lib.hid HOB.out.drew
          have HER := Lib.hid HER.out.drew
          generalize wr.drew = w7 at *
          iterate 3
            apply plan4_early
            case hi => rfl
            case h =>
              intro w9 hf
              simp only [Facts] at hf
              obtain ⟨z0, _⟩ := hf
              still_step
              exact wpStill_nil rfl
          refine plan4_big rfl ?_
          go_wp2_with fail
          refine (V_any y _).mono ?_
          rintro e w8 ⟨rfl, hB8⟩
          have HF8 := Lib.hid (FactsAt.ext (Ext_same (M := MM) ownr hB8) HF.out)
          have HOB8 := Lib.hid (HOB.out.ext (M := fun _ => False) (Ext_same ownr hB8) id)
          have HER8 := Lib.hid (HER.out.trans (Ext_same ownr hB8))
          have HROW8 := Lib.hid (HROW.out.ext (C' := fun _ => False) (M := fun _ => False) (Ext_same ownr hB8) id fun u hu hc => hc.elim)
          clear hB8 HF HROW HOB HER
          go_wp2_with fail
          first | refine ⟨fun _ => FactsAt.facts HF8.out, ?_⟩ | refine ⟨FactsAt.facts HF8.out, ?_⟩
          refine plan4_big rfl ?_
          go_wp2_with fail
          have HF9 := Lib.hid (FactsAt.ext (ext_box (M := MM) (own := ownr) 0 (.cells #[.int .i64 1, .string noStr, .int .i64 y, .slice none 0 0] 24)) HF8.out)
          first | refine ⟨fun _ => FactsAt.facts HF9.out, ?_⟩ | refine ⟨FactsAt.facts HF9.out, ?_⟩
          refine plan4_big rfl ?_
          refine wpList_append_trow (v := .slice oa rs.length oc) rfl _ _ rfl (varV w8 (fun _ => False) y hy) rfl HROW8.out hlen3 (fun u hu hc => hc.elim) rfl rfl ?_
          intro v10 w10 hr10 hE10
          obtain ⟨a10, c10, rfl⟩ := TRow.shape hr10
          rw [List.length_append, List.length_singleton] at hr10 ⊢
          generalize ow ownr w8.heap.size 2 = own10 at *
          have HF10 := Lib.hid (FactsAt.ext (hE10.mono (M' := MM) fun c h => .inr h) HF8.out)
          have hob10 := HOB8.out.ext hE10 (by decide)
          have HOB10 := Lib.hid hob10
          have HER10 := Lib.hid (HER8.out.trans (hE10.mono fun c h => .inl h))
          have HR10 := Lib.hid hr10
          have b10 := hob10.cell 3
          have f10 := hob10.free 3
          have hol10 := hob10.lt
          simp at b10
          clear hr10 hE10 hob10 HF8 HF9 HOB8 HER8 HROW8
          go_wp2_with fail
          first | refine ⟨fun _ => FactsAt.facts HF10.out, ?_⟩ | refine ⟨FactsAt.facts HF10.out, ?_⟩
          apply plan4_early
          case hi => rfl
          case h =>
            intro w9 hf
            clear hf
            still_step
            exact wpStill_nil rfl
          refine plan4_big rfl ?_
          go_wp2_with fail
          try refine ⟨fun h => absurd rfl h, ?_⟩
          refine plan4_nil ?_
          go_wp2_with fail
          have hE11 : Ext (fun c => c = 4) w10 (w10.setCell ⟨w5.heap.size, 3, none⟩ (.slice a10 (rs.length + 1) c10)) own10 own10 := Ext.refl.setCell (fun _ => HOB10.out.col) _
          have HO11 := HOB10.out.setCell 3 (.slice a10 (rs.length + 1) c10)
          have HR11 := HR10.out.ext (C' := fun _ => False) hE11 (by decide) fun u hu hc => hc.1.elim
          have HE11 := HER10.out.trans (hE11.mono (M' := fun c => c = 2 ∨ c = 4) fun c h => .inr h)
          go_roundg (vs.length - (i + 1))
          case measure => omega
          case rel => exact ⟨own10, i + 1, .slice a10 (rs.length + 1) c10, by go_num, by omega, by rw [HT.out]; exact HR11, HO11, HE11⟩
        · obtain rfl : i = vs.length := by omega
          rw [List.take_length] at HROW HOB
          have hlm : (vs.map varT).length = vs.length := List.length_map _
          have hob2 := HOB.out
          have z0 : wr.cell? ⟨w5.heap.size, 0, none⟩ = some (.int .i64 4) := hob2.cell 0
          have z1 : wr.cell? ⟨w5.heap.size, 1, none⟩ = some (.string sGoal) := hob2.cell 1
          have z2 : wr.cell? ⟨w5.heap.size, 2, none⟩ = some (.int .i64 0) := hob2.cell 2
          have z3 : wr.cell? ⟨w5.heap.size, 3, none⟩ = some (.slice oa (vs.map varT).length oc) := hob2.cell 3
          have hol := hob2.lt
          have hbx := Blk_same HBX3.out HBF.out
          have y0 : wr.cell? ⟨w.heap.size, 0, none⟩ = some (.int .i64 k) := hbx.cell 0
          have y1 : wr.cell? ⟨w.heap.size, 1, none⟩ = some (.string s) := hbx.cell 1
          have y2 : wr.cell? ⟨w.heap.size, 2, none⟩ = some (.int .i64 x) := hbx.cell 2
          have y3 : wr.cell? ⟨w.heap.size, 3, none⟩ = some (.slice a1 l1 c1) := hbx.cell 3
          have hxl := hbx.lt
          obtain ⟨cd, er, HCM, hcase⟩ : ∃ cd er, Hid (Calls Try.prog 8 #[.agg #[.int .i64 4, .string sGoal, .int .i64 0, .slice oa (vs.map varT).length oc, .int .i64 k, .string s, .int .i64 x, .slice a1 l1 c1]] wr (CpPost wr cd er)) ∧ ((er = 0 ∧ cd = c) ∨ (er == 0) = false) := by
            have hh : TmV wr (fun _ => True) (goalHead vs) (.agg #[.int .i64 4, .string sGoal, .int .i64 0, .slice oa (vs.map varT).length oc]) :=
              ⟨_, rfl, by unfold rng64; show -9223372036854775808 ≤ (4 : Int) ∧ (4 : Int) ≤ 9223372036854775807; decide, by show sGoal.size ≤ _; decide, by unfold rng64; show -9223372036854775808 ≤ (0 : Int) ∧ (0 : Int) ≤ 9223372036854775807; decide,
                HROW.out.at 4 sGoal 0 (fun _ _ _ => trivial) (fun _ _ _ => trivial) (by omega)⟩
            have hg := (HTV.out wr (HBW3.out.trans (HBF.out.mono HBW3.out.size))).carry (w' := wr) (C' := fun _ => True) (Nat.le_refl _) fun g hg hc => ⟨rfl, trivial⟩
            have hcc := Compile_any (goalHead vs) g wr (fun _ => True) _ _ _ _ _ _ _ _ _ _ _ _ hh hg
            cases hco : compOk (goalHead vs) g
            · rw [hco] at hcc
              exact ⟨_, _, Lib.hid hcc, .inr rfl⟩
            · rw [hco] at hcc
              exact ⟨_, _, Lib.hid hcc, .inl ⟨rfl, HCO.out hco⟩⟩
          clear hrow hob hEr hX hb hob2 hbx HROW HOB HER HCO HRG HX6 HV6 HH6 hlm
          generalize (vs.map varT).length = lm at *
          go_wp2_with fail
          refine HCM.out.mono ?_
          rintro e w7 ⟨own7, v7, rfl, hcv7, hB7⟩
          obtain ⟨rv7, rfl, hir7⟩ := hcv7
          obtain ⟨ra7, rc7, rfl⟩ := hir7.shape
          have hb7 := HBF.out.trans (hB7.mono HBF.out.size)
          have HB7 := Lib.hid hb7
          have HIR7 := Lib.hid hir7
          have hba : Below w7.heap.size w7 (w7.alloc (.cells #[.string cd.p.1, .int .i64 cd.p.2, .int .i64 cd.vs, .int .i64 cd.slots, .slice ra7 cd.is.length rc7] 32)) := (Below.refl _ _).alloc (Nat.le_refl _) _
          have HBA := Lib.hid hba
          clear hB7 hba hir7 HCM z0 z1 z2 z3 hol y0 y1 y2 y3 hxl HBF
          rcases hcase with ⟨rfl, hcd⟩ | hne
          · have hcd := hcd.symm
            subst hcd
            have hbc := Blk_same HCV3.out hb7
            have y0 : w7.cell? ⟨w2.heap.size, 0, none⟩ = some (.string c.p.1) := hbc.cell 0
            have y1 : w7.cell? ⟨w2.heap.size, 1, none⟩ = some (.int .i64 c.p.2) := hbc.cell 1
            have y2 : w7.cell? ⟨w2.heap.size, 2, none⟩ = some (.int .i64 c.vs) := hbc.cell 2
            have y3 : w7.cell? ⟨w2.heap.size, 3, none⟩ = some (.int .i64 c.slots) := hbc.cell 3
            have y4 : w7.cell? ⟨w2.heap.size, 4, none⟩ = some (.slice ra c.is.length rc) := hbc.cell 4
            have yl := hbc.lt
            clear hbc hb7
            go_wp2_with fail
            refine (like_self c _ own2 own7 _ _ (CdV.below (CdV.below ⟨_, rfl, HIR3.out⟩ HB7.out) HBA.out) (CdV.below ⟨_, rfl, HIR7.out⟩ HBA.out) HLE.out).mono ?_
            rintro e w9 ⟨rfl, hB9⟩
            have HBR := Lib.hid (HB7.out.trans ((HBA.out.trans (hB9.mono HBA.out.size)).mono HB7.out.size))
            have HBF := HBR
            clear hB9 y0 y1 y2 y3 y4 yl HBA HB7 HIR7
            have hbt := Blk_same HBX3.out HBF.out
            have y0 : w9.cell? ⟨w.heap.size, 0, none⟩ = some (.int .i64 k) := hbt.cell 0
            have y1 : w9.cell? ⟨w.heap.size, 1, none⟩ = some (.string s) := hbt.cell 1
            have y2 : w9.cell? ⟨w.heap.size, 2, none⟩ = some (.int .i64 x) := hbt.cell 2
            have y3 : w9.cell? ⟨w.heap.size, 3, none⟩ = some (.slice a1 l1 c1) := hbt.cell 3
            have yl := hbt.lt
            clear hbt
            by_cases q1 : n < 1
            · go_wp2_with fail
              go_ret
              exact ⟨rfl, HBW3.out.trans (HBR.out.mono HBW3.out.size)⟩
            by_cases q2 : 1125899906842624 < n
            · go_wp2_with fail
              go_ret
              exact ⟨rfl, HBW3.out.trans (HBR.out.mono HBW3.out.size)⟩
            have HRR := Lib.hid (HRN.out _ HBR.out (by omega) (by omega))
            go_wp2_with fail
            refine HRR.out.mono ?_
            rintro e w7 ⟨v7, rfl, hv7, hB7⟩
            have HBS := Lib.hid (HBR.out.trans (hB7.mono HBR.out.size))
            obtain ⟨a7, l7, c7, rfl, -, -, -, -⟩ := TmV_open hv7
            have HG7 := Lib.hid (fun wq (hB : Below w7.heap.size w7 wq) => HGL.out wq _ _ (by omega) (TmV.below hv7 hB))
            clear y0 y1 y2 y3 yl hB7 hv7 HRR HRN HGL HBR HBF
            generalize Tm.ren (renM vs n) g = t7 at *
            generalize Tm.k t7 = k7 at *
            generalize Tm.s t7 = s7 at *
            generalize Tm.x t7 = x7 at *
            go_wp2_with fail
            refine (HG7.out _ ((Below.refl _ _).alloc (Nat.le_refl _) _)).mono ?_
            rintro e w8 ⟨own8, v8, rfl, hcv8, hB8⟩
            have HBU := Lib.hid (HBS.out.trans (((Below.refl w7.heap.size w7).alloc (Nat.le_refl _) _).trans (hB8.mono (by rw [World.size_alloc]; omega)) |>.mono HBS.out.size))
            obtain ⟨rv8, rfl, hir8⟩ := hcv8
            obtain ⟨ra8, rc8, rfl⟩ := hir8.shape
            have HIR8 := Lib.hid hir8
            have hbc := Blk_same HCV3.out HBU.out
            have y0 : w8.cell? ⟨w2.heap.size, 0, none⟩ = some (.string c.p.1) := hbc.cell 0
            have y1 : w8.cell? ⟨w2.heap.size, 1, none⟩ = some (.int .i64 c.p.2) := hbc.cell 1
            have y2 : w8.cell? ⟨w2.heap.size, 2, none⟩ = some (.int .i64 c.vs) := hbc.cell 2
            have y3 : w8.cell? ⟨w2.heap.size, 3, none⟩ = some (.int .i64 c.slots) := hbc.cell 3
            have y4 : w8.cell? ⟨w2.heap.size, 4, none⟩ = some (.slice ra c.is.length rc) := hbc.cell 4
            have yl := hbc.lt
            clear hB8 hir8 HG7 hbc
            go_wp2_with fail
            have hba : Below w8.heap.size w8 (w8.alloc (.cells #[.string c.p.1, .int .i64 c.p.2, .int .i64 c.vs, .int .i64 c.slots, .slice ra8 c.is.length rc8] 32)) := (Below.refl _ _).alloc (Nat.le_refl _) _
            refine (like_self c _ own2 own8 _ _ (CdV.below (CdV.below ⟨_, rfl, HIR3.out⟩ HBU.out) hba) (CdV.below ⟨_, rfl, HIR8.out⟩ hba) HLE.out).mono ?_
            rintro e w9 ⟨rfl, hB9⟩
            have HBV := Lib.hid (HBW3.out.trans ((HBU.out.trans ((hba.trans (hB9.mono hba.size)).mono HBU.out.size)).mono HBW3.out.size))
            clear hba hB9 y0 y1 y2 y3 y4
            go_wp2_with fail
            go_ret
            exact ⟨rfl, HBV.out⟩
          · have HBR := Lib.hid (HB7.out.trans (HBA.out.mono HB7.out.size))
            have HBF := HB7
            clear hb7 HBA HB7 HIR7
            have hbt := Blk_same HBX3.out HBF.out
            have y0 : w7.cell? ⟨w.heap.size, 0, none⟩ = some (.int .i64 k) := hbt.cell 0
            have y1 : w7.cell? ⟨w.heap.size, 1, none⟩ = some (.string s) := hbt.cell 1
            have y2 : w7.cell? ⟨w.heap.size, 2, none⟩ = some (.int .i64 x) := hbt.cell 2
            have y3 : w7.cell? ⟨w.heap.size, 3, none⟩ = some (.slice a1 l1 c1) := hbt.cell 3
            have yl := hbt.lt
            clear hbt
            by_cases q1 : n < 1
            · go_wp2_with fail
              go_ret
              exact ⟨rfl, HBW3.out.trans (HBR.out.mono HBW3.out.size)⟩
            by_cases q2 : 1125899906842624 < n
            · go_wp2_with fail
              go_ret
              exact ⟨rfl, HBW3.out.trans (HBR.out.mono HBW3.out.size)⟩
            have HRR := Lib.hid (HRN.out _ HBR.out (by omega) (by omega))
            go_wp2_with fail
            refine HRR.out.mono ?_
            rintro e w7 ⟨v7, rfl, hv7, hB7⟩
            have HBS := Lib.hid (HBR.out.trans (hB7.mono HBR.out.size))
            obtain ⟨a7, l7, c7, rfl, -, -, -, -⟩ := TmV_open hv7
            have HG7 := Lib.hid (fun wq (hB : Below w7.heap.size w7 wq) => HGL.out wq _ _ (by omega) (TmV.below hv7 hB))
            clear y0 y1 y2 y3 yl hB7 hv7 HRR HRN HGL HBR HBF
            generalize Tm.ren (renM vs n) g = t7 at *
            generalize Tm.k t7 = k7 at *
            generalize Tm.s t7 = s7 at *
            generalize Tm.x t7 = x7 at *
            go_wp2_with fail
            refine (HG7.out _ ((Below.refl _ _).alloc (Nat.le_refl _) _)).mono ?_
            rintro e w8 ⟨own8, v8, rfl, hcv8, hB8⟩
            have HBU := Lib.hid (HBS.out.trans (((Below.refl w7.heap.size w7).alloc (Nat.le_refl _) _).trans (hB8.mono (by rw [World.size_alloc]; omega)) |>.mono HBS.out.size))
            obtain ⟨rv8, rfl, hir8⟩ := hcv8
            obtain ⟨ra8, rc8, rfl⟩ := hir8.shape
            have HIR8 := Lib.hid hir8
            have hbc := Blk_same HCV3.out HBU.out
            have y0 : w8.cell? ⟨w2.heap.size, 0, none⟩ = some (.string c.p.1) := hbc.cell 0
            have y1 : w8.cell? ⟨w2.heap.size, 1, none⟩ = some (.int .i64 c.p.2) := hbc.cell 1
            have y2 : w8.cell? ⟨w2.heap.size, 2, none⟩ = some (.int .i64 c.vs) := hbc.cell 2
            have y3 : w8.cell? ⟨w2.heap.size, 3, none⟩ = some (.int .i64 c.slots) := hbc.cell 3
            have y4 : w8.cell? ⟨w2.heap.size, 4, none⟩ = some (.slice ra c.is.length rc) := hbc.cell 4
            have yl := hbc.lt
            clear hB8 hir8 HG7 hbc
            go_wp2_with fail
            have hba : Below w8.heap.size w8 (w8.alloc (.cells #[.string c.p.1, .int .i64 c.p.2, .int .i64 c.vs, .int .i64 c.slots, .slice ra8 c.is.length rc8] 32)) := (Below.refl _ _).alloc (Nat.le_refl _) _
            refine (like_self c _ own2 own8 _ _ (CdV.below (CdV.below ⟨_, rfl, HIR3.out⟩ HBU.out) hba) (CdV.below ⟨_, rfl, HIR8.out⟩ hba) HLE.out).mono ?_
            rintro e w9 ⟨rfl, hB9⟩
            have HBV := Lib.hid (HBW3.out.trans ((HBU.out.trans ((hba.trans (hB9.mono hba.size)).mono HBU.out.size)).mono HBW3.out.size))
            clear hba hB9 y0 y1 y2 y3 y4
            go_wp2_with fail
            go_ret
            exact ⟨rfl, HBV.out⟩
    · have hL' : (vs.length : Int) < 1 ∨ 8 < (vs.length : Int) := by omega
      clear hL
      rcases hL' with hL | hL
      · clear hr5 hB5
        have HBF := HBR
        have hbt := Blk_same HBX3.out HBF.out
        have y0 : w5.cell? ⟨w.heap.size, 0, none⟩ = some (.int .i64 k) := hbt.cell 0
        have y1 : w5.cell? ⟨w.heap.size, 1, none⟩ = some (.string s) := hbt.cell 1
        have y2 : w5.cell? ⟨w.heap.size, 2, none⟩ = some (.int .i64 x) := hbt.cell 2
        have y3 : w5.cell? ⟨w.heap.size, 3, none⟩ = some (.slice a1 l1 c1) := hbt.cell 3
        have yl := hbt.lt
        clear hbt
        by_cases q1 : n < 1
        · go_wp2_with fail
          go_ret
          exact ⟨rfl, HBW3.out.trans (HBR.out.mono HBW3.out.size)⟩
        by_cases q2 : 1125899906842624 < n
        · go_wp2_with fail
          go_ret
          exact ⟨rfl, HBW3.out.trans (HBR.out.mono HBW3.out.size)⟩
        have HRR := Lib.hid (HRN.out _ HBR.out (by omega) (by omega))
        go_wp2_with fail
        refine HRR.out.mono ?_
        rintro e w7 ⟨v7, rfl, hv7, hB7⟩
        have HBS := Lib.hid (HBR.out.trans (hB7.mono HBR.out.size))
        obtain ⟨a7, l7, c7, rfl, -, -, -, -⟩ := TmV_open hv7
        have HG7 := Lib.hid (fun wq (hB : Below w7.heap.size w7 wq) => HGL.out wq _ _ (by omega) (TmV.below hv7 hB))
        clear y0 y1 y2 y3 yl hB7 hv7 HRR HRN HGL HBR HBF
        generalize Tm.ren (renM vs n) g = t7 at *
        generalize Tm.k t7 = k7 at *
        generalize Tm.s t7 = s7 at *
        generalize Tm.x t7 = x7 at *
        go_wp2_with fail
        refine (HG7.out _ ((Below.refl _ _).alloc (Nat.le_refl _) _)).mono ?_
        rintro e w8 ⟨own8, v8, rfl, hcv8, hB8⟩
        have HBU := Lib.hid (HBS.out.trans (((Below.refl w7.heap.size w7).alloc (Nat.le_refl _) _).trans (hB8.mono (by rw [World.size_alloc]; omega)) |>.mono HBS.out.size))
        obtain ⟨rv8, rfl, hir8⟩ := hcv8
        obtain ⟨ra8, rc8, rfl⟩ := hir8.shape
        have HIR8 := Lib.hid hir8
        have hbc := Blk_same HCV3.out HBU.out
        have y0 : w8.cell? ⟨w2.heap.size, 0, none⟩ = some (.string c.p.1) := hbc.cell 0
        have y1 : w8.cell? ⟨w2.heap.size, 1, none⟩ = some (.int .i64 c.p.2) := hbc.cell 1
        have y2 : w8.cell? ⟨w2.heap.size, 2, none⟩ = some (.int .i64 c.vs) := hbc.cell 2
        have y3 : w8.cell? ⟨w2.heap.size, 3, none⟩ = some (.int .i64 c.slots) := hbc.cell 3
        have y4 : w8.cell? ⟨w2.heap.size, 4, none⟩ = some (.slice ra c.is.length rc) := hbc.cell 4
        have yl := hbc.lt
        clear hB8 hir8 HG7 hbc
        go_wp2_with fail
        have hba : Below w8.heap.size w8 (w8.alloc (.cells #[.string c.p.1, .int .i64 c.p.2, .int .i64 c.vs, .int .i64 c.slots, .slice ra8 c.is.length rc8] 32)) := (Below.refl _ _).alloc (Nat.le_refl _) _
        refine (like_self c _ own2 own8 _ _ (CdV.below (CdV.below ⟨_, rfl, HIR3.out⟩ HBU.out) hba) (CdV.below ⟨_, rfl, HIR8.out⟩ hba) HLE.out).mono ?_
        rintro e w9 ⟨rfl, hB9⟩
        have HBV := Lib.hid (HBW3.out.trans ((HBU.out.trans ((hba.trans (hB9.mono hba.size)).mono HBU.out.size)).mono HBW3.out.size))
        clear hba hB9 y0 y1 y2 y3 y4
        go_wp2_with fail
        go_ret
        exact ⟨rfl, HBV.out⟩
      · clear hr5 hB5
        have HBF := HBR
        have hbt := Blk_same HBX3.out HBF.out
        have y0 : w5.cell? ⟨w.heap.size, 0, none⟩ = some (.int .i64 k) := hbt.cell 0
        have y1 : w5.cell? ⟨w.heap.size, 1, none⟩ = some (.string s) := hbt.cell 1
        have y2 : w5.cell? ⟨w.heap.size, 2, none⟩ = some (.int .i64 x) := hbt.cell 2
        have y3 : w5.cell? ⟨w.heap.size, 3, none⟩ = some (.slice a1 l1 c1) := hbt.cell 3
        have yl := hbt.lt
        clear hbt
        by_cases q1 : n < 1
        · go_wp2_with fail
          go_ret
          exact ⟨rfl, HBW3.out.trans (HBR.out.mono HBW3.out.size)⟩
        by_cases q2 : 1125899906842624 < n
        · go_wp2_with fail
          go_ret
          exact ⟨rfl, HBW3.out.trans (HBR.out.mono HBW3.out.size)⟩
        have HRR := Lib.hid (HRN.out _ HBR.out (by omega) (by omega))
        go_wp2_with fail
        refine HRR.out.mono ?_
        rintro e w7 ⟨v7, rfl, hv7, hB7⟩
        have HBS := Lib.hid (HBR.out.trans (hB7.mono HBR.out.size))
        obtain ⟨a7, l7, c7, rfl, -, -, -, -⟩ := TmV_open hv7
        have HG7 := Lib.hid (fun wq (hB : Below w7.heap.size w7 wq) => HGL.out wq _ _ (by omega) (TmV.below hv7 hB))
        clear y0 y1 y2 y3 yl hB7 hv7 HRR HRN HGL HBR HBF
        generalize Tm.ren (renM vs n) g = t7 at *
        generalize Tm.k t7 = k7 at *
        generalize Tm.s t7 = s7 at *
        generalize Tm.x t7 = x7 at *
        go_wp2_with fail
        refine (HG7.out _ ((Below.refl _ _).alloc (Nat.le_refl _) _)).mono ?_
        rintro e w8 ⟨own8, v8, rfl, hcv8, hB8⟩
        have HBU := Lib.hid (HBS.out.trans (((Below.refl w7.heap.size w7).alloc (Nat.le_refl _) _).trans (hB8.mono (by rw [World.size_alloc]; omega)) |>.mono HBS.out.size))
        obtain ⟨rv8, rfl, hir8⟩ := hcv8
        obtain ⟨ra8, rc8, rfl⟩ := hir8.shape
        have HIR8 := Lib.hid hir8
        have hbc := Blk_same HCV3.out HBU.out
        have y0 : w8.cell? ⟨w2.heap.size, 0, none⟩ = some (.string c.p.1) := hbc.cell 0
        have y1 : w8.cell? ⟨w2.heap.size, 1, none⟩ = some (.int .i64 c.p.2) := hbc.cell 1
        have y2 : w8.cell? ⟨w2.heap.size, 2, none⟩ = some (.int .i64 c.vs) := hbc.cell 2
        have y3 : w8.cell? ⟨w2.heap.size, 3, none⟩ = some (.int .i64 c.slots) := hbc.cell 3
        have y4 : w8.cell? ⟨w2.heap.size, 4, none⟩ = some (.slice ra c.is.length rc) := hbc.cell 4
        have yl := hbc.lt
        clear hB8 hir8 HG7 hbc
        go_wp2_with fail
        have hba : Below w8.heap.size w8 (w8.alloc (.cells #[.string c.p.1, .int .i64 c.p.2, .int .i64 c.vs, .int .i64 c.slots, .slice ra8 c.is.length rc8] 32)) := (Below.refl _ _).alloc (Nat.le_refl _) _
        refine (like_self c _ own2 own8 _ _ (CdV.below (CdV.below ⟨_, rfl, HIR3.out⟩ HBU.out) hba) (CdV.below ⟨_, rfl, HIR8.out⟩ hba) HLE.out).mono ?_
        rintro e w9 ⟨rfl, hB9⟩
        have HBV := Lib.hid (HBW3.out.trans ((HBU.out.trans ((hba.trans (hB9.mono hba.size)).mono HBU.out.size)).mono HBW3.out.size))
        clear hba hB9 y0 y1 y2 y3 y4
        go_wp2_with fail
        go_ret
        exact ⟨rfl, HBV.out⟩
  · have hM : goalM g = zeroCd := if_neg hE
    rw [hM] at hir
    rw [hM]
    have hE2 : (goalE g == 0) = false := by simp [hE]
    have hE3 : goalE g = 70 ∨ goalE g = 160 := by
      unfold goalE at hE ⊢
      cases hr : Tm.rightN g
      · exact .inl rfl
      · rw [hr] at hE
        by_cases k2 : g.k = 2
        · right; simp [k2]
        · exact absurd (by simp [k2]) hE
    have hBe := HB2.out.alloc HB2.out.size (.cells #[.string zeroCd.p.1, .int .i64 zeroCd.p.2, .int .i64 zeroCd.vs, .int .i64 zeroCd.slots, .slice ra 0 rc] 32)
    have HBe := Lib.hid hBe
    clear hE hBe
    rcases hE3 with e3 | e3
    · rw [e3]
      go_wp2_with fail
      go_ret
      exact ⟨rfl, HBe.out⟩
    · rw [e3]
      go_wp2_with fail
      go_ret
      exact ⟨rfl, HBe.out⟩
end Go.Proofs.Ytamiidklcadkmaa
