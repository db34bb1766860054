/- CodePlays: the walk. Printed by gen_plays.py. -/
import Derived.Test.YtamiidklcadkmaaRGoal
import Derived.Test.YtamiidklcadkmaaRSame
set_option maxRecDepth 20000
set_option linter.unusedVariables false
set_option linter.unusedSimpArgs false
namespace Go.Proofs.Ytamiidklcadkmaa
open Go.RowKit Go.PM
theorem compM_le9 (h b : Tm) (hk : compOk h b = true) : (compM h b).is.length ≤ 1000000000 := by
  have hk0 := hk
  unfold compOk at hk
  rw [Bool.and_eq_true] at hk
  obtain ⟨q1, q2, q3, q4⟩ := (rightN_whole h b).1 hk.1
  have h1 := compM_len h b hk0
  have h2 := (bd_le 101 b (In0 3 0) 0).1
  have h3 : bodyLen b = (bd 101 b (In0 3 0) 0).1.length := rfl
  have h4 : Tm.predN h ≤ 8 := by
    unfold Tm.predN
    match h, q3 with
    | .mk k s x ls, q3 =>
      show (if k = 4 then ls.length else 0) ≤ 8
      by_cases k4 : k = 4
      · subst k4; rw [if_pos rfl]; exact (pl_4.1 q3).2.2.1
      · rw [if_neg k4]; omega
  have p1 := sz_pos h
  have p2 := sz_pos b
  omega
set_option maxHeartbeats 8000000 in
theorem codePlays_walk (w : World) (h b : Tm) (C : Nat → Prop) (k1 : Int) (s1 : ByteArray) (x1 : Int) (sl1 : Value) (k2 : Int) (s2 : ByteArray) (x2 : Int) (sl2 : Value) (hh : TmV w C h (.agg #[.int .i64 k1, .string s1, .int .i64 x1, sl1])) (hb : TmV w C b (.agg #[.int .i64 k2, .string s2, .int .i64 x2, sl2]))
    (g : Tm) (C2 : Nat → Prop) (v : Value) (hv : TmV w C2 g v) :
    Calls Try.prog 3 #[.agg #[.int .i64 k1, .string s1, .int .i64 x1, sl1, .int .i64 k2, .string s2, .int .i64 x2, sl2], v] w fun e w' => e = .returned (.bool true) ∧ Below w.heap.size w w' := by
  obtain ⟨a1, l1, c1, rfl⟩ := Tm.at_shape (TmV_at hh).2.2.2.2.2.2
  obtain ⟨a2, l2, c2, rfl⟩ := Tm.at_shape (TmV_at hb).2.2.2.2.2.2
  obtain ⟨a, l, c, rfl, -, -, -, -⟩ := TmV_open hv
  obtain ⟨hb0, hb1, hB0, hz0⟩ := two_new w (.cells #[.int .i64 k1, .string s1, .int .i64 x1, .slice a1 l1 c1, .int .i64 k2, .string s2, .int .i64 x2, .slice a2 l2 c2] 26) (.cells #[.int .i64 g.k, .string g.s, .int .i64 g.x, .slice a l c] 24)
  have HX00 := Lib.hid hb0
  have HX10 := Lib.hid hb1
  have HB0 := Lib.hid hB0
  have HC := Lib.hid (fun w2 (hB : Below w.heap.size w w2) => Compile_any h b w2 C _ _ _ _ _ _ _ _ _ _ _ _ (TmV.below hh hB) (TmV.below hb hB))
  have HRC := Lib.hid (fun w2 (hB : Below w.heap.size w w2) => rCompile_any h b w2 C _ _ _ _ _ _ _ _ _ _ _ _ (TmV.below hh hB) (TmV.below hb hB))
  have HG := Lib.hid (fun w2 (hB : Below w.heap.size w w2) => Goal_any g w2 C2 _ (TmV.below hv hB))
  have HRT := Lib.hid (fun w2 (hB : Below w.heap.size w w2) => Right_any g w2 C2 _ (TmV.below hv hB))
  have HRG := Lib.hid (fun w2 (hB : Below w.heap.size w w2) hr => rGoal_any g w2 C2 _ _ _ _ _ _ (TmV.below hv hB) hr)
  have HLE := Lib.hid (compM_le9 h b)
  have HCASE : Hid ((Tm.rightN g = false ∧ goalE g = 70 ∧ goalM g = zeroCd) ∨ (Tm.rightN g = true ∧ g.k = 2 ∧ goalE g = 160 ∧ goalM g = zeroCd) ∨ (Tm.rightN g = true ∧ g.k ≠ 2 ∧ goalE g = 0 ∧ goalM g = goalC g)) := Lib.hid (by
    unfold goalM goalE
    cases hr : Tm.rightN g
    · exact .inl ⟨rfl, rfl, rfl⟩
    · by_cases hk : g.k = 2
      · exact .inr (.inl ⟨rfl, hk, by simp [hk], by simp [hk]⟩)
      · exact .inr (.inr ⟨rfl, hk, by simp [hk], by simp [hk]⟩))
  clear hb0 hb1 hB0 hz0 hh hb hv
  generalize goalM g = gm at *
  generalize goalE g = ge at *
  generalize Tm.k g = k at *
  generalize Tm.s g = s at *
  generalize Tm.x g = x at *
  go_enter Try.func3, Try.ntmps3
  go_wp2_with fail
  refine (alive_any _).mono ?_
  rintro e w1 ⟨rfl, hB1⟩
  have hx0 := Blk_same HX00.out hB1
  have HX01 := Lib.hid hx0
  have HX11 := Lib.hid (Blk_same HX10.out hB1)
  have HB1 := Lib.hid (HB0.out.trans (hB1.mono HB0.out.size))
  have z0 : w1.cell? ⟨w.heap.size, 0, none⟩ = some (.int .i64 k1) := hx0.cell 0
  have z1 : w1.cell? ⟨w.heap.size, 1, none⟩ = some (.string s1) := hx0.cell 1
  have z2 : w1.cell? ⟨w.heap.size, 2, none⟩ = some (.int .i64 x1) := hx0.cell 2
  have z3 : w1.cell? ⟨w.heap.size, 3, none⟩ = some (.slice a1 l1 c1) := hx0.cell 3
  have z4 : w1.cell? ⟨w.heap.size, 4, none⟩ = some (.int .i64 k2) := hx0.cell 4
  have z5 : w1.cell? ⟨w.heap.size, 5, none⟩ = some (.string s2) := hx0.cell 5
  have z6 : w1.cell? ⟨w.heap.size, 6, none⟩ = some (.int .i64 x2) := hx0.cell 6
  have z7 : w1.cell? ⟨w.heap.size, 7, none⟩ = some (.slice a2 l2 c2) := hx0.cell 7
  have zl := hx0.lt
  clear hx0 hB1 HX00 HX10 HB0
  go_wp2_with fail
  refine (HC.out w1 HB1.out).mono ?_
  rintro e w2 ⟨own2, v2, rfl, hcv2, hB2⟩
  obtain ⟨cm, er, HCM⟩ : ∃ cm er, Hid ((bif compOk h b then compM h b else zeroCd) = cm ∧ (bif compOk h b then (0 : Int) else 160) = er) := ⟨_, _, Lib.hid ⟨rfl, rfl⟩⟩
  rw [HCM.out.1] at hcv2
  rw [HCM.out.2]
  obtain ⟨rv2, rfl, hir2⟩ := hcv2
  obtain ⟨ra2, rc2, rfl⟩ := hir2.shape
  have hx2 := Blk_same HX01.out hB2
  have hal : Below w2.heap.size w2 (w2.alloc (.cells #[.string cm.p.1, .int .i64 cm.p.2, .int .i64 cm.vs, .int .i64 cm.slots, .slice ra2 cm.is.length rc2] 32)) := (Below.refl _ _).alloc (Nat.le_refl _) _
  have HX13 := Lib.hid (Blk_same (Blk_same HX11.out hB2) hal)
  have hB12 := HB1.out.trans (hB2.mono HB1.out.size)
  have HB3 := Lib.hid (hB12.trans (hal.mono hB12.size))
  have HIR3 := Lib.hid (IRow.still hir2 hal)
  have HCB3 := Lib.hid (Blk.new (own := fun _ => 0) (k := 0) w2 (.cells #[.string cm.p.1, .int .i64 cm.p.2, .int .i64 cm.vs, .int .i64 cm.slots, .slice ra2 cm.is.length rc2] 32) rfl)
  clear z0 z1 z2 z3 z4 z5 z6 z7 zl
  have z0 : w2.cell? ⟨w.heap.size, 0, none⟩ = some (.int .i64 k1) := hx2.cell 0
  have z1 : w2.cell? ⟨w.heap.size, 1, none⟩ = some (.string s1) := hx2.cell 1
  have z2 : w2.cell? ⟨w.heap.size, 2, none⟩ = some (.int .i64 x1) := hx2.cell 2
  have z3 : w2.cell? ⟨w.heap.size, 3, none⟩ = some (.slice a1 l1 c1) := hx2.cell 3
  have z4 : w2.cell? ⟨w.heap.size, 4, none⟩ = some (.int .i64 k2) := hx2.cell 4
  have z5 : w2.cell? ⟨w.heap.size, 5, none⟩ = some (.string s2) := hx2.cell 5
  have z6 : w2.cell? ⟨w.heap.size, 6, none⟩ = some (.int .i64 x2) := hx2.cell 6
  have z7 : w2.cell? ⟨w.heap.size, 7, none⟩ = some (.slice a2 l2 c2) := hx2.cell 7
  have zl := hx2.lt
  clear hx2 hal hB12 hir2 hB2 HX01 HX11 HB1 HC
  go_wp2_with fail
  generalize w2.heap.size = b5 at *
  generalize (w2.alloc (.cells #[.string cm.p.1, .int .i64 cm.p.2, .int .i64 cm.vs, .int .i64 cm.slots, .slice ra2 cm.is.length rc2] 32)) = w3 at *
  refine (HRC.out w3 HB3.out).mono ?_
  rintro e w4 ⟨v4, rfl, hcv4, hB4⟩
  rw [HCM.out.1] at hcv4
  have HCV4 := Lib.hid hcv4
  obtain ⟨rv4, rfl, hrv4⟩ := hcv4
  obtain ⟨ra4, rc4, rfl⟩ := hrv4.shape
  have hal : Below w4.heap.size w4 (w4.alloc (.cells #[.string cm.p.1, .int .i64 cm.p.2, .int .i64 cm.vs, .int .i64 cm.slots, .slice ra4 cm.is.length rc4] 38)) := (Below.refl _ _).alloc (Nat.le_refl _) _
  have hc4 := Blk_same HCB3.out hB4
  have u0 : w4.cell? ⟨b5, 0, none⟩ = some (.string cm.p.1) := hc4.cell 0
  have u1 : w4.cell? ⟨b5, 1, none⟩ = some (.int .i64 cm.p.2) := hc4.cell 1
  have u2 : w4.cell? ⟨b5, 2, none⟩ = some (.int .i64 cm.vs) := hc4.cell 2
  have u3 : w4.cell? ⟨b5, 3, none⟩ = some (.int .i64 cm.slots) := hc4.cell 3
  have u4 : w4.cell? ⟨b5, 4, none⟩ = some (.slice ra2 cm.is.length rc2) := hc4.cell 4
  have ul := hc4.lt
  have hx4 := Blk_same HX13.out hB4
  have HX14 := Lib.hid hx4
  have HX1 := Lib.hid (Blk_same hx4 hal)
  have hB14 := HB3.out.trans (hB4.mono HB3.out.size)
  have HBW := Lib.hid (hB14.trans (hal.mono hB14.size))
  have HCA := Lib.hid (CdV.below (CdV.below ⟨_, rfl, HIR3.out⟩ hB4) hal)
  have HCB := Lib.hid (RCdV.below HCV4.out hal)
  clear z0 z1 z2 z3 z4 z5 z6 z7 zl hc4 hal hB14 hrv4 HX13 HB3 HRC HIR3 HCB3 HCV4
  cases hok : compOk h b
  · have e1 : cm = zeroCd := by rw [← HCM.out.1, hok]; rfl
    have e2 : er = 160 := by rw [← HCM.out.2, hok]; rfl
    subst e1
    subst e2
    have hz : zeroCd.is.length = 0 := rfl
    rw [hz] at u4
    rw [hz]
    have y0 : w4.cell? ⟨w.heap.size + 1, 0, none⟩ = some (.int .i64 k) := hx4.cell 0
    have y1 : w4.cell? ⟨w.heap.size + 1, 1, none⟩ = some (.string s) := hx4.cell 1
    have y2 : w4.cell? ⟨w.heap.size + 1, 2, none⟩ = some (.int .i64 x) := hx4.cell 2
    have y3 : w4.cell? ⟨w.heap.size + 1, 3, none⟩ = some (.slice a l c) := hx4.cell 3
    have yl := hx4.lt
    rw [hz] at HX1 HBW HCA HCB
    clear hok hx4 HCM HLE hz HCA HCB HX14
    go_wp2_with fail
    generalize (w4.alloc (.cells #[.string zeroCd.p.1, .int .i64 zeroCd.p.2, .int .i64 zeroCd.vs, .int .i64 zeroCd.slots, .slice ra4 0 rc4] 38)) = wv at *
    clear u0 u1 u2 u3 u4 ul
    refine (HG.out wv HBW.out).mono ?_
    rintro e w5 ⟨own5, v5, rfl, hcv, hB5⟩
    obtain ⟨rv, rfl, hir⟩ := hcv
    obtain ⟨ra5, rc5, rfl⟩ := hir.shape
    have hal : Below w5.heap.size w5 (w5.alloc (.cells #[.string gm.p.1, .int .i64 gm.p.2, .int .i64 gm.vs, .int .i64 gm.slots, .slice ra5 gm.is.length rc5] 32)) := (Below.refl _ _).alloc (Nat.le_refl _) _
    have hx5 := Blk_same HX1.out hB5
    have HX5 := Lib.hid (Blk_same hx5 hal)
    have hB15 := HBW.out.trans (hB5.mono HBW.out.size)
    have HB5 := Lib.hid (hB15.trans (hal.mono hB15.size))
    have HIR5 := Lib.hid (IRow.still hir hal)
    have HC5 := Lib.hid (Blk.new (own := fun _ => 0) (k := 0) w5 (.cells #[.string gm.p.1, .int .i64 gm.p.2, .int .i64 gm.vs, .int .i64 gm.slots, .slice ra5 gm.is.length rc5] 32) rfl)
    clear y0 y1 y2 y3 yl
    have y0 : w5.cell? ⟨w.heap.size + 1, 0, none⟩ = some (.int .i64 k) := hx5.cell 0
    have y1 : w5.cell? ⟨w.heap.size + 1, 1, none⟩ = some (.string s) := hx5.cell 1
    have y2 : w5.cell? ⟨w.heap.size + 1, 2, none⟩ = some (.int .i64 x) := hx5.cell 2
    have y3 : w5.cell? ⟨w.heap.size + 1, 3, none⟩ = some (.slice a l c) := hx5.cell 3
    have yl := hx5.lt
    clear hx5 hal hB15 hB5 hir HX1 HBW HG
    go_wp2_with fail
    generalize w5.heap.size = b9 at *
    generalize (w5.alloc (.cells #[.string gm.p.1, .int .i64 gm.p.2, .int .i64 gm.vs, .int .i64 gm.slots, .slice ra5 gm.is.length rc5] 32)) = w6 at *
    refine (HRT.out w6 HB5.out).mono ?_
    rintro e w7 ⟨rfl, hB7⟩
    have hx7 := Blk_same HX5.out hB7
    have hc7 := Blk_same HC5.out hB7
    have HB7 := Lib.hid (HB5.out.trans (hB7.mono HB5.out.size))
    have HIR7 := Lib.hid (IRow.still HIR5.out hB7)
    clear y0 y1 y2 y3 yl
    have y0 : w7.cell? ⟨w.heap.size + 1, 0, none⟩ = some (.int .i64 k) := hx7.cell 0
    have y1 : w7.cell? ⟨w.heap.size + 1, 1, none⟩ = some (.string s) := hx7.cell 1
    have y2 : w7.cell? ⟨w.heap.size + 1, 2, none⟩ = some (.int .i64 x) := hx7.cell 2
    have y3 : w7.cell? ⟨w.heap.size + 1, 3, none⟩ = some (.slice a l c) := hx7.cell 3
    have yl := hx7.lt
    have u0 : w7.cell? ⟨b9, 0, none⟩ = some (.string gm.p.1) := hc7.cell 0
    have u1 : w7.cell? ⟨b9, 1, none⟩ = some (.int .i64 gm.p.2) := hc7.cell 1
    have u2 : w7.cell? ⟨b9, 2, none⟩ = some (.int .i64 gm.vs) := hc7.cell 2
    have u3 : w7.cell? ⟨b9, 3, none⟩ = some (.int .i64 gm.slots) := hc7.cell 3
    have u4 : w7.cell? ⟨b9, 4, none⟩ = some (.slice ra5 gm.is.length rc5) := hc7.cell 4
    have ul := hc7.lt
    clear hB7 HX5 HC5 HIR5 HB5 HRT
    rcases HCASE.out with ⟨e1, e2, e3⟩ | ⟨e1, e0, e2, e3⟩ | ⟨e1, e0, e2, e3⟩
    · subst e2
      subst e3
      rw [e1]
      have hz : zeroCd.is.length = 0 := rfl
      rw [hz] at u4
      clear hz e1 hx7 hc7
      go_wp2_with fail
      go_ret
      exact ⟨rfl, HB7.out⟩
    · subst e0
      subst e2
      subst e3
      rw [e1]
      have hz : zeroCd.is.length = 0 := rfl
      rw [hz] at u4
      clear hz e1 hx7 hc7
      go_wp2_with fail
      go_ret
      exact ⟨rfl, HB7.out⟩
    · have hkb : (k == 2) = false := by simp [e0]
      subst e2
      have HGM := Lib.hid e3
      rw [e1]
      have HRG2 := Lib.hid (fun wq hB => HRG.out wq hB e1)
      have hlen : gm.is.length ≤ 1000000000 := by rw [e3]; exact goalC_le g e1
      rw [← e3] at HRG2
      have HF : Hid (FactsB [(⟨b9, 0, none⟩, .string gm.p.1), (⟨b9, 1, none⟩, .int .i64 gm.p.2), (⟨b9, 2, none⟩, .int .i64 gm.vs), (⟨b9, 3, none⟩, .int .i64 gm.slots), (⟨b9, 4, none⟩, .slice ra5 gm.is.length rc5), (⟨w.heap.size + 1, 0, none⟩, .int .i64 k), (⟨w.heap.size + 1, 1, none⟩, .string s), (⟨w.heap.size + 1, 2, none⟩, .int .i64 x), (⟨w.heap.size + 1, 3, none⟩, .slice a l c)] w7.drew) := Lib.hid ⟨⟨u0, ul⟩, ⟨u1, ul⟩, ⟨u2, ul⟩, ⟨u3, ul⟩, ⟨u4, ul⟩, ⟨y0, yl⟩, ⟨y1, yl⟩, ⟨y2, yl⟩, ⟨y3, yl⟩, trivial⟩
      clear e0 e1 e3 HRG hx7 hc7 u0 u1 u2 u3 u4 ul y1 y2 y3
      go_wp2_with fail
      refine wp_region_plan5 [.early 0 [1, 2, 3, 4, 5, 6, 7, 8], .early 1 [2, 3, 4, 5, 6, 7, 8], .early 2 [3, 4, 5, 6, 7, 8], .early 3 [6, 7, 8], .early 4 [5, 6, 7, 8], .big 5, .big 6, .early 7 [8], .early 8 []] 9 (Facts _) (by kernel_rfl) (by kernel_rfl) (fun _ _ _ d _ h => by cases d <;> exact h) (FactsB.facts HF.out) ?_
      have HBD := Lib.hid HB7.out.drew
      have HIRD := Lib.hid (HIR7.out.ext (w' := w7.drew) (M := fun _ => False) (own' := own5) (Ext.refl.drew) fun c h => h.elim)
      clear y0 yl HB7 HIR7
      generalize w7.drew = wd at *
      iterate 5
        apply plan5_early
        case hi => rfl
        case h =>
          intro w9 hf
          simp only [Facts] at hf
          obtain ⟨z0, z1, z2, z3, z4, z5, z6, z7, z8, _⟩ := hf
          still_step
          exact wpStill_nil rfl
      refine plan5_big rfl ?_
      go_wp2_with fail
      refine (HRG2.out wd HBD.out).mono ?_
      rintro e w8 ⟨v8, rfl, hcv8, hB8⟩
      have HF8 := Lib.hid (FactsB.below hB8 HF.out)
      have HB8 := Lib.hid (HBD.out.trans (hB8.mono HBD.out.size))
      have HIR8 := Lib.hid (IRow.still HIRD.out hB8)
      have HCV8 := Lib.hid hcv8
      obtain ⟨rv8, rfl, hrv8⟩ := hcv8
      clear hB8 hrv8 HF HBD HIRD
      go_wp2_with fail
      refine ⟨fun _ => FactsB.facts HF8.out, ?_⟩
      refine plan5_big rfl ?_
      go_wp2_with fail
      refine (same_self gm w8 own5 _ _ _ ⟨_, rfl, HIR8.out⟩ HCV8.out hlen).mono ?_
      rintro e w9 ⟨rfl, hB9⟩
      have HF9 := Lib.hid (FactsB.below hB9 HF8.out)
      have HB9 := Lib.hid (HB8.out.trans (hB9.mono HB8.out.size))
      clear hB9 HF8 HB8 HIR8 HCV8
      go_wp2_with fail
      refine ⟨fun _ => FactsB.facts HF9.out, ?_⟩
      iterate 2
        apply plan5_early
        case hi => rfl
        case h =>
          intro w9 hf
          clear hf
          still_step
          exact wpStill_nil rfl
      refine plan5_nil ?_
      go_wp2_with fail
      go_ret
      exact ⟨rfl, HB9.out⟩
  · have e1 : cm = compM h b := by rw [← HCM.out.1, hok]; rfl
    have e2 : er = 0 := by rw [← HCM.out.2, hok]; rfl
    have hlen : cm.is.length ≤ 1000000000 := by rw [e1]; exact HLE.out hok
    subst e2
    clear hok hx4 HCM HLE e1 HX14
    go_wp2_with fail
    generalize (w4.alloc (.cells #[.string cm.p.1, .int .i64 cm.p.2, .int .i64 cm.vs, .int .i64 cm.slots, .slice ra4 cm.is.length rc4] 38)) = wm at *
    refine (same_self cm wm own2 _ _ _ HCA.out HCB.out hlen).mono ?_
    rintro e wv ⟨rfl, hBv⟩
    have HX1v := Lib.hid (Blk_same HX1.out hBv)
    have HBWv := Lib.hid (HBW.out.trans (hBv.mono HBW.out.size))
    clear hBv HX1 HBW HCA HCB u0 u1 u2 u3 u4 ul
    have HX1 := HX1v
    have HBW := HBWv
    clear HX1v HBWv
    have hx1 := HX1.out
    have y0 : wv.cell? ⟨w.heap.size + 1, 0, none⟩ = some (.int .i64 k) := hx1.cell 0
    have y1 : wv.cell? ⟨w.heap.size + 1, 1, none⟩ = some (.string s) := hx1.cell 1
    have y2 : wv.cell? ⟨w.heap.size + 1, 2, none⟩ = some (.int .i64 x) := hx1.cell 2
    have y3 : wv.cell? ⟨w.heap.size + 1, 3, none⟩ = some (.slice a l c) := hx1.cell 3
    have yl := hx1.lt
    clear hx1
    go_wp2_with fail
    refine (HG.out wv HBW.out).mono ?_
    rintro e w5 ⟨own5, v5, rfl, hcv, hB5⟩
    obtain ⟨rv, rfl, hir⟩ := hcv
    obtain ⟨ra5, rc5, rfl⟩ := hir.shape
    have hal : Below w5.heap.size w5 (w5.alloc (.cells #[.string gm.p.1, .int .i64 gm.p.2, .int .i64 gm.vs, .int .i64 gm.slots, .slice ra5 gm.is.length rc5] 32)) := (Below.refl _ _).alloc (Nat.le_refl _) _
    have hx5 := Blk_same HX1.out hB5
    have HX5 := Lib.hid (Blk_same hx5 hal)
    have hB15 := HBW.out.trans (hB5.mono HBW.out.size)
    have HB5 := Lib.hid (hB15.trans (hal.mono hB15.size))
    have HIR5 := Lib.hid (IRow.still hir hal)
    have HC5 := Lib.hid (Blk.new (own := fun _ => 0) (k := 0) w5 (.cells #[.string gm.p.1, .int .i64 gm.p.2, .int .i64 gm.vs, .int .i64 gm.slots, .slice ra5 gm.is.length rc5] 32) rfl)
    clear y0 y1 y2 y3 yl
    have y0 : w5.cell? ⟨w.heap.size + 1, 0, none⟩ = some (.int .i64 k) := hx5.cell 0
    have y1 : w5.cell? ⟨w.heap.size + 1, 1, none⟩ = some (.string s) := hx5.cell 1
    have y2 : w5.cell? ⟨w.heap.size + 1, 2, none⟩ = some (.int .i64 x) := hx5.cell 2
    have y3 : w5.cell? ⟨w.heap.size + 1, 3, none⟩ = some (.slice a l c) := hx5.cell 3
    have yl := hx5.lt
    clear hx5 hal hB15 hB5 hir HX1 HBW HG
    go_wp2_with fail
    generalize w5.heap.size = b9 at *
    generalize (w5.alloc (.cells #[.string gm.p.1, .int .i64 gm.p.2, .int .i64 gm.vs, .int .i64 gm.slots, .slice ra5 gm.is.length rc5] 32)) = w6 at *
    refine (HRT.out w6 HB5.out).mono ?_
    rintro e w7 ⟨rfl, hB7⟩
    have hx7 := Blk_same HX5.out hB7
    have hc7 := Blk_same HC5.out hB7
    have HB7 := Lib.hid (HB5.out.trans (hB7.mono HB5.out.size))
    have HIR7 := Lib.hid (IRow.still HIR5.out hB7)
    clear y0 y1 y2 y3 yl
    have y0 : w7.cell? ⟨w.heap.size + 1, 0, none⟩ = some (.int .i64 k) := hx7.cell 0
    have y1 : w7.cell? ⟨w.heap.size + 1, 1, none⟩ = some (.string s) := hx7.cell 1
    have y2 : w7.cell? ⟨w.heap.size + 1, 2, none⟩ = some (.int .i64 x) := hx7.cell 2
    have y3 : w7.cell? ⟨w.heap.size + 1, 3, none⟩ = some (.slice a l c) := hx7.cell 3
    have yl := hx7.lt
    have u0 : w7.cell? ⟨b9, 0, none⟩ = some (.string gm.p.1) := hc7.cell 0
    have u1 : w7.cell? ⟨b9, 1, none⟩ = some (.int .i64 gm.p.2) := hc7.cell 1
    have u2 : w7.cell? ⟨b9, 2, none⟩ = some (.int .i64 gm.vs) := hc7.cell 2
    have u3 : w7.cell? ⟨b9, 3, none⟩ = some (.int .i64 gm.slots) := hc7.cell 3
    have u4 : w7.cell? ⟨b9, 4, none⟩ = some (.slice ra5 gm.is.length rc5) := hc7.cell 4
    have ul := hc7.lt
    clear hB7 HX5 HC5 HIR5 HB5 HRT
    rcases HCASE.out with ⟨e1, e2, e3⟩ | ⟨e1, e0, e2, e3⟩ | ⟨e1, e0, e2, e3⟩
    · subst e2
      subst e3
      rw [e1]
      have hz : zeroCd.is.length = 0 := rfl
      rw [hz] at u4
      clear hz e1 hx7 hc7
      go_wp2_with fail
      go_ret
      exact ⟨rfl, HB7.out⟩
    · subst e0
      subst e2
      subst e3
      rw [e1]
      have hz : zeroCd.is.length = 0 := rfl
      rw [hz] at u4
      clear hz e1 hx7 hc7
      go_wp2_with fail
      go_ret
      exact ⟨rfl, HB7.out⟩
    · have hkb : (k == 2) = false := by simp [e0]
      subst e2
      have HGM := Lib.hid e3
      rw [e1]
      have HRG2 := Lib.hid (fun wq hB => HRG.out wq hB e1)
      have hlen : gm.is.length ≤ 1000000000 := by rw [e3]; exact goalC_le g e1
      rw [← e3] at HRG2
      have HF : Hid (FactsB [(⟨b9, 0, none⟩, .string gm.p.1), (⟨b9, 1, none⟩, .int .i64 gm.p.2), (⟨b9, 2, none⟩, .int .i64 gm.vs), (⟨b9, 3, none⟩, .int .i64 gm.slots), (⟨b9, 4, none⟩, .slice ra5 gm.is.length rc5), (⟨w.heap.size + 1, 0, none⟩, .int .i64 k), (⟨w.heap.size + 1, 1, none⟩, .string s), (⟨w.heap.size + 1, 2, none⟩, .int .i64 x), (⟨w.heap.size + 1, 3, none⟩, .slice a l c)] w7.drew) := Lib.hid ⟨⟨u0, ul⟩, ⟨u1, ul⟩, ⟨u2, ul⟩, ⟨u3, ul⟩, ⟨u4, ul⟩, ⟨y0, yl⟩, ⟨y1, yl⟩, ⟨y2, yl⟩, ⟨y3, yl⟩, trivial⟩
      clear e0 e1 e3 HRG hx7 hc7 u0 u1 u2 u3 u4 ul y1 y2 y3
      go_wp2_with fail
      refine wp_region_plan5 [.early 0 [1, 2, 3, 4, 5, 6, 7, 8], .early 1 [2, 3, 4, 5, 6, 7, 8], .early 2 [3, 4, 5, 6, 7, 8], .early 3 [6, 7, 8], .early 4 [5, 6, 7, 8], .big 5, .big 6, .early 7 [8], .early 8 []] 9 (Facts _) (by kernel_rfl) (by kernel_rfl) (fun _ _ _ d _ h => by cases d <;> exact h) (FactsB.facts HF.out) ?_
      have HBD := Lib.hid HB7.out.drew
      have HIRD := Lib.hid (HIR7.out.ext (w' := w7.drew) (M := fun _ => False) (own' := own5) (Ext.refl.drew) fun c h => h.elim)
      clear y0 yl HB7 HIR7
      generalize w7.drew = wd at *
      iterate 5
        apply plan5_early
        case hi => rfl
        case h =>
          intro w9 hf
          simp only [Facts] at hf
          obtain ⟨z0, z1, z2, z3, z4, z5, z6, z7, z8, _⟩ := hf
          still_step
          exact wpStill_nil rfl
      refine plan5_big rfl ?_
      go_wp2_with fail
      refine (HRG2.out wd HBD.out).mono ?_
      rintro e w8 ⟨v8, rfl, hcv8, hB8⟩
      have HF8 := Lib.hid (FactsB.below hB8 HF.out)
      have HB8 := Lib.hid (HBD.out.trans (hB8.mono HBD.out.size))
      have HIR8 := Lib.hid (IRow.still HIRD.out hB8)
      have HCV8 := Lib.hid hcv8
      obtain ⟨rv8, rfl, hrv8⟩ := hcv8
      clear hB8 hrv8 HF HBD HIRD
      go_wp2_with fail
      refine ⟨fun _ => FactsB.facts HF8.out, ?_⟩
      refine plan5_big rfl ?_
      go_wp2_with fail
      refine (same_self gm w8 own5 _ _ _ ⟨_, rfl, HIR8.out⟩ HCV8.out hlen).mono ?_
      rintro e w9 ⟨rfl, hB9⟩
      have HF9 := Lib.hid (FactsB.below hB9 HF8.out)
      have HB9 := Lib.hid (HB8.out.trans (hB9.mono HB8.out.size))
      clear hB9 HF8 HB8 HIR8 HCV8
      go_wp2_with fail
      refine ⟨fun _ => FactsB.facts HF9.out, ?_⟩
      iterate 2
        apply plan5_early
        case hi => rfl
        case h =>
          intro w9 hf
          clear hf
          still_step
          exact wpStill_nil rfl
      refine plan5_nil ?_
      go_wp2_with fail
      go_ret
      exact ⟨rfl, HB9.out⟩
end Go.Proofs.Ytamiidklcadkmaa
