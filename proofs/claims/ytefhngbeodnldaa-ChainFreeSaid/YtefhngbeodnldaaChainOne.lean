/- Layer 5's laws: one step of a thread's operation. Printed by gen_chain.py from chainone.in. -/
import Derived.Test.YtefhngbeodnldaaChainSd
set_option maxRecDepth 20000
set_option linter.unusedVariables false
set_option linter.unusedSimpArgs false
namespace Go.Proofs.Ytefhngbeodnldaa
open Go.RowKit Go.PM
theorem step_col {q t c : Nat} (h : (c = q + 1 ∨ c = q + 2 ∨ OpC (q + 10 + 4 * t) c) ∨ (c = q + 4 ∨ c = q) ∨ c = q + 5) : c = q ∨ c = q + 1 ∨ c = q + 2 ∨ c = q + 4 ∨ c = q + 5 ∨ OpC (q + 10 + 4 * t) c := by
  rcases h with (h | h | h) | (h | h) | h
  · exact .inr (.inl h)
  · exact .inr (.inr (.inl h))
  · exact .inr (.inr (.inr (.inr (.inr h))))
  · exact .inr (.inr (.inr (.inl h)))
  · exact .inl h
  · exact .inr (.inr (.inr (.inr (.inl h))))
section
variable {w : World} {own : Nat → Nat} {q : Nat} {P : LB} {L : LV} {ad : Nat → Nat}
set_option maxHeartbeats 4000000 in
theorem CoOne_any (h : LAt q P L ad w own) {t : Nat} (ht : t < 9) {O : CO} (ho : L.op t = some O) (hk : StepOk L t O (stO L.V L.Y L.B O)) :
    Calls Try.prog 19 #[.pointer (some ⟨P.W, 0, none⟩), .int .i64 t] w (StepPost q P (L.step t O) ad t w own) := by
  obtain ⟨mv, hbx, hmv⟩ := h.box
  obtain ⟨ma, mc, rfl⟩ := hmv.shape
  have x3 : w.cell? ⟨P.W, 3, none⟩ = some (.slice (some ⟨P.po, 0, none⟩) 9 9) := hbx.cell 3
  have xl := hbx.lt
  have p1 := h.opc ht
  rw [ho] at p1
  have pl := h.ops.lt
  have HO := Lib.hid (h.op t O ht ho)
  have HL := Lib.hid h
  have HK := Lib.hid hk
  clear hbx hmv h hk
  have t1 : (0 : Int) ≤ (t : Int) := by omega
  have t2 : (t : Int) < 9 := by omega
  go_enter Try.func19, Try.ntmps19
  generalize hdn : O.done = dn at *
  have HDN := Lib.hid hdn
  clear hdn
  go_wp2_with fail
  refine (CoDone_any HO.out).mono ?_
  rintro e w1 ⟨rfl, hw1⟩
  have hw1 := hw1.symm
  subst hw1
  rw [HDN.out]
  go_wp2_with fail
  refine (CoStep_any (CPost.refl HL.out.arena HL.out.yard.choose_spec.choose_spec HL.out.base HO.out) (by omega) HK.out.ok).mono ?_
  rintro e w1 ⟨rfl, hc⟩
  obtain ⟨own1, hL1, hE1⟩ := HL.out.stepped ht ho hc
  have HRUN := Lib.hid (show LAt q P (L.run t O) ad w1 own1 from hL1)
  have HE1 := Lib.hid hE1
  have HO1 := Lib.hid (hL1.op t _ ht (upd_same _ _ _))
  clear hc hL1 hE1 x3 xl p1 pl HO HL
  generalize hO' : stO L.V L.Y L.B O = O' at *
  have HW := Lib.hid HK.out.was
  rw [HDN.out] at HW
  generalize hdn' : O'.done = dn' at *
  have HDN' := Lib.hid hdn'
  have HO' := Lib.hid hO'
  clear hdn' hO'
  have HDC := Lib.hid (show Calls Try.prog 33 #[.pointer (some ⟨ad t, 0, none⟩)] w1 fun e w' => e = .returned (.bool dn') ∧ w' = w1 by rw [← HDN'.out]; exact CoDone_any HO1.out)
  go_upto_region 4 with fail
  go_cut [32] (fun s wx => s = .bool false ∧ wx = w1)
  case first =>
    have hov : ((O'.next == 11) != (O'.next == 11)) = false := by simp
    cases dn
    · go_wp2_with fail
      refine (CoOver_any HO1.out).mono ?_
      rintro e w2 ⟨rfl, hw2⟩
      have hw2 := hw2.symm
      subst hw2
      go_wp2_with fail
      go_meet
      exact ⟨rfl, rfl⟩
    · obtain rfl : dn' = true := HW.out rfl
      go_wp2_with fail
      refine (CoOver_any HO1.out).mono ?_
      rintro e w2 ⟨rfl, hw2⟩
      have hw2 := hw2.symm
      subst hw2
      go_wp2_with fail
      refine HDC.out.mono ?_
      rintro e w2 ⟨rfl, hw2⟩
      have hw2 := hw2.symm
      subst hw2
      go_wp2_with fail
      go_meet
      exact ⟨rfl, rfl⟩
  case rest =>
    obtain ⟨rfl, hwc⟩ := hcut
    have hwc := hwc.symm
    subst hwc
    clear HW
    go_upto_region 6 with fail
    go_cut [38] (fun s wx => s = .bool (!dn && dn') ∧ wx = w1)
    case first =>
      cases dn
      · go_wp2_with fail
        refine HDC.out.mono ?_
        rintro e w2 ⟨rfl, hw2⟩
        have hw2 := hw2.symm
        subst hw2
        go_wp2_with fail
        go_meet
        exact ⟨by simp, rfl⟩
      · go_wp2_with fail
        go_meet
        exact ⟨by simp, rfl⟩
    case rest =>
      obtain ⟨rfl, hwc⟩ := hcut
      have hwc := hwc.symm
      subst hwc
      clear HDC
      go_upto_if 38 with fail
      go_cut [] (fun wx => MidPost q P (L.mid t O) ad t w own wx)
      case first =>
        have HM1 := Lib.hid (fun (hd : dn = false ∧ dn' = true) => show L.mid t O = (L.run t O).eff t by unfold LV.mid; rw [HO'.out, HDN.out, HDN'.out, if_pos hd])
        have HM2 := Lib.hid (fun (hd : ¬ (dn = false ∧ dn' = true)) => show L.mid t O = L.run t O by unfold LV.mid; rw [HO'.out, HDN.out, HDN'.out, if_neg hd])
        have hdb : (!dn && dn') = true ∨ (!dn && dn') = false := by cases dn <;> cases dn' <;> simp
        generalize hb : (!dn && dn') = bb at *
        rcases hdb with rfl | rfl
        · have HM := Lib.hid (HM1.out (by revert hb; cases dn <;> cases dn' <;> simp))
          clear HM1 HM2 hb
          have HX1 := Lib.hid (show Ext (fun _ => False) w1 w1.drew own1 own1 from Ext.refl.drew)
          have HLD := Lib.hid (HRUN.out.ext HX1.out (fun c h => h.elim))
          go_upto_region 7 with fail
          refine wp_region_plan5 [.early 0 [1, 2, 3, 14, 15], .early 1 [2, 3, 14, 15], .early 2 [3, 14, 15], .early 3 [14, 15], .early 4 [14, 15], .early 5 [13, 14, 15], .early 6 [7, 8, 9, 11, 12, 13, 14, 15], .early 7 [8, 9, 11, 12, 13, 14, 15], .early 8 [9, 11, 12, 13, 14, 15], .early 9 [11, 12, 13, 14, 15], .early 10 [11, 12, 13, 14, 15], .early 11 [12, 13, 14, 15], .early 12 [13, 14, 15], .big 13, .early 14 [15], .big 15] 15 (StCells P L t) (by kernel_rfl) (by kernel_rfl) (fun _ _ _ d _ h => by cases d <;> exact h) ((HLD.out.look ht)) ?_
          generalize w1.drew = wd at *
          iterate 13
            apply plan5_early
            case hi => rfl
            case h =>
              intro w9 hf
              obtain ⟨x3, x4, x5, x7, xl, y0, y1, y2, y3, yl, z0, zl1, zl2, zl3⟩ := hf
              still_step
              exact wpStill_nil rfl
          refine plan5_big rfl ?_
          go_wp2_with fail
          refine (CoEffect_any HLD.out (L.what t) HK.out.mb).mono ?_
          rintro e w2 ⟨a2, l2, c2, own2, rfl, hv2, hL2, hE2⟩
          have HL2 := Lib.hid hL2
          have HV2 := Lib.hid hv2
          have HE2 := Lib.hid hE2
          clear hv2 hL2 hE2
          go_wp2_with fail
          refine ⟨fun _ => HL2.out.look ht, ?_⟩
          iterate 1
            apply plan5_early
            case hi => rfl
            case h =>
              intro w9 hf
              obtain ⟨x3, x4, x5, x7, xl, y0, y1, y2, y3, yl, z0, zl1, zl2, zl3⟩ := hf
              still_step
              exact wpStill_nil rfl
          refine plan5_big rfl ?_
          obtain ⟨vs, hn, hnv⟩ := HL2.out.want
          have f0 := hn.free (t * 4)
          have f1 := hn.free (t * 4 + 1)
          have f2 := hn.free (t * 4 + 2)
          have f3 := hn.free (t * 4 + 3)
          obtain ⟨g0, g1, g2, g3⟩ := wants_get (L.run t O).want vs ht
          rw [Nat.mul_comm] at g0 g1 g2 g3
          have c0 := (hn.cell (t * 4)).trans g0
          have c1 := (hn.cell (t * 4 + 1)).trans g1
          have c2' := (hn.cell (t * 4 + 2)).trans g2
          have c3 := (hn.cell (t * 4 + 3)).trans g3
          have hnl := hn.lt
          clear hn hnv g0 g1 g2 g3
          go_wp2_with fail
          refine ⟨fun h => absurd rfl h, ?_⟩
          refine plan5_nil ?_
          clear c0 c1 c2' c3 f0 f1 f2 f3 hnl
          have hpw := HL2.out.putWant (effA (L.run t O).m (L.what t)) HV2.out ht
          rw [Nat.mul_comm 4 t] at hpw
          have HPW : Hid (LAt q P { (L.run t O) with m := effM (L.run t O).m (L.what t), want := upd (L.run t O).want t (effA (L.run t O).m (L.what t)) } ad ((((w2.setCell ⟨P.pn, t * 4, none⟩ (.int .i64 (effA (L.run t O).m (L.what t)).err)).setCell ⟨P.pn, t * 4 + 1, none⟩ (.bool (effA (L.run t O).m (L.what t)).ok)).setCell ⟨P.pn, t * 4 + 2, none⟩ (.int .i64 (effA (L.run t O).m (L.what t)).stamp)).setCell ⟨P.pn, t * 4 + 3, none⟩ (.slice a2 l2 c2)) own2 ∧
            Ext (fun c => c = q + 5) w2 ((((w2.setCell ⟨P.pn, t * 4, none⟩ (.int .i64 (effA (L.run t O).m (L.what t)).err)).setCell ⟨P.pn, t * 4 + 1, none⟩ (.bool (effA (L.run t O).m (L.what t)).ok)).setCell ⟨P.pn, t * 4 + 2, none⟩ (.int .i64 (effA (L.run t O).m (L.what t)).stamp)).setCell ⟨P.pn, t * 4 + 3, none⟩ (.slice a2 l2 c2)) own2 own2) := Lib.hid hpw
          clear hpw
          go_upto_region 8 with fail
          generalize ((((w2.setCell ⟨P.pn, t * 4, none⟩ (.int .i64 (effA (L.run t O).m (L.what t)).err)).setCell ⟨P.pn, t * 4 + 1, none⟩ (.bool (effA (L.run t O).m (L.what t)).ok)).setCell ⟨P.pn, t * 4 + 2, none⟩ (.int .i64 (effA (L.run t O).m (L.what t)).stamp)).setCell ⟨P.pn, t * 4 + 3, none⟩ (.slice a2 l2 c2)) = w3 at *
          obtain ⟨x3, x4, x5, x7, xl, y0, y1, y2, y3, yl, z0, zl1, zl2, zl3⟩ := HPW.out.1.look ht
          have fd := HPW.out.1.did.free t
          have HPD := Lib.hid (HPW.out.1.putDid true ht)
          go_wp2_with fail
          go_meet
          refine ⟨own2, by rw [HM.out]; exact HPD.out.1, ?_⟩
          exact (HE1.out.mono (fun c h => step_col (.inl h))).trans ((HX1.out.mono (fun c h => h.elim)).trans ((HE2.out.mono (fun c h => step_col (.inr (.inl h)))).trans ((HPW.out.2.mono (fun c h => step_col (.inr (.inr h)))).trans (HPD.out.2.mono (fun c h => step_col (.inr (.inr h)))))))
        · have HM := Lib.hid (HM2.out (by revert hb; cases dn <;> cases dn' <;> simp))
          clear HM1 HM2 hb
          go_wp2_with fail
          go_meet
          exact ⟨own1, by rw [HM.out]; exact HRUN.out, HE1.out.mono (fun c h => step_col (.inl h))⟩
      case rest =>
        obtain ⟨own2, hL2, hE2⟩ := hcut
        have HL2 := Lib.hid hL2
        have HE2 := Lib.hid hE2
        have HO2 := Lib.hid (hL2.op t O' ht (by show (L.mid t O).op t = some O'; unfold LV.mid LV.eff LV.run; rw [HO'.out]; split <;> exact upd_same _ _ _))
        clear hL2 hE2 HRUN HE1 HO1
        by_cases h11 : O'.next = 11
        · have hb11 : (O'.next == 11) = true := by simp [h11]
          have HST := Lib.hid (show L.step t O = { L.mid t O with op := upd L.op t none } by unfold LV.step; rw [HO'.out, if_pos h11])
          have HAN := Lib.hid (show O'.answer = ⟨O'.err, O'.ok, O'.stamp, O'.values⟩ from if_pos h11)
          have HDD := Lib.hid (HK.out.did h11)
          have HNN := Lib.hid (HK.out.not h11)
          rw [hb11]
          clear h11 hb11
          go_wp2_with fail
          refine (CoAnswer_any HO2.out HK.out.vl).mono ?_
          rintro e w3 ⟨v, rfl, hA, hB⟩
          have hA' := hA
          rw [HAN.out] at hA'
          obtain ⟨aa, ca, hva⟩ := hA'.shape
          subst hva
          have HA := Lib.hid hA
          have HX3 := Lib.hid (((ext_same (M := fun _ => False) own2 hB).ow q).alloc (.cells #[.int .i64 O'.err, .bool O'.ok, .int .i64 O'.stamp, .slice aa O'.values.length ca] 41))
          have HBX := Lib.hid (Blk.new (own := PM.ow own2 w3.heap.size q) (k := q) w3 (.cells #[.int .i64 O'.err, .bool O'.ok, .int .i64 O'.stamp, .slice aa O'.values.length ca] 41) (ow_ge (Nat.le_refl _)))
          have HA4 := Lib.hid (hA.below ((Below.refl w3.heap.size w3).alloc (Nat.le_refl _) (.cells #[.int .i64 O'.err, .bool O'.ok, .int .i64 O'.stamp, .slice aa O'.values.length ca] 41)))
          have HPO : Hid (P.po < w3.heap.size) := Lib.hid (Nat.lt_of_lt_of_le HL2.out.ops.lt hB.size)
          have HL4 := Lib.hid (HL2.out.ext HX3.out (fun c h => h.elim))
          clear hA hA' hB HA
          go_upto_region 12 with fail
          generalize hn3 : w3.heap.size = n3 at *
          generalize w3.alloc (.cells #[.int .i64 O'.err, .bool O'.ok, .int .i64 O'.stamp, .slice aa O'.values.length ca] 41) = w4 at *
          clear hn3
          obtain ⟨x3, x4, x5, x7, xl, y0, y1, y2, y3, yl, z0, zl1, zl2, zl3⟩ := HL4.out.look ht
          have p0 := HL4.out.opc ht
          have fpo := HL4.out.ops.free t
          have HPN := Lib.hid (HL4.out.putNone ht)
          have HA5 := Lib.hid (HA4.out.po HL4.out.ops t (.pointer none))
          have HB5 := Lib.hid (HBX.out.setCell_other (a := ⟨P.po, t, none⟩) (by have := HPO.out; show n3 ≠ P.po; omega) (.pointer none))
          clear HA4 HBX
          go_upto_region 13 with fail
          clear x3 x4 x5 x7 xl y0 y1 y2 y3 yl z0 zl1 zl2 zl3 p0 fpo
          generalize w4.setCell ⟨P.po, t, none⟩ (.pointer none) = w5 at *
          obtain ⟨x3, x4, x5, x7, xl, y0, y1, y2, y3, yl, z0, zl1, zl2, zl3⟩ := HPN.out.1.look ht
          have HEND := Lib.hid (show ∀ w6, Below w5.heap.size w5 w6 → StepPost q P (L.step t O) ad t w own (.returned (.bool true)) w6 from fun w6 hB6 => ⟨rfl, _, by
            rw [HST.out]
            have h6 := HPN.out.1.ext (ext_same (M := fun _ => False) (PM.ow own2 n3 q) hB6) (fun c h => h.elim)
            rw [LV.mid_op, updN_updN] at h6
            exact h6, (HE2.out.trans (HX3.out.mono (fun c h => h.elim))).trans ((HPN.out.2.mono (fun c h => step_col (.inr (.inr h)))).trans (ext_same _ hB6))⟩)
          have b0 : w5.cell? ⟨n3, 0, none⟩ = some (.int .i64 O'.err) := HB5.out.cell 0
          have b1 : w5.cell? ⟨n3, 1, none⟩ = some (.bool O'.ok) := HB5.out.cell 1
          have b2 : w5.cell? ⟨n3, 2, none⟩ = some (.int .i64 O'.stamp) := HB5.out.cell 2
          have b3 : w5.cell? ⟨n3, 3, none⟩ = some (.slice aa O'.values.length ca) := HB5.out.cell 3
          have bl := HB5.out.lt
          have hdd2 : (L.mid t O).did t = true ∨ (L.mid t O).did t = false := by cases (L.mid t O).did t <;> simp
          generalize hdd : (L.mid t O).did t = dd at *
          have HDM := Lib.hid hdd
          clear hdd
          rcases hdd2 with rfl | rfl
          · have hsame := HDD.out rfl
            rw [hsame] at HA5
            obtain ⟨aw, cw, w0, w1', w2', w3', hwa⟩ := HPN.out.1.wantAt ht
            have HWA := Lib.hid (show AnsAt w5 _ ((L.mid t O).want t) from hwa)
            have HOV := Lib.hid (show OvI P n3 t ⟨O'.err, O'.ok, O'.stamp, O'.values⟩ ((L.mid t O).want t) aa aw ca cw w5 from ⟨b0, b1, b2, b3, x7, w0, w1', w2', w3', bl, xl, zl3⟩)
            clear hsame hwa HL4 HPN HDD HNN HX3 HL2 HE2 HO2 HST HAN HB5 w0 w1' w2' w3'
            go_upto_region 14 with fail
            have HOD : Hid (OvI P n3 t ⟨O'.err, O'.ok, O'.stamp, O'.values⟩ ((L.mid t O).want t) aa aw ca cw w5.drew) := HOV
            have HAD := Lib.hid (show AnsAt w5.drew _ _ from HA5.out.below (Below.refl _ _).drew)
            have HWD := Lib.hid (show AnsAt w5.drew _ _ from HWA.out.below (Below.refl _ _).drew)
            have HBD := Lib.hid ((Below.refl w5.heap.size w5).drew)
            clear HOV HA5 HWA
            refine wp_region_plan5 [.early 0 [8, 9], .early 1 [2, 3, 4, 6, 7, 8, 9], .early 2 [3, 4, 6, 7, 8, 9], .early 3 [4, 6, 7, 8, 9], .early 4 [6, 7, 8, 9], .early 5 [6, 7, 8, 9], .early 6 [7, 8, 9], .early 7 [8, 9], .big 8, .early 9 []] 10 (OvI P n3 t ⟨O'.err, O'.ok, O'.stamp, O'.values⟩ ((L.mid t O).want t) aa aw ca cw) (by kernel_rfl) (by kernel_rfl) (fun _ _ _ d _ h => by cases d <;> exact h) (HOD.out) ?_
            clear b0 b1 b2 b3 x3 x4 x5 x7 y0 y1 y2 y3 z0
            generalize w5.drew = wd at *
            iterate 8
              apply plan5_early
              case hi => rfl
              case h =>
                intro w9 hf
                obtain ⟨b0, b1, b2, b3, x7, c0, c1, c2, c3, l1, l2, l3⟩ := hf
                still_step
                exact wpStill_nil rfl
            refine plan5_big rfl ?_
            go_wp2_with fail
            refine (CoAlike_any HAD.out HWD.out).mono ?_
            rintro e w9 ⟨rfl, hB9⟩
            have HB9 := Lib.hid hB9
            have HF := Lib.hid (HEND.out w9 (HBD.out.trans (hB9.mono HBD.out.size)))
            clear hB9
            go_wp2_with fail
            refine ⟨fun _ => HOD.out.below HB9.out, ?_⟩
            iterate 1
              apply plan5_early
              case hi => rfl
              case h =>
                intro w9 hf
                clear hf
                still_step
                exact wpStill_nil rfl
            refine plan5_nil ?_
            go_wp2_with fail
            go_ret
            exact HF.out
          · obtain ⟨n1, n2, n3', n4⟩ := HNN.out rfl
            have hmm := LV.mid_did HDM.out
            rw [n1] at b1
            rw [n2] at b2
            rw [n3', List.length_nil] at b3
            obtain ⟨mv, hbx, hmv⟩ := HPN.out.1.box
            obtain ⟨ma2, mc2, rfl⟩ := hmv.shape
            have x6 : w5.cell? ⟨P.W, 6, none⟩ = some (.slice ma2 L.m.length mc2) := by rw [← hmm]; exact hbx.cell 6
            have HF0 := Lib.hid (HEND.out w5 (Below.refl _ _))
            have HCH : Hid (w5.cell? ⟨P.pw, t * 4 + 2, none⟩ = some (.int .i64 (L.what t).chain)) := Lib.hid (by have := y2; rw [show ({ L.mid t O with op := upd (L.mid t O).op t none } : LV).what = L.what from LV.mid_what L t O] at this; exact this)
            have HKD : Hid (w5.cell? ⟨P.pw, t * 4, none⟩ = some (.int .i64 (L.what t).kind)) := Lib.hid (by have := y0; rw [show ({ L.mid t O with op := upd (L.mid t O).op t none } : LV).what = L.what from LV.mid_what L t O] at this; exact this)
            have HX4 := Lib.hid x4
            have HX6 := Lib.hid x6
            have HB0 := Lib.hid b0
            clear hbx hmv hmm HL4 HPN HDD HNN HX3 HL2 HE2 HO2 HST HAN HB5 n1 n2 n3' x6 x3 x7 y1 y2 y3 y0 HEND HA5
            go_upto_region 17 with fail
            clear z0 b1 b2 b3
            have y2 := HCH.out
            have y0 := HKD.out
            have x6 := HX6.out
            rcases n4 with ⟨he, hc⟩ | ⟨he, hk⟩ | ⟨he, hk⟩
            · rw [he] at b0
              by_cases hc1 : (L.what t).chain < 1
              · go_wp2_with fail
                go_ret
                exact HF0.out
              · have hc2 : (L.m.length : Int) < (L.what t).chain := by omega
                go_wp2_with fail
                go_ret
                exact HF0.out
            · rw [he] at b0
              go_wp2_with fail
              go_ret
              exact HF0.out
            · rcases he with he | he
              · rw [he] at b0
                go_wp2_with fail
                go_ret
                exact HF0.out
              · rw [he] at b0
                go_wp2_with fail
                go_ret
                exact HF0.out
        · have hb11 : (O'.next == 11) = false := by simp [h11]
          have HST := Lib.hid (show L.step t O = L.mid t O by unfold LV.step; rw [HO'.out, if_neg h11])
          have HAN := Lib.hid (show O'.answer = ⟨0, false, 0, []⟩ from if_neg h11)
          rw [hb11]
          clear h11 hb11
          go_wp2_with fail
          refine (CoAnswer_any HO2.out HK.out.vl).mono ?_
          rintro e w3 ⟨v, rfl, hA, hB⟩
          rw [HAN.out] at hA
          have HA := Lib.hid hA
          have HB := Lib.hid hB
          clear hA hB
          go_wp2_with fail
          refine (CoAlike_any HA.out (AnsAt.zero _)).mono ?_
          rintro e w4 ⟨rfl, hB4⟩
          have HB4 := Lib.hid (HB.out.trans (hB4.mono HB.out.size))
          clear hB4
          go_wp2_with fail
          go_ret
          exact ⟨rfl, own2, by rw [HST.out]; exact HL2.out.ext (ext_same (M := fun _ => False) own2 HB4.out) (fun c h => h.elim), HE2.out.trans (ext_same own2 HB4.out)⟩
end
end Go.Proofs.Ytefhngbeodnldaa
