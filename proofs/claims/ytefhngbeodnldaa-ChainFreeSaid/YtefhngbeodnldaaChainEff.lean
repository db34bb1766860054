/- Layer 5's laws: what takes effect, on plain lists. Printed by gen_chain.py from chaineff.in. -/
import Derived.Test.YtefhngbeodnldaaChainLaw
set_option maxRecDepth 20000
set_option linter.unusedVariables false
set_option linter.unusedSimpArgs false
namespace Go.Proofs.Ytefhngbeodnldaa
open Go.RowKit Go.PM
def mAt (m : RB) (o : AskV) : List Int × Int := m.getD (o.chain - 1).toNat ([], 0)
def inM (m : RB) (o : AskV) : Prop := 1 ≤ o.chain ∧ o.chain ≤ (m.length : Nat)
instance (m : RB) (o : AskV) : Decidable (inM m o) := inferInstanceAs (Decidable (_ ∧ _))
def effM (m : RB) (o : AskV) : RB :=
  if inM m o then (if o.kind = 1 ∨ o.kind = 2 then m.set (o.chain - 1).toNat (addL (mAt m o).1 o.v (decide (o.kind = 2)), (mAt m o).2 + 1) else if o.kind = 3 then (if (mAt m o).1.contains o.v = true then m.set (o.chain - 1).toNat ((mAt m o).1.erase o.v, (mAt m o).2 + 1) else m) else m) else m
def effA (m : RB) (o : AskV) : AnsV :=
  if inM m o then (if o.kind = 1 ∨ o.kind = 2 then ⟨0, true, (mAt m o).2 + 1, []⟩ else if o.kind = 3 then ⟨0, (mAt m o).1.contains o.v, if (mAt m o).1.contains o.v = true then (mAt m o).2 + 1 else (mAt m o).2, []⟩ else ⟨0, true, (mAt m o).2, (mAt m o).1⟩) else ⟨1, false, 0, []⟩
def EfPost (q : Nat) (P : LB) (L : LV) (ad : Nat → Nat) (w : World) (own : Nat → Nat) (m : RB) (A : AnsV) (e : Ending) (w' : World) : Prop :=
  ∃ a l c own', e = .returned (.agg #[.int .i64 A.err, .bool A.ok, .int .i64 A.stamp, .slice a l c]) ∧ VwC w' (fun g => own' g = q + 6) (.slice a l c) A.values ∧ LAt q P { L with m := m } ad w' own' ∧ Ext (fun c => c = q + 4 ∨ c = q) w w' own own'
section
variable {w : World} {own : Nat → Nat} {q : Nat} {P : LB} {L : LV} {ad : Nat → Nat}
/-- The plain lists are put. -/
theorem LAt.setM {w2 : World} {v' : Value} {m' : RB} (h : LAt q P L ad w own) (hB : Below w.heap.size w w2) (hR : RBAt w2 (fun g => own g = q + 6 ∨ w.heap.size ≤ g) v' m') :
    LAt q P { L with m := m' } ad (w2.setCell ⟨P.W, 6, none⟩ v') (PM.ow own w.heap.size (q + 6)) ∧ Ext (fun c => c = q + 4) w (w2.setCell ⟨P.W, 6, none⟩ v') own (PM.ow own w.heap.size (q + 6)) := by
  have hE : Ext (fun _ => False) w w2 own (PM.ow own w.heap.size (q + 6)) := Ext.of_below hB own (q + 6)
  obtain ⟨h1, ⟨ev, lw, h2⟩, h3, ⟨mv, h4, h5⟩, h6, h7, h8, ⟨vs, h9, h10⟩, h11⟩ := h.ext hE (fun c hc => hc.elim)
  have hS : Ext (fun c => c = q + 4) w2 (w2.setCell ⟨P.W, 6, none⟩ v') (PM.ow own w.heap.size (q + 6)) (PM.ow own w.heap.size (q + 6)) := (Ext.refl (M := fun c => c = q + 4)).setCell (a := ⟨P.W, 6, none⟩) (fun _ => h4.col) v'
  have hc : ∀ g, g < w2.heap.size → (PM.ow own w.heap.size (q + 6)) g = q + 6 → (w2.setCell ⟨P.W, 6, none⟩ v').heap[g]? = w2.heap[g]? ∧ (PM.ow own w.heap.size (q + 6)) g = q + 6 := fun g hg ho => ⟨hS.same g hg (by rw [ho]; omega), ho⟩
  have hb := Blk.setCell h4 6 v'
  refine ⟨⟨h1.ext hS (by omega), ⟨ev, lw, h2.ext hS (by omega)⟩, h3.ext hS (by omega), ⟨v', hb, ?_⟩, h6.ext hS (by omega), h7.ext hS (by omega), h8.ext hS (by omega), ⟨vs, h9.ext hS (by omega), fun t ht => (h10 t ht).carry hS.size hc⟩, fun t O ht ho => (h11 t O ht ho).ext hS (by omega)⟩, (hE.mono (fun _ h => h.elim)).trans hS⟩
  refine hR.carry hS.size fun g hg ho => ?_
  have hcol : (PM.ow own w.heap.size (q + 6)) g = q + 6 := by
    rcases ho with ho | ho
    · by_cases hgs : g < w.heap.size
      · rw [ow_lt hgs]; exact ho
      · exact ow_ge (by omega)
    · exact ow_ge ho
  exact hc g hg hcol
/-- The answer is laid into its box. -/
theorem eff_end {w1 : World} {own1 : Nat → Nat} {p : Nat} {m : RB} {A : AnsV} {a : Option Addr} {l c : Nat} {x0 x1 x2 x3 : Value} (hL : LAt q P { L with m := m } ad w1 own1) (hE : Ext (fun c => c = q + 4 ∨ c = q) w w1 own own1) (hb : Blk w1 own1 q p (.cells #[x0, x1, x2, x3] 41 (0, 0))) (hv : VwC w1 (fun g => own1 g = q + 6) (.slice a l c) A.values) :
    ((((w1.setCell ⟨p, 0, none⟩ (.int .i64 A.err)).setCell ⟨p, 1, none⟩ (.bool A.ok)).setCell ⟨p, 2, none⟩ (.int .i64 A.stamp)).setCell ⟨p, 3, none⟩ (.slice a l c)).heap[p]? = some (.cells #[.int .i64 A.err, .bool A.ok, .int .i64 A.stamp, .slice a l c] 41 (0, 0)) ∧
      EfPost q P L ad w own m A (.returned (.agg #[.int .i64 A.err, .bool A.ok, .int .i64 A.stamp, .slice a l c])) ((((w1.setCell ⟨p, 0, none⟩ (.int .i64 A.err)).setCell ⟨p, 1, none⟩ (.bool A.ok)).setCell ⟨p, 2, none⟩ (.int .i64 A.stamp)).setCell ⟨p, 3, none⟩ (.slice a l c)) := by
  have hX : Ext (fun c => c = q) w1 ((((w1.setCell ⟨p, 0, none⟩ (.int .i64 A.err)).setCell ⟨p, 1, none⟩ (.bool A.ok)).setCell ⟨p, 2, none⟩ (.int .i64 A.stamp)).setCell ⟨p, 3, none⟩ (.slice a l c)) own1 own1 :=
    ((((Ext.refl (M := fun c => c = q)).setCell (a := ⟨p, 0, none⟩) (fun _ => hb.col) _).setCell (a := ⟨p, 1, none⟩) (fun _ => hb.col) _).setCell (a := ⟨p, 2, none⟩) (fun _ => hb.col) _).setCell (a := ⟨p, 3, none⟩) (fun _ => hb.col) _
  have h4 := (((hb.setCell 0 (.int .i64 A.err)).setCell 1 (.bool A.ok)).setCell 2 (.int .i64 A.stamp)).setCell 3 (.slice a l c)
  exact ⟨h4.at_, a, l, c, own1, rfl, hv.carry hX.size (fun g hg ho => ⟨hX.same g hg (by rw [ho]; omega), ho⟩), hL.ext hX (fun c hc => .inl hc), hE.trans (hX.mono (fun c hc => .inr hc))⟩
theorem cutR_len (R : RB) (m : Nat) (hm : m < R.length) (x : Int) : (cutR R m hm x).length = R.length := by
  unfold cutR
  split
  · rw [List.length_set]
  · rfl
theorem cutR_at (R : RB) (m : Nat) (hm : m < R.length) (x : Int) : ((cutR R m hm x)[m]'(by rw [cutR_len]; exact hm)).2 = if R[m].1.contains x = true then R[m].2 + 1 else R[m].2 := by
  by_cases h : R[m].1.contains x = true
  · have e : cutR R m hm x = R.set m (R[m].1.erase x, R[m].2 + 1) := if_pos h
    simp only [e, List.getElem_set_self, if_pos h]
  · have e : cutR R m hm x = R := if_neg h
    simp only [e, if_neg h]
set_option maxHeartbeats 4000000 in
theorem CoEffect_any (h : LAt q P L ad w own) (o : AskV) (hm : ∀ p ∈ L.m, p.1.length ≤ 900 ∧ 0 ≤ p.2 ∧ p.2 ≤ 1000000000000000) :
    Calls Try.prog 34 #[.pointer (some ⟨P.W, 0, none⟩), .agg #[.int .i64 o.kind, .int .i64 o.t, .int .i64 o.chain, .int .i64 o.v]] w (EfPost q P L ad w own (effM L.m o) (effA L.m o)) := by
  have hE1 : Ext (fun _ => False) w ((w.alloc (.cells #[.int .i64 o.kind, .int .i64 o.t, .int .i64 o.chain, .int .i64 o.v] 57)).alloc (.cells #[.int .i64 0, .bool false, .int .i64 0, .slice none 0 0] 41)) own (PM.ow own w.heap.size q) := ((Ext.refl.ow q).alloc _).alloc _
  have hs1 := World.size_alloc w (.cells #[.int .i64 o.kind, .int .i64 o.t, .int .i64 o.chain, .int .i64 o.v] 57)
  have hb3 := (Blk.new (own := PM.ow own w.heap.size q) (k := q) w (.cells #[.int .i64 o.kind, .int .i64 o.t, .int .i64 o.chain, .int .i64 o.v] 57) (ow_ge (Nat.le_refl _))).alloc (.cells #[.int .i64 0, .bool false, .int .i64 0, .slice none 0 0] 41)
  have hb4 := Blk.new (own := PM.ow own w.heap.size q) (k := q) (w.alloc (.cells #[.int .i64 o.kind, .int .i64 o.t, .int .i64 o.chain, .int .i64 o.v] 57)) (.cells #[.int .i64 0, .bool false, .int .i64 0, .slice none 0 0] 41) (ow_ge (by omega))
  rw [hs1] at hb4
  have HL1 := Lib.hid (h.ext hE1 (fun c hc => hc.elim))
  have HE1 := Lib.hid hE1
  have HB3 := Lib.hid hb3
  have HB4 := Lib.hid hb4
  clear h hE1 hs1 hb3 hb4
  go_enter Try.func34, Try.ntmps34
  go_upto_region 1 with fail
  generalize ((w.alloc (.cells #[.int .i64 o.kind, .int .i64 o.t, .int .i64 o.chain, .int .i64 o.v] 57)).alloc (.cells #[.int .i64 0, .bool false, .int .i64 0, .slice none 0 0] 41)) = w1 at *
  obtain ⟨mv, hbx, hmv⟩ := HL1.out.box
  obtain ⟨ma, mc, rfl⟩ := hmv.shape
  have x6 : w1.cell? ⟨P.W, 6, none⟩ = some (.slice ma L.m.length mc) := hbx.cell 6
  have xl := hbx.lt
  have y0 : w1.cell? ⟨w.heap.size, 0, none⟩ = some (.int .i64 o.kind) := HB3.out.cell 0
  have y2 : w1.cell? ⟨w.heap.size, 2, none⟩ = some (.int .i64 o.chain) := HB3.out.cell 2
  have y3 : w1.cell? ⟨w.heap.size, 3, none⟩ = some (.int .i64 o.v) := HB3.out.cell 3
  have yl := HB3.out.lt
  have z0 : w1.cell? ⟨w.heap.size + 1, 0, none⟩ = some (.int .i64 0) := HB4.out.cell 0
  have z1 : w1.cell? ⟨w.heap.size + 1, 1, none⟩ = some (.bool false) := HB4.out.cell 1
  have z2 : w1.cell? ⟨w.heap.size + 1, 2, none⟩ = some (.int .i64 0) := HB4.out.cell 2
  have z3 : w1.cell? ⟨w.heap.size + 1, 3, none⟩ = some (.slice none 0 0) := HB4.out.cell 3
  have f0 := HB4.out.free 0
  have f1 := HB4.out.free 1
  have f2 := HB4.out.free 2
  have f3 := HB4.out.free 3
  have zl := HB4.out.lt
  have hml : L.m.length ≤ 100 := hmv.1
  clear hbx hmv
  by_cases hin : inM L.m o
  · have hc1 : 1 ≤ o.chain := hin.1
    have hc2 : o.chain ≤ (L.m.length : Nat) := hin.2
    obtain ⟨j, hj0⟩ := Int.eq_ofNat_of_zero_le (show 0 ≤ o.chain - 1 by omega)
    have hj : j < L.m.length := by omega
    have hcj : o.chain = (j : Int) + 1 := by omega
    have hm1 : mAt L.m o = L.m[j] := by unfold mAt; rw [hj0]; simp [hj]
    have hjn : (o.chain - 1).toNat = j := by rw [hj0]; rfl
    obtain ⟨hlen, hst⟩ := hm L.m[j] (List.getElem_mem hj)
    have hj2 : (j : Int) < (L.m.length : Int) := by omega
    have hj4 : (0 : Int) ≤ (j : Int) := by omega
    have hjw : IntKind.i64.wrap (j : Int) = (j : Int) := by rw [IntKind.wrap_i64]; omega
    have HB3b := HB3
    have HCJ := Lib.hid hcj
    clear HB3 hcj
    by_cases k1 : o.kind = 1
    · have HA := Lib.hid (show effA L.m o = ⟨0, true, L.m[j].2 + 1, []⟩ by unfold effA; rw [if_pos hin, if_pos (.inl k1), hm1])
      have HM := Lib.hid (show effM L.m o = L.m.set j (addL L.m[j].1 o.v false, L.m[j].2 + 1) by unfold effM; rw [if_pos hin, if_pos (.inl k1), hm1, hjn, decide_eq_false (by omega)])
      rw [k1] at y0
      clear hin hm1 hjn hm
      go_wp2_with fail
      go_quiet (fail)
      have hXd : Ext (fun _ => False) w1 (w1.drewN nq).drew (PM.ow own w.heap.size q) (PM.ow own w.heap.size q) := (Ext.refl.drewN nq).drew
      have HLd := Lib.hid (HL1.out.ext hXd (fun c h => h.elim))
      have HEd := Lib.hid (HE1.out.mono (M' := fun c => c = q + 4 ∨ c = q) (fun _ h => h.elim) |>.trans (hXd.mono (fun _ h => h.elim)))
      have HB3d := Lib.hid (HB3b.out.ext hXd (fun h => h))
      have HB4d := Lib.hid (HB4.out.ext hXd (fun h => h))
      obtain ⟨mv9, hbx9, hmv9⟩ := HLd.out.box
      have he9 : mv9 = .slice ma L.m.length mc := by
        have h1 := hbx9.cell 6
        have h2 : (w1.drewN nq).drew.cell? ⟨P.W, 6, none⟩ = some (.slice ma L.m.length mc) := x6
        rw [h2] at h1
        exact (Option.some.inj h1).symm
      subst he9
      have HADD := Lib.hid (show Calls Try.prog 12 #[.slice ma L.m.length mc, .int .i64 o.chain, .int .i64 o.v, .bool false] (w1.drewN nq).drew fun e w' => ∃ v', e = .returned v' ∧ RefPost (w1.drewN nq).drew (fun g => (PM.ow own w.heap.size q) g = q + 6) (L.m.set j (addL L.m[j].1 o.v false, L.m[j].2 + 1)) v' w' from by rw [HCJ.out]; exact RefAdd_any j hmv9 hj hlen hst o.v false)
      go_upto_region 6 with fail
      clear HL1 HE1 HB4 HB3b hXd
      refine wp_region_plan2 [(true, 0, [13, 14, 15]), (true, 1, [2, 3, 4, 12, 13, 14, 15]), (true, 9, [10, 11, 12, 13, 14, 15]), (true, 10, [11, 12, 13, 14, 15]), (true, 11, [12, 13, 14, 15]), (true, 2, [3, 4, 12, 13, 14, 15]), (true, 3, [4, 12, 13, 14, 15]), (true, 4, [12, 13, 14, 15]), (true, 5, [6, 12, 13, 14, 15]), (true, 6, [12, 13, 14, 15]), (true, 7, [8, 12, 13, 14, 15]), (true, 8, [12, 13, 14, 15]), (false, 12, []), (true, 13, [14, 15]), (true, 14, [15]), (false, 15, [])] (by kernel_rfl) (by kernel_rfl) (fun _ _ _ d _ h => by cases d <;> exact h) ?_
      clear x6 xl y0 y2 y3 yl z0 z1 z2 z3 f0 f1 f2 f3 zl
      generalize (w1.drewN nq).drew = wd at *
      have y0 : wd.cell? ⟨w.heap.size, 0, none⟩ = some (.int .i64 1) := by rw [← k1]; exact HB3d.out.cell 0
      have y2 : wd.cell? ⟨w.heap.size, 2, none⟩ = some (.int .i64 o.chain) := HB3d.out.cell 2
      have y3 : wd.cell? ⟨w.heap.size, 3, none⟩ = some (.int .i64 o.v) := HB3d.out.cell 3
      have x6 : wd.cell? ⟨P.W, 6, none⟩ = some (.slice ma L.m.length mc) := hbx9.cell 6
      iterate 12 (refine plan_early rfl ?_; still_step; refine wpStill_nil ?_)
      refine plan_big rfl ?_
      go_wp2_with fail
      refine HADD.out.mono ?_
      rintro e w2 ⟨v', rfl, hR, hB⟩
      obtain ⟨va, vc, hve⟩ := hR.shape
      rw [List.length_set] at hve
      subst hve
      have hset := LAt.setM HLd.out hB hR
      have hEE := HEd.out.trans (hset.2.mono (fun c h => .inl h))
      have hbw := (blk_same hbx9 hB)
      have g6 := hbw.free 6
      have gl := hbw.lt
      have v6 : w2.cell? ⟨P.W, 6, none⟩ = some (.slice ma L.m.length mc) := hbw.cell 6
      have HSET := Lib.hid hset
      have HEE := Lib.hid hEE
      have HB3' := Lib.hid (HB3d.out.ext hset.2 (by omega))
      have HB4' := Lib.hid (HB4d.out.ext hset.2 (by omega))
      clear hset hEE hbw hR hB
      go_wp2_with fail
      iterate 2 (refine plan_early rfl ?_; still_step; refine wpStill_nil ?_)
      refine plan_big rfl ?_
      go_wp2_with fail
      refine plan_nil ?_
      clear x6 y0 y2 y3 g6 gl v6 hmv9 hbx9
      generalize w2.setCell ⟨P.W, 6, none⟩ (.slice va L.m.length vc) = w3 at *
      obtain ⟨mv3, hbx3, hmv3⟩ := HSET.out.1.box
      obtain ⟨ma3, mc3, rfl⟩ := hmv3.shape
      have hj3 : j < (L.m.set j (addL L.m[j].1 o.v false, L.m[j].2 + 1)).length := by rw [List.length_set]; exact hj
      obtain ⟨g3, lv3, rfl, hg3, -, -, hst3, -⟩ := RBAt.get hmv3 hj3
      simp only [List.getElem_set_self] at hst3
      have x6 : w3.cell? ⟨P.W, 6, none⟩ = some (.slice (some ⟨g3, 0, none⟩) (L.m.set j (addL L.m[j].1 o.v false, L.m[j].2 + 1)).length mc3) := hbx3.cell 6
      rw [List.length_set] at x6
      have xl := hbx3.lt
      have y2 : w3.cell? ⟨w.heap.size, 2, none⟩ = some (.int .i64 o.chain) := HB3'.out.cell 2
      have yl := HB3'.out.lt
      have z0 : w3.cell? ⟨w.heap.size + 1, 0, none⟩ = some (.int .i64 0) := HB4'.out.cell 0
      have z1 : w3.cell? ⟨w.heap.size + 1, 1, none⟩ = some (.bool false) := HB4'.out.cell 1
      have z2 : w3.cell? ⟨w.heap.size + 1, 2, none⟩ = some (.int .i64 0) := HB4'.out.cell 2
      have z3 : w3.cell? ⟨w.heap.size + 1, 3, none⟩ = some (.slice none 0 0) := HB4'.out.cell 3
      have f0 := HB4'.out.free 0
      have f1 := HB4'.out.free 1
      have f2 := HB4'.out.free 2
      have f3 := HB4'.out.free 3
      have zl := HB4'.out.lt
      have hX3 : Ext (fun _ => False) w3 w3.drew (PM.ow (PM.ow own w.heap.size q) wd.heap.size (q + 6)) (PM.ow (PM.ow own w.heap.size q) wd.heap.size (q + 6)) := Ext.refl.drew
      have hend := eff_end (L := L) (A := ⟨0, true, L.m[j].2 + 1, []⟩) (HSET.out.1.ext hX3 (fun c h => h.elim)) (HEE.out.trans (hX3.mono (fun _ h => h.elim))) HB4'.out.drew (a := none) (l := 0) (c := 0) ⟨by simp, .inl ⟨rfl, rfl⟩⟩
      have HEND := Lib.hid hend
      clear hX3 hend hbx3 hmv3 hj3
      generalize L.m[j].2 = st at *
      go_wp2_with fail
      refine wp_region_plan2 [(true, 0, [1, 2, 3, 7, 8, 9, 10, 11]), (true, 4, [5, 6, 7, 8, 9, 10, 11]), (true, 5, [6, 7, 8, 9, 10, 11]), (true, 6, [7, 8, 9, 10, 11]), (true, 1, [2, 3, 7, 8, 9, 10, 11]), (true, 2, [3, 7, 8, 9, 10, 11]), (true, 3, [7, 8, 9, 10, 11]), (true, 7, [8, 9, 10, 11]), (true, 8, [9, 10, 11]), (true, 9, [10, 11]), (true, 10, [11]), (false, 11, [])] (by kernel_rfl) (by kernel_rfl) (fun _ _ _ d _ h => by cases d <;> exact h) ?_
      iterate 11 (refine plan_early rfl ?_; still_step; refine wpStill_nil ?_)
      refine plan_big rfl ?_
      go_wp2_with fail
      refine plan_nil ?_
      go_wp2_with fail
      ((try simp only [Exit.inBlock, Exit.then]); refine bodyPost_ret (results_cell_row rfl _ _ ((w.heap.size + 1)) 41 _ _ _ rfl (HEND.out.1) Try.underlying41 rfl (by kernel_rfl)) rfl ?_)
      rw [HA.out, HM.out]
      exact HEND.out.2
    by_cases k2 : o.kind = 2
    · have HA := Lib.hid (show effA L.m o = ⟨0, true, L.m[j].2 + 1, []⟩ by unfold effA; rw [if_pos hin, if_pos (.inr k2), hm1])
      have HM := Lib.hid (show effM L.m o = L.m.set j (addL L.m[j].1 o.v true, L.m[j].2 + 1) by unfold effM; rw [if_pos hin, if_pos (.inr k2), hm1, hjn, decide_eq_true k2])
      rw [k2] at y0
      clear hin hm1 hjn hm
      go_wp2_with fail
      go_quiet (fail)
      have hXd : Ext (fun _ => False) w1 (w1.drewN nq).drew (PM.ow own w.heap.size q) (PM.ow own w.heap.size q) := (Ext.refl.drewN nq).drew
      have HLd := Lib.hid (HL1.out.ext hXd (fun c h => h.elim))
      have HEd := Lib.hid (HE1.out.mono (M' := fun c => c = q + 4 ∨ c = q) (fun _ h => h.elim) |>.trans (hXd.mono (fun _ h => h.elim)))
      have HB3d := Lib.hid (HB3b.out.ext hXd (fun h => h))
      have HB4d := Lib.hid (HB4.out.ext hXd (fun h => h))
      obtain ⟨mv9, hbx9, hmv9⟩ := HLd.out.box
      have he9 : mv9 = .slice ma L.m.length mc := by
        have h1 := hbx9.cell 6
        have h2 : (w1.drewN nq).drew.cell? ⟨P.W, 6, none⟩ = some (.slice ma L.m.length mc) := x6
        rw [h2] at h1
        exact (Option.some.inj h1).symm
      subst he9
      have HADD := Lib.hid (show Calls Try.prog 12 #[.slice ma L.m.length mc, .int .i64 o.chain, .int .i64 o.v, .bool true] (w1.drewN nq).drew fun e w' => ∃ v', e = .returned v' ∧ RefPost (w1.drewN nq).drew (fun g => (PM.ow own w.heap.size q) g = q + 6) (L.m.set j (addL L.m[j].1 o.v true, L.m[j].2 + 1)) v' w' from by rw [HCJ.out]; exact RefAdd_any j hmv9 hj hlen hst o.v true)
      go_upto_region 6 with fail
      clear HL1 HE1 HB4 HB3b hXd
      refine wp_region_plan2 [(true, 0, [13, 14, 15]), (true, 1, [2, 3, 4, 12, 13, 14, 15]), (true, 9, [10, 11, 12, 13, 14, 15]), (true, 10, [11, 12, 13, 14, 15]), (true, 11, [12, 13, 14, 15]), (true, 2, [3, 4, 12, 13, 14, 15]), (true, 3, [4, 12, 13, 14, 15]), (true, 4, [12, 13, 14, 15]), (true, 5, [6, 12, 13, 14, 15]), (true, 6, [12, 13, 14, 15]), (true, 7, [8, 12, 13, 14, 15]), (true, 8, [12, 13, 14, 15]), (false, 12, []), (true, 13, [14, 15]), (true, 14, [15]), (false, 15, [])] (by kernel_rfl) (by kernel_rfl) (fun _ _ _ d _ h => by cases d <;> exact h) ?_
      clear x6 xl y0 y2 y3 yl z0 z1 z2 z3 f0 f1 f2 f3 zl
      generalize (w1.drewN nq).drew = wd at *
      have y0 : wd.cell? ⟨w.heap.size, 0, none⟩ = some (.int .i64 2) := by rw [← k2]; exact HB3d.out.cell 0
      have y2 : wd.cell? ⟨w.heap.size, 2, none⟩ = some (.int .i64 o.chain) := HB3d.out.cell 2
      have y3 : wd.cell? ⟨w.heap.size, 3, none⟩ = some (.int .i64 o.v) := HB3d.out.cell 3
      have x6 : wd.cell? ⟨P.W, 6, none⟩ = some (.slice ma L.m.length mc) := hbx9.cell 6
      iterate 12 (refine plan_early rfl ?_; still_step; refine wpStill_nil ?_)
      refine plan_big rfl ?_
      go_wp2_with fail
      refine HADD.out.mono ?_
      rintro e w2 ⟨v', rfl, hR, hB⟩
      obtain ⟨va, vc, hve⟩ := hR.shape
      rw [List.length_set] at hve
      subst hve
      have hset := LAt.setM HLd.out hB hR
      have hEE := HEd.out.trans (hset.2.mono (fun c h => .inl h))
      have hbw := (blk_same hbx9 hB)
      have g6 := hbw.free 6
      have gl := hbw.lt
      have v6 : w2.cell? ⟨P.W, 6, none⟩ = some (.slice ma L.m.length mc) := hbw.cell 6
      have HSET := Lib.hid hset
      have HEE := Lib.hid hEE
      have HB3' := Lib.hid (HB3d.out.ext hset.2 (by omega))
      have HB4' := Lib.hid (HB4d.out.ext hset.2 (by omega))
      clear hset hEE hbw hR hB
      go_wp2_with fail
      iterate 2 (refine plan_early rfl ?_; still_step; refine wpStill_nil ?_)
      refine plan_big rfl ?_
      go_wp2_with fail
      refine plan_nil ?_
      clear x6 y0 y2 y3 g6 gl v6 hmv9 hbx9
      generalize w2.setCell ⟨P.W, 6, none⟩ (.slice va L.m.length vc) = w3 at *
      obtain ⟨mv3, hbx3, hmv3⟩ := HSET.out.1.box
      obtain ⟨ma3, mc3, rfl⟩ := hmv3.shape
      have hj3 : j < (L.m.set j (addL L.m[j].1 o.v true, L.m[j].2 + 1)).length := by rw [List.length_set]; exact hj
      obtain ⟨g3, lv3, rfl, hg3, -, -, hst3, -⟩ := RBAt.get hmv3 hj3
      simp only [List.getElem_set_self] at hst3
      have x6 : w3.cell? ⟨P.W, 6, none⟩ = some (.slice (some ⟨g3, 0, none⟩) (L.m.set j (addL L.m[j].1 o.v true, L.m[j].2 + 1)).length mc3) := hbx3.cell 6
      rw [List.length_set] at x6
      have xl := hbx3.lt
      have y2 : w3.cell? ⟨w.heap.size, 2, none⟩ = some (.int .i64 o.chain) := HB3'.out.cell 2
      have yl := HB3'.out.lt
      have z0 : w3.cell? ⟨w.heap.size + 1, 0, none⟩ = some (.int .i64 0) := HB4'.out.cell 0
      have z1 : w3.cell? ⟨w.heap.size + 1, 1, none⟩ = some (.bool false) := HB4'.out.cell 1
      have z2 : w3.cell? ⟨w.heap.size + 1, 2, none⟩ = some (.int .i64 0) := HB4'.out.cell 2
      have z3 : w3.cell? ⟨w.heap.size + 1, 3, none⟩ = some (.slice none 0 0) := HB4'.out.cell 3
      have f0 := HB4'.out.free 0
      have f1 := HB4'.out.free 1
      have f2 := HB4'.out.free 2
      have f3 := HB4'.out.free 3
      have zl := HB4'.out.lt
      have hX3 : Ext (fun _ => False) w3 w3.drew (PM.ow (PM.ow own w.heap.size q) wd.heap.size (q + 6)) (PM.ow (PM.ow own w.heap.size q) wd.heap.size (q + 6)) := Ext.refl.drew
      have hend := eff_end (L := L) (A := ⟨0, true, L.m[j].2 + 1, []⟩) (HSET.out.1.ext hX3 (fun c h => h.elim)) (HEE.out.trans (hX3.mono (fun _ h => h.elim))) HB4'.out.drew (a := none) (l := 0) (c := 0) ⟨by simp, .inl ⟨rfl, rfl⟩⟩
      have HEND := Lib.hid hend
      clear hX3 hend hbx3 hmv3 hj3
      generalize L.m[j].2 = st at *
      go_wp2_with fail
      refine wp_region_plan2 [(true, 0, [1, 2, 3, 7, 8, 9, 10, 11]), (true, 4, [5, 6, 7, 8, 9, 10, 11]), (true, 5, [6, 7, 8, 9, 10, 11]), (true, 6, [7, 8, 9, 10, 11]), (true, 1, [2, 3, 7, 8, 9, 10, 11]), (true, 2, [3, 7, 8, 9, 10, 11]), (true, 3, [7, 8, 9, 10, 11]), (true, 7, [8, 9, 10, 11]), (true, 8, [9, 10, 11]), (true, 9, [10, 11]), (true, 10, [11]), (false, 11, [])] (by kernel_rfl) (by kernel_rfl) (fun _ _ _ d _ h => by cases d <;> exact h) ?_
      iterate 11 (refine plan_early rfl ?_; still_step; refine wpStill_nil ?_)
      refine plan_big rfl ?_
      go_wp2_with fail
      refine plan_nil ?_
      go_wp2_with fail
      ((try simp only [Exit.inBlock, Exit.then]); refine bodyPost_ret (results_cell_row rfl _ _ ((w.heap.size + 1)) 41 _ _ _ rfl (HEND.out.1) Try.underlying41 rfl (by kernel_rfl)) rfl ?_)
      rw [HA.out, HM.out]
      exact HEND.out.2
    have g1 : (o.kind == 1) = false := by simp [k1]
    have g2 : (o.kind == 2) = false := by simp [k2]
    by_cases k3 : o.kind = 3
    · have HA := Lib.hid (show effA L.m o = ⟨0, L.m[j].1.contains o.v, if L.m[j].1.contains o.v = true then L.m[j].2 + 1 else L.m[j].2, []⟩ by unfold effA; rw [if_pos hin, if_neg (fun h => h.elim k1 k2), if_pos k3, hm1])
      have HM := Lib.hid (show effM L.m o = cutR L.m j hj o.v by unfold effM cutR; rw [if_pos hin, if_neg (fun h => h.elim k1 k2), if_pos k3, hm1, hjn])
      rw [k3] at y0
      clear hin hm1 hjn hm g1 g2
      go_wp2_with fail
      go_quiet (fail)
      have hXd : Ext (fun _ => False) w1 (w1.drewN nq).drew (PM.ow own w.heap.size q) (PM.ow own w.heap.size q) := (Ext.refl.drewN nq).drew
      have HLd := Lib.hid (HL1.out.ext hXd (fun c h => h.elim))
      have HEd := Lib.hid (HE1.out.mono (M' := fun c => c = q + 4 ∨ c = q) (fun _ h => h.elim) |>.trans (hXd.mono (fun _ h => h.elim)))
      have HB3d := Lib.hid (HB3b.out.ext hXd (fun h => h))
      have HB4d := Lib.hid (HB4.out.ext hXd (fun h => h))
      obtain ⟨mv9, hbx9, hmv9⟩ := HLd.out.box
      have he9 : mv9 = .slice ma L.m.length mc := by
        have h1 := hbx9.cell 6
        have h2 : (w1.drewN nq).drew.cell? ⟨P.W, 6, none⟩ = some (.slice ma L.m.length mc) := x6
        rw [h2] at h1
        exact (Option.some.inj h1).symm
      subst he9
      have HCUT := Lib.hid (show Calls Try.prog 14 #[.slice ma L.m.length mc, .int .i64 o.chain, .int .i64 o.v] (w1.drewN nq).drew fun e w' => ∃ v', e = .returned (.tuple #[v', .bool (L.m[j].1.contains o.v)]) ∧ RefPost (w1.drewN nq).drew (fun g => (PM.ow own w.heap.size q) g = q + 6) (cutR L.m j hj o.v) v' w' from by rw [HCJ.out]; exact RefCut_any j hmv9 hj hlen hst o.v)
      have HAT := Lib.hid (show ∀ h : j < (cutR L.m j hj o.v).length, ((cutR L.m j hj o.v)[j]'h).2 = (if L.m[j].1.contains o.v = true then L.m[j].2 + 1 else L.m[j].2) from fun h => cutR_at L.m j hj o.v)
      have HLN := Lib.hid (cutR_len L.m j hj o.v)
      go_upto_region 9 with fail
      clear HL1 HE1 HB4 HB3b hXd
      refine wp_region_plan2 [(true, 0, [1, 2, 3, 8, 9, 10, 11, 12, 13]), (true, 1, [2, 3, 8, 9, 10, 11, 12, 13]), (true, 2, [3, 8, 9, 10, 11, 12, 13]), (true, 3, [8, 9, 10, 11, 12, 13]), (true, 4, [5, 8, 9, 10, 11, 12, 13]), (true, 5, [8, 9, 10, 11, 12, 13]), (true, 6, [7, 8, 9, 10, 11, 12, 13]), (true, 7, [8, 9, 10, 11, 12, 13]), (false, 8, []), (true, 9, [10, 11, 12, 13]), (true, 10, [12, 13]), (true, 11, [13]), (true, 12, [13]), (true, 13, [])] (by kernel_rfl) (by kernel_rfl) (fun _ _ _ d _ h => by cases d <;> exact h) ?_
      clear x6 xl y0 y2 y3 yl z0 z1 z2 z3 f0 f1 f2 f3 zl
      generalize (w1.drewN nq).drew = wd at *
      have y0 : wd.cell? ⟨w.heap.size, 0, none⟩ = some (.int .i64 3) := by rw [← k3]; exact HB3d.out.cell 0
      have y2 : wd.cell? ⟨w.heap.size, 2, none⟩ = some (.int .i64 o.chain) := HB3d.out.cell 2
      have y3 : wd.cell? ⟨w.heap.size, 3, none⟩ = some (.int .i64 o.v) := HB3d.out.cell 3
      have x6 : wd.cell? ⟨P.W, 6, none⟩ = some (.slice ma L.m.length mc) := hbx9.cell 6
      iterate 8 (refine plan_early rfl ?_; still_step; refine wpStill_nil ?_)
      refine plan_big rfl ?_
      go_wp2_with fail
      refine HCUT.out.mono ?_
      rintro e w2 ⟨v', rfl, hR, hB⟩
      obtain ⟨va, vc, hve⟩ := hR.shape
      rw [HLN.out] at hve
      subst hve
      generalize L.m[j].1.contains o.v = co at *
      generalize hst3 : (if co = true then L.m[j].2 + 1 else L.m[j].2) = st3 at *
      have hst4 : 0 ≤ st3 := by rw [← hst3]; split <;> omega
      generalize cutR L.m j hj o.v = m3 at *
      have hset := LAt.setM HLd.out hB hR
      have hEE := HEd.out.trans (hset.2.mono (fun c h => .inl h))
      have hbw := (blk_same hbx9 hB)
      have g6 := hbw.free 6
      have gl := hbw.lt
      have v6 : w2.cell? ⟨P.W, 6, none⟩ = some (.slice ma L.m.length mc) := hbw.cell 6
      have HSET := Lib.hid hset
      have HEE := Lib.hid hEE
      have HB3' := Lib.hid (HB3d.out.ext hset.2 (by omega))
      have HB4' := Lib.hid (HB4d.out.ext hset.2 (by omega))
      clear hset hEE hbw hR hB hst3 HCUT
      go_wp2_with fail
      iterate 5 (refine plan_early rfl ?_; still_step; refine wpStill_nil ?_)
      refine plan_nil ?_
      go_upto_region 11 with fail
      clear x6 y0 y2 y3 g6 gl v6 hmv9 hbx9
      generalize w2.setCell ⟨P.W, 6, none⟩ (.slice va L.m.length vc) = w3 at *
      obtain ⟨mv3, hbx3, hmv3⟩ := HSET.out.1.box
      obtain ⟨ma3, mc3, rfl⟩ := hmv3.shape
      obtain ⟨g3, lv3, rfl, hg3, -, -, hst3, -⟩ := RBAt.get hmv3 (i := j) (by show j < m3.length; rw [HLN.out]; exact hj)
      rw [HAT.out _] at hst3
      have x6 : w3.cell? ⟨P.W, 6, none⟩ = some (.slice (some ⟨g3, 0, none⟩) m3.length mc3) := hbx3.cell 6
      rw [HLN.out] at x6
      have xl := hbx3.lt
      have y2 : w3.cell? ⟨w.heap.size, 2, none⟩ = some (.int .i64 o.chain) := HB3'.out.cell 2
      have yl := HB3'.out.lt
      have z0 : w3.cell? ⟨w.heap.size + 1, 0, none⟩ = some (.int .i64 0) := HB4'.out.cell 0
      have z1 : w3.cell? ⟨w.heap.size + 1, 1, none⟩ = some (.bool false) := HB4'.out.cell 1
      have z2 : w3.cell? ⟨w.heap.size + 1, 2, none⟩ = some (.int .i64 0) := HB4'.out.cell 2
      have z3 : w3.cell? ⟨w.heap.size + 1, 3, none⟩ = some (.slice none 0 0) := HB4'.out.cell 3
      have f0 := HB4'.out.free 0
      have f1 := HB4'.out.free 1
      have f2 := HB4'.out.free 2
      have f3 := HB4'.out.free 3
      have zl := HB4'.out.lt
      have hX3 : Ext (fun _ => False) w3 w3.drew (PM.ow (PM.ow own w.heap.size q) wd.heap.size (q + 6)) (PM.ow (PM.ow own w.heap.size q) wd.heap.size (q + 6)) := Ext.refl.drew
      have hend := eff_end (L := L) (A := ⟨0, co, st3, []⟩) (HSET.out.1.ext hX3 (fun c h => h.elim)) (HEE.out.trans (hX3.mono (fun _ h => h.elim))) HB4'.out.drew (a := none) (l := 0) (c := 0) ⟨by simp, .inl ⟨rfl, rfl⟩⟩
      have HEND := Lib.hid hend
      clear hX3 hend hbx3 hmv3
      refine wp_region_plan2 [(true, 0, [11, 12]), (true, 1, [2, 3, 4, 8, 9, 10, 11, 12]), (true, 5, [6, 7, 8, 9, 10, 11, 12]), (true, 6, [7, 8, 9, 10, 11, 12]), (true, 7, [8, 9, 10, 11, 12]), (true, 2, [3, 4, 8, 9, 10, 11, 12]), (true, 3, [4, 8, 9, 10, 11, 12]), (true, 4, [8, 9, 10, 11, 12]), (true, 8, [9, 10, 11, 12]), (true, 9, [10, 11, 12]), (true, 10, [11, 12]), (true, 11, [12]), (false, 12, [])] (by kernel_rfl) (by kernel_rfl) (fun _ _ _ d _ h => by cases d <;> exact h) ?_
      iterate 12 (refine plan_early rfl ?_; still_step; refine wpStill_nil ?_)
      refine plan_big rfl ?_
      go_wp2_with fail
      refine plan_nil ?_
      go_wp2_with fail
      ((try simp only [Exit.inBlock, Exit.then]); refine bodyPost_ret (results_cell_row rfl _ _ ((w.heap.size + 1)) 41 _ _ _ rfl (HEND.out.1) Try.underlying41 rfl (by kernel_rfl)) rfl ?_)
      rw [HA.out, HM.out]
      exact HEND.out.2
    · have g3 : (o.kind == 3) = false := by simp [k3]
      have HA := Lib.hid (show effA L.m o = ⟨0, true, L.m[j].2, L.m[j].1⟩ by unfold effA; rw [if_pos hin, if_neg (fun h => h.elim k1 k2), if_neg k3, hm1])
      have HM := Lib.hid (show effM L.m o = L.m by unfold effM; rw [if_pos hin, if_neg (fun h => h.elim k1 k2), if_neg k3])
      generalize o.kind = kd at *
      clear hin hm1 hjn hm k1 k2 k3
      go_wp2_with fail
      go_quiet (fail)
      have hXd : Ext (fun _ => False) w1 (w1.drewN nq).drew (PM.ow own w.heap.size q) (PM.ow own w.heap.size q) := (Ext.refl.drewN nq).drew
      have HLd := Lib.hid (HL1.out.ext hXd (fun c h => h.elim))
      have HEd := Lib.hid (HE1.out.mono (M' := fun c => c = q + 4 ∨ c = q) (fun _ h => h.elim) |>.trans (hXd.mono (fun _ h => h.elim)))
      have HB3d := Lib.hid (HB3b.out.ext hXd (fun h => h))
      have HB4d := Lib.hid (HB4.out.ext hXd (fun h => h))
      obtain ⟨mv9, hbx9, hmv9⟩ := HLd.out.box
      have he9 : mv9 = .slice ma L.m.length mc := by
        have h1 := hbx9.cell 6
        have h2 : (w1.drewN nq).drew.cell? ⟨P.W, 6, none⟩ = some (.slice ma L.m.length mc) := x6
        rw [h2] at h1
        exact (Option.some.inj h1).symm
      subst he9
      obtain ⟨g3, lv3, rfl, hg3, -, hlv3, hst3, hvl3⟩ := RBAt.get hmv9 hj
      obtain ⟨la3, lc3, rfl⟩ := hvl3.shape
      have hend := eff_end (L := L) (m := L.m) (A := ⟨0, true, L.m[j].2, L.m[j].1⟩) HLd.out HEd.out HB4d.out hvl3
      have HEND := Lib.hid hend
      go_upto_region 12 with fail
      clear HL1 HE1 HB4 HB3b hXd hend hvl3
      have y2' := HB3d.out.cell 2
      have x6' := hbx9.cell 6
      generalize L.m[j].1.length = ln at *
      generalize L.m[j].1 = l at *
      generalize L.m[j].2 = st at *
      refine wp_region_plan5 [.early 0 [1, 2, 3, 7, 8, 9, 20, 21], .early 1 [2, 3, 7, 8, 9, 20, 21], .early 2 [3, 7, 8, 9, 20, 21], .early 3 [7, 8, 9, 20, 21], .early 4 [5, 6, 7, 8, 9, 20, 21], .early 5 [6, 7, 8, 9, 20, 21], .early 6 [7, 8, 9, 20, 21], .early 7 [8, 9, 20, 21], .early 8 [9, 20, 21], .early 9 [20, 21], .early 10 [11, 12, 13, 17, 18, 19, 20, 21], .early 11 [12, 13, 17, 18, 19, 20, 21], .early 12 [13, 17, 18, 19, 20, 21], .early 13 [17, 18, 19, 20, 21], .early 14 [15, 16, 17, 18, 19, 20, 21], .early 15 [16, 17, 18, 19, 20, 21], .early 16 [17, 18, 19, 20, 21], .early 17 [18, 19, 20, 21], .early 18 [19, 20, 21], .early 19 [20, 21], .early 20 [21], .big 21] 21 ((fun w9 => w9.cell? ⟨P.W, 6, none⟩ = some (.slice (some ⟨g3, 0, none⟩) L.m.length mc) ∧ w9.cell? ⟨w.heap.size, 2, none⟩ = some (.int .i64 o.chain) ∧ w9.cell? ⟨g3, j * 2, none⟩ = some (.slice la3 ln lc3) ∧ w9.cell? ⟨g3, j * 2 + 1, none⟩ = some (.int .i64 st))) (by kernel_rfl) (by kernel_rfl) (fun _ _ _ d _ h => by cases d <;> exact h) (⟨x6', y2', hlv3, hst3⟩) ?_
      clear x6 xl y0 y2 y3 yl z0 z1 z2 z3 f0 f1 f2 f3 zl x6' y2' hlv3 hst3 hmv9 hbx9
      generalize (w1.drewN nq).drew = wd at *
      iterate 21
        apply plan5_early
        case hi => rfl
        case h =>
          intro w9 hf
          obtain ⟨x6, y2, e0, e1⟩ := hf
          still_step
          exact wpStill_nil rfl
      have z0 : wd.cell? ⟨w.heap.size + 1, 0, none⟩ = some (.int .i64 0) := HB4d.out.cell 0
      have z1 : wd.cell? ⟨w.heap.size + 1, 1, none⟩ = some (.bool false) := HB4d.out.cell 1
      have z2 : wd.cell? ⟨w.heap.size + 1, 2, none⟩ = some (.int .i64 0) := HB4d.out.cell 2
      have z3 : wd.cell? ⟨w.heap.size + 1, 3, none⟩ = some (.slice none 0 0) := HB4d.out.cell 3
      have f0 := HB4d.out.free 0
      have f1 := HB4d.out.free 1
      have f2 := HB4d.out.free 2
      have f3 := HB4d.out.free 3
      have zl := HB4d.out.lt
      refine plan5_big rfl ?_
      go_wp2_with fail
      refine plan5_nil ?_
      go_wp2_with fail
      ((try simp only [Exit.inBlock, Exit.then]); refine bodyPost_ret (results_cell_row rfl _ _ ((w.heap.size + 1)) 41 _ _ _ rfl (HEND.out.1) Try.underlying41 rfl (by kernel_rfl)) rfl ?_)
      rw [HA.out, HM.out]
      exact HEND.out.2
  · have HA := Lib.hid (show effA L.m o = ⟨1, false, 0, []⟩ from if_neg hin)
    have HM := Lib.hid (show effM L.m o = L.m from if_neg hin)
    by_cases h1 : 1 ≤ o.chain
    · have h2 : (L.m.length : Int) < o.chain := by unfold inM at hin; omega
      clear hin
      go_wp2_with fail
      go_quiet (fail)
      have hX : Ext (fun _ => False) w1 (w1.drewN nq) (PM.ow own w.heap.size q) (PM.ow own w.heap.size q) := Ext.refl.drewN nq
      have hend := eff_end (L := L) (m := L.m) (A := ⟨1, false, 0, []⟩) (HL1.out.ext hX (fun c h => h.elim)) ((HE1.out.trans hX).mono (fun _ h => h.elim)) (HB4.out.drewN nq) (a := none) (l := 0) (c := 0) ⟨by simp, .inl ⟨rfl, rfl⟩⟩
      have HEND := Lib.hid hend
      clear hX hend
      go_wp2_with fail
      ((try simp only [Exit.inBlock, Exit.then]); refine bodyPost_ret (results_cell_row rfl _ _ ((w.heap.size + 1)) 41 _ _ _ rfl (HEND.out.1) Try.underlying41 rfl (by kernel_rfl)) rfl ?_)
      rw [HA.out, HM.out]
      exact HEND.out.2
    · have h2 : decide (o.chain < 1) = true := by simp; omega
      clear hin h1
      have hX : Ext (fun _ => False) w1 w1.drew (PM.ow own w.heap.size q) (PM.ow own w.heap.size q) := Ext.refl.drew
      have hend := eff_end (L := L) (m := L.m) (A := ⟨1, false, 0, []⟩) (HL1.out.ext hX (fun c h => h.elim)) ((HE1.out.trans hX).mono (fun _ h => h.elim)) HB4.out.drew (a := none) (l := 0) (c := 0) ⟨by simp, .inl ⟨rfl, rfl⟩⟩
      have HEND := Lib.hid hend
      clear hX hend
      refine wp_region_plan5 [.early 0 [1, 2, 3, 4, 5, 6, 7, 8, 9, 10, 11, 12], .early 1 [2, 3, 4, 5, 6, 7, 8, 9, 10, 11, 12], .early 2 [3, 4, 5, 6, 7, 8, 9, 10, 11, 12], .early 3 [4, 5, 6, 7, 8, 9, 10, 11, 12], .early 4 [5, 11, 12], .early 5 [11, 12], .early 6 [7, 8, 9, 10, 11, 12], .early 7 [8, 9, 10, 11, 12], .early 8 [9, 10, 11, 12], .early 9 [10, 11, 12], .early 10 [11, 12], .early 11 [12], .early 12 []] 13 ((fun w9 => w9.cell? ⟨w.heap.size, 2, none⟩ = some (.int .i64 o.chain))) (by kernel_rfl) (by kernel_rfl) (fun _ _ _ d _ h => by cases d <;> exact h) (y2) ?_
      iterate 13
        apply plan5_early
        case hi => rfl
        case h =>
          intro w9 hf
          have y9 := hf
          still_step
          exact wpStill_nil rfl
      refine plan5_nil ?_
      go_wp2_with fail
      ((try simp only [Exit.inBlock, Exit.then]); refine bodyPost_ret (results_cell_row rfl _ _ ((w.heap.size + 1)) 41 _ _ _ rfl (HEND.out.1) Try.underlying41 rfl (by kernel_rfl)) rfl ?_)
      rw [HA.out, HM.out]
      exact HEND.out.2
end
end Go.Proofs.Ytefhngbeodnldaa
