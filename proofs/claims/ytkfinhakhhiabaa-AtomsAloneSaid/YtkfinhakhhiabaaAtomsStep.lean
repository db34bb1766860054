/- Layer 3: a step of an operation. -/
import Derived.Test.YtkfinhakhhiabaaAtoms
set_option maxRecDepth 20000
set_option linter.unusedVariables false
set_option linter.unusedSimpArgs false
namespace Go.Proofs.Ytkfinhakhhiabaa
open Go.RowKit Go.PM

def lastV (V : AV) (T : TV) (O : OV) : AV := if O.next = 6 then V.swap T.block O.cell O.first O.node else if O.next = 7 then V.free O.node else if O.next = 8 then V.add T.block 0 (-1) else V
def lastT (T : TV) (O : OV) : TV := if O.next = 7 then T.del O.node else T
def lastO (V : AV) (T : TV) (O : OV) : OV :=
  if O.next = 6 then (if V.swapOk T.block O.cell O.first then { O with id := O.node, next := 9 } else { O with next := 1 }) else if O.next = 7 then { O with node := 0, next := 8 } else if O.next = 8 then { O with next := 9 } else O
/-- A call's end: the arena, the table, the operation behind it. -/
def SPost (ka kt ko a t o : Nat) (V' : AV) (T' : TV) (O' : OV) (w : World) (own : Nat → Nat) (w' : World) : Prop :=
  ∃ own', Ext (fun c => c = ka ∨ c = kt ∨ c = ko) w w' own own' ∧ Arena w' own' ka a V' ∧ Table w' own' kt t a T' ∧ OpAt w' own' ko o t O'
section
variable {w w1 : World} {own own1 : Nat → Nat} {ka kt ko a t o : Nat} {V V' : AV} {T T' : TV} {O O' : OV}
theorem SPost.refl (hA : Arena w own ka a V) (hT : Table w own kt t a T) (hO : OpAt w own ko o t O) : SPost ka kt ko a t o V T O w own w := ⟨own, Ext.refl, hA, hT, hO⟩
theorem SPost.as {V2 : AV} {T2 : TV} {O2 : OV} (h : SPost ka kt ko a t o V' T' O' w own w1) (e1 : V' = V2) (e2 : T' = T2) (e3 : O' = O2) : SPost ka kt ko a t o V2 T2 O2 w own w1 := by
  subst e1; subst e2; subst e3; exact h
theorem SPost.drew (h : SPost ka kt ko a t o V' T' O' w own w1) : SPost ka kt ko a t o V' T' O' w own w1.drew := by
  obtain ⟨own', h1, h2, h3, h4⟩ := h
  have hX : Ext (fun _ => False) w1 w1.drew own' own' := Ext.refl.drew
  exact ⟨own', h1.drew, h2.ext hX (by simp), h3.ext hX (by simp), h4.ext hX (by simp)⟩
theorem SPost.drewN (h : SPost ka kt ko a t o V' T' O' w own w1) (n : Nat) : SPost ka kt ko a t o V' T' O' w own (w1.drewN n) := by
  obtain ⟨own', h1, h2, h3, h4⟩ := h
  have hX : Ext (fun _ => False) w1 (w1.drewN n) own' own' := Ext.refl.drewN n
  exact ⟨own', h1.drewN n, h2.ext hX (by simp), h3.ext hX (by simp), h4.ext hX (by simp)⟩
/-- The arena is turned. -/
theorem SPost.arena (h : SPost ka kt ko a t o V T O w own w1) (hat : ka ≠ kt) (hao : ka ≠ ko) {r : Value} {e : Ending} {w2 : World} (k : ∀ own1, Arena w1 own1 ka a V → ArPost ka a V' w1 own1 r e w2) : e = .returned r ∧ SPost ka kt ko a t o V' T O w own w2 := by
  obtain ⟨own1, h1, h2, h3, h4⟩ := h
  obtain ⟨h5, own2, h6, h7⟩ := k own1 h2
  exact ⟨h5, own2, h1.trans (h6.mono (by simp)), h7, h3.ext h6 (fun h => hat h.symm), h4.ext h6 (fun h => hao h.symm)⟩
/-- The operation is turned. -/
theorem SPost.op (h : SPost ka kt ko a t o V T O w own w1) (hao : ka ≠ ko) (hto : kt ≠ ko) {w2 : World} (k : ∀ own1, OpAt w1 own1 ko o t O → OPost w1 own1 ko o t O' w2) : SPost ka kt ko a t o V T O' w own w2 := by
  obtain ⟨own1, h1, h2, h3, h4⟩ := h
  obtain ⟨h5, h6⟩ := k own1 h4
  exact ⟨own1, h1.trans (h5.mono (by simp)), h2.ext h5 hao, h3.ext h5 hto, h6⟩
theorem SPost.cells (h : SPost ka kt ko a t o V T O w own w1) : ∃ mb, (w1.cell? ⟨o, 0, none⟩ = some (.pointer (some ⟨t, 0, none⟩)) ∧ w1.cell? ⟨o, 1, none⟩ = some (.string O.name) ∧ w1.cell? ⟨o, 2, none⟩ = some (.int .i64 O.cell) ∧ w1.cell? ⟨o, 3, none⟩ = some (.int .i64 O.next) ∧ w1.cell? ⟨o, 4, none⟩ = some (.int .i64 O.first) ∧
      w1.cell? ⟨o, 5, none⟩ = some (.int .i64 O.at_) ∧ w1.cell? ⟨o, 6, none⟩ = some (.bool O.reserved) ∧ w1.cell? ⟨o, 7, none⟩ = some (.int .i64 O.node) ∧ w1.cell? ⟨o, 8, none⟩ = some (.int .i64 O.id) ∧ w1.cell? ⟨o, 9, none⟩ = some (.int .i64 O.err)) ∧
    (w1.frozen? ⟨o, 3, none⟩ = false ∧ w1.frozen? ⟨o, 4, none⟩ = false ∧ w1.frozen? ⟨o, 5, none⟩ = false ∧ w1.frozen? ⟨o, 6, none⟩ = false ∧ w1.frozen? ⟨o, 7, none⟩ = false ∧ w1.frozen? ⟨o, 8, none⟩ = false ∧ w1.frozen? ⟨o, 9, none⟩ = false) ∧
    (w1.cell? ⟨t, 0, none⟩ = some (.pointer (some ⟨a, 0, none⟩)) ∧ w1.cell? ⟨t, 1, none⟩ = some (.int .i64 T.block) ∧ w1.cell? ⟨t, 2, none⟩ = some (.int .i64 T.buckets) ∧ w1.cell? ⟨t, 3, none⟩ = some (.int .i64 T.most) ∧ w1.cell? ⟨t, 4, none⟩ = some (.map (some mb))) := by
  obtain ⟨own', _, _, ⟨mb, _, _, h3⟩, h4⟩ := h
  exact ⟨mb, ten_y h4, ten_f h4, five_t h3.root⟩
theorem OPost.of_next (x : Int) (own1 : Nat → Nat) (h : OpAt w1 own1 ko o t O) : OPost w1 own1 ko o t { O with next := x } (w1.setCell ⟨o, 3, none⟩ (.int .i64 x)) := ⟨(h.set_next x).2, (h.set_next x).1⟩
theorem OPost.of_first (x : Int) (own1 : Nat → Nat) (h : OpAt w1 own1 ko o t O) : OPost w1 own1 ko o t { O with first := x } (w1.setCell ⟨o, 4, none⟩ (.int .i64 x)) := ⟨(h.set_first x).2, (h.set_first x).1⟩
theorem OPost.of_at (x : Int) (own1 : Nat → Nat) (h : OpAt w1 own1 ko o t O) : OPost w1 own1 ko o t { O with at_ := x } (w1.setCell ⟨o, 5, none⟩ (.int .i64 x)) := ⟨(h.set_at x).2, (h.set_at x).1⟩
theorem OPost.of_res (x : Bool) (own1 : Nat → Nat) (h : OpAt w1 own1 ko o t O) : OPost w1 own1 ko o t { O with reserved := x } (w1.setCell ⟨o, 6, none⟩ (.bool x)) := ⟨(h.set_res x).2, (h.set_res x).1⟩
theorem OPost.of_node (x : Int) (own1 : Nat → Nat) (h : OpAt w1 own1 ko o t O) : OPost w1 own1 ko o t { O with node := x } (w1.setCell ⟨o, 7, none⟩ (.int .i64 x)) := ⟨(h.set_node x).2, (h.set_node x).1⟩
theorem OPost.of_id (x : Int) (own1 : Nat → Nat) (h : OpAt w1 own1 ko o t O) : OPost w1 own1 ko o t { O with id := x } (w1.setCell ⟨o, 8, none⟩ (.int .i64 x)) := ⟨(h.set_id x).2, (h.set_id x).1⟩
set_option maxHeartbeats 4000000 in
theorem last_any (hA : Arena w own ka a V) (hT : Table w own kt t a T) (hO : OpAt w own ko o t O) (hat : ka ≠ kt) (hao : ka ≠ ko) (hto : kt ≠ ko) (hf : V.faults < 1000000000000000) :
    Calls Try.prog 24 #[.pointer (some ⟨o, 0, none⟩)] w fun e w' => (∃ r, e = .returned r) ∧ SPost ka kt ko a t o (lastV V T O) (lastT T O) (lastO V T O) w own w' := by
  have h0 := SPost.refl hA hT hO
  obtain ⟨mb, ⟨c0, c1, c2, c3, c4, c5, c6, c7, c8, c9⟩, ⟨f3, f4, f5, f6, f7, f8, f9⟩, ⟨t0, t1, t2, t3, t4⟩⟩ := h0.cells
  have HS := Lib.hid (fun n => h0.drewN n)
  clear hA hT hO h0
  by_cases h6 : O.next = 6
  · have HV := Lib.hid (show V.swap T.block O.cell O.first O.node = lastV V T O from (if_pos h6).symm)
    have HT := Lib.hid (show T = lastT T O by unfold lastT; rw [if_neg (by omega)])
    rw [h6] at c3
    go_enter Try.func24, Try.ntmps24
    go_wp2_with fail
    go_quiet (fail)
    have HSq := Lib.hid (HS.out nq)
    clear c0 c1 c2 c3 c4 c5 c6 c7 c8 c9 f3 f4 f5 f6 f7 f8 f9 t0 t1 t2 t3 t4 HS
    generalize w.drewN nq = wq at *
    obtain ⟨mb, ⟨c0, c1, c2, c3, c4, c5, c6, c7, c8, c9⟩, ⟨f3, f4, f5, f6, f7, f8, f9⟩, ⟨t0, t1, t2, t3, t4⟩⟩ := HSq.out.cells
    rw [h6] at c3
    go_wp2_with fail
    refine wp_region_plan2 [(true, 0, [17, 18, 19, 20, 21, 22]), (true, 1, [2, 3, 4, 17, 18, 19, 20, 21, 22]), (true, 2, [3, 4, 17, 18, 19, 20, 21, 22]), (true, 3, [4, 17, 18, 19, 20, 21, 22]), (true, 4, [17, 18, 19, 20, 21, 22]), (true, 5, [6, 7, 8, 17, 18, 19, 20, 21, 22]), (true, 6, [7, 8, 17, 18, 19, 20, 21, 22]), (true, 7, [8, 17, 18, 19, 20, 21, 22]), (true, 8, [17, 18, 19, 20, 21, 22]), (true, 9, [10, 11, 12, 17, 18, 19, 20, 21, 22]), (true, 10, [11, 12, 17, 18, 19, 20, 21, 22]), (true, 11, [12, 17, 18, 19, 20, 21, 22]), (true, 12, [17, 18, 19, 20, 21, 22]), (true, 13, [14, 15, 16, 17, 18, 19, 20, 21, 22]), (true, 14, [15, 16, 17, 18, 19, 20, 21, 22]), (true, 15, [16, 17, 18, 19, 20, 21, 22]), (true, 16, [17, 18, 19, 20, 21, 22]), (false, 17, []), (true, 18, [19, 20, 21, 22]), (true, 19, [21, 22]), (true, 20, [22]), (true, 21, [22]), (true, 22, [])] (by kernel_rfl) (by kernel_rfl) (fun _ _ _ d _ h => by cases d <;> exact h) ?_
    iterate 17 (refine plan_early rfl ?_; still_step; refine wpStill_nil ?_)
    refine plan_big rfl ?_
    have HSd := Lib.hid HSq.out.drew
    obtain ⟨ownd, hEd, hAd, hTd, hOd⟩ := HSd.out
    go_wp2_with fail
    refine (Swap_any hAd hf T.block O.cell O.first O.node).mono ?_
    rintro e w2 ⟨rfl, own2, hE2, hA2⟩
    have HS2 := Lib.hid (show SPost ka kt ko a t o (V.swap T.block O.cell O.first O.node) T O w own w2 from ⟨own2, hEd.trans (hE2.mono (by simp)), hA2, hTd.ext hE2 (fun h => hat h.symm), hOd.ext hE2 (fun h => hao h.symm)⟩)
    clear hEd hAd hTd hOd hE2 hA2 HSd HSq c0 c1 c2 c3 c4 c5 c6 c7 c8 c9 f3 f4 f5 f6 f7 f8 f9 t0 t1 t2 t3 t4
    obtain ⟨mb, ⟨c0, c1, c2, c3, c4, c5, c6, c7, c8, c9⟩, ⟨f3, f4, f5, f6, f7, f8, f9⟩, ⟨t0, t1, t2, t3, t4⟩⟩ := HS2.out.cells
    go_wp2_with fail
    iterate 5 (refine plan_early rfl ?_; still_step; refine wpStill_nil ?_)
    refine plan_nil ?_
    cases hok : V.swapOk T.block O.cell O.first with
    | true =>
      have HOO := Lib.hid (show { O with id := O.node, next := 9 } = lastO V T O by unfold lastO; rw [if_pos h6, if_pos hok])
      have HP := Lib.hid (((HS2.out.op hao hto (OPost.of_id O.node)).op hao hto (OPost.of_next 9)).as HV.out HT.out HOO.out)
      clear h6 hok
      go_wp2_with fail
      go_end0
      exact ⟨⟨_, rfl⟩, HP.out⟩
    | false =>
      have HOO := Lib.hid (show { O with next := 1 } = lastO V T O by unfold lastO; rw [if_pos h6, if_neg (by rw [hok]; decide)])
      have HP := Lib.hid ((HS2.out.op hao hto (OPost.of_next 1)).as HV.out HT.out HOO.out)
      clear h6 hok
      go_wp2_with fail
      refine bodyPost_ret (results_none rfl _ _ _) rfl ?_
      exact ⟨⟨_, rfl⟩, HP.out⟩
  by_cases h7 : O.next = 7
  · have HV := Lib.hid (show V.free O.node = lastV V T O by unfold lastV; rw [if_neg h6, if_pos h7])
    have HT := Lib.hid (show T.del O.node = lastT T O by unfold lastT; rw [if_pos h7])
    have HOO := Lib.hid (show { O with node := 0, next := 8 } = lastO V T O by unfold lastO; rw [if_neg h6, if_pos h7])
    rw [h7] at c3
    clear h6 h7
    go_enter Try.func24, Try.ntmps24
    go_wp2_with fail
    go_quiet (fail)
    have HSq := Lib.hid (HS.out nq)
    clear c0 c1 c2 c4 c5 c6 c7 c8 c9 f3 f4 f5 f6 f7 f8 f9 t0 t1 t2 t3 t4 HS
    have c3q : (w.drewN nq).cell? ⟨o, 3, none⟩ = some (.int .i64 7) := c3
    clear c3
    generalize w.drewN nq = wq at *
    obtain ⟨own1, hE1, hA1, ⟨mb, clock, L, hT1⟩, hO1⟩ := HSq.out
    obtain ⟨c0, c1, c2, c3, c4, c5, c6, c7, c8, c9⟩ := ten_y hO1
    obtain ⟨t0, t1, t2, t3, t4⟩ := five_t hT1.root
    have hX : Ext (fun _ => False) wq wq.drew own1 own1 := Ext.refl.drew
    obtain ⟨hTd, hEd, hdel⟩ := (hT1.ext hX (by simp)).del O.node
    have HS2 := Lib.hid (show SPost ka kt ko a t o V (T.del O.node) O w own _ from ⟨own1, hE1.drew.trans (hEd.mono (by simp)), (hA1.ext hX (by simp)).ext hEd hat, hTd, (hO1.ext hX (by simp)).ext hEd (fun h => hto h.symm)⟩)
    clear c3 hE1 hA1 hT1 hO1 hX hTd hEd HSq
    go_wp2_with fail
    refine wp_region_plan2 [(true, 0, [1, 2, 3, 8]), (true, 1, [2, 3, 8]), (true, 2, [3, 8]), (true, 3, [8]), (true, 4, [5, 6, 7, 8]), (true, 5, [6, 7, 8]), (true, 6, [7, 8]), (true, 7, [8]), (false, 8, [])] (by kernel_rfl) (by kernel_rfl) (fun _ _ _ d _ h => by cases d <;> exact h) ?_
    iterate 8 (refine plan_early rfl ?_; still_step; refine wpStill_nil ?_)
    refine plan_big rfl ?_
    go_wp2_with fail
    refine plan_nil ?_
    clear c0 c1 c2 c4 c5 c6 c7 c8 c9 t0 t1 t2 t3 t4 c3q hdel
    generalize PM.setObj wq.drew mb (.map (mobj (mdel (rawN L) O.node)) clock) = w2 at *
    obtain ⟨mb2, ⟨c0, c1, c2, c3, c4, c5, c6, c7, c8, c9⟩, ⟨f3, f4, f5, f6, f7, f8, f9⟩, ⟨t0, t1, t2, t3, t4⟩⟩ := HS2.out.cells
    obtain ⟨own2, hE2, hA2, hT2, hO2⟩ := HS2.out
    go_wp2_with fail
    refine (Free_any hA2 hf O.node).mono ?_
    rintro e w3 ⟨rfl, own3, hE3, hA3⟩
    have HS3 := Lib.hid (show SPost ka kt ko a t o (V.free O.node) (T.del O.node) O w own w3 from ⟨own3, hE2.trans (hE3.mono (by simp)), hA3, hT2.ext hE3 (fun h => hat h.symm), hO2.ext hE3 (fun h => hao h.symm)⟩)
    clear hE2 hA2 hT2 hO2 hE3 hA3 HS2 c0 c1 c2 c3 c4 c5 c6 c7 c8 c9 f3 f4 f5 f6 f7 f8 f9 t0 t1 t2 t3 t4
    obtain ⟨mb3, ⟨c0, c1, c2, c3, c4, c5, c6, c7, c8, c9⟩, ⟨f3, f4, f5, f6, f7, f8, f9⟩, ⟨t0, t1, t2, t3, t4⟩⟩ := HS3.out.cells
    have HP := Lib.hid (((HS3.out.op hao hto (OPost.of_node 0)).op hao hto (OPost.of_next 8)).as HV.out HT.out HOO.out)
    go_wp2_with fail
    go_end0
    exact ⟨⟨_, rfl⟩, HP.out⟩
  by_cases h8 : O.next = 8
  · have HV := Lib.hid (show V.add T.block 0 (-1) = lastV V T O by unfold lastV; rw [if_neg h6, if_neg h7, if_pos h8])
    have HT := Lib.hid (show T = lastT T O by unfold lastT; rw [if_neg h7])
    have HOO := Lib.hid (show { O with next := 9 } = lastO V T O by unfold lastO; rw [if_neg h6, if_neg h7, if_pos h8])
    rw [h8] at c3
    clear h6 h7 h8
    go_enter Try.func24, Try.ntmps24
    go_wp2_with fail
    go_quiet (fail)
    have HSq := Lib.hid (HS.out nq)
    have c3q : (w.drewN nq).cell? ⟨o, 3, none⟩ = some (.int .i64 8) := c3
    clear c0 c1 c2 c3 c4 c5 c6 c7 c8 c9 f3 f4 f5 f6 f7 f8 f9 t0 t1 t2 t3 t4 HS
    generalize w.drewN nq = wq at *
    obtain ⟨mb2, ⟨c0, c1, c2, c3, c4, c5, c6, c7, c8, c9⟩, ⟨f3, f4, f5, f6, f7, f8, f9⟩, ⟨t0, t1, t2, t3, t4⟩⟩ := HSq.out.cells
    obtain ⟨own2, hE2, hA2, hT2, hO2⟩ := HSq.out
    clear c3
    go_wp2_with fail
    refine (Add_any hA2 hf T.block 0 (-1)).mono ?_
    rintro e w3 ⟨rfl, own3, hE3, hA3⟩
    have HS3 := Lib.hid (show SPost ka kt ko a t o (V.add T.block 0 (-1)) T O w own w3 from ⟨own3, hE2.trans (hE3.mono (by simp)), hA3, hT2.ext hE3 (fun h => hat h.symm), hO2.ext hE3 (fun h => hao h.symm)⟩)
    clear hE2 hA2 hT2 hO2 hE3 hA3 HSq c0 c1 c2 c3q c4 c5 c6 c7 c8 c9 f3 f4 f5 f6 f7 f8 f9 t0 t1 t2 t3 t4
    obtain ⟨mb3, ⟨c0, c1, c2, c3, c4, c5, c6, c7, c8, c9⟩, ⟨f3, f4, f5, f6, f7, f8, f9⟩, ⟨t0, t1, t2, t3, t4⟩⟩ := HS3.out.cells
    have HP := Lib.hid ((HS3.out.op hao hto (OPost.of_next 9)).as HV.out HT.out HOO.out)
    go_wp2_with fail
    go_end0
    exact ⟨⟨_, rfl⟩, HP.out⟩
  · have HV := Lib.hid (show V = lastV V T O by unfold lastV; rw [if_neg h6, if_neg h7, if_neg h8])
    have HT := Lib.hid (show T = lastT T O by unfold lastT; rw [if_neg h7])
    have HOO := Lib.hid (show O = lastO V T O by unfold lastO; rw [if_neg h6, if_neg h7, if_neg h8])
    have b6 : (O.next == 6) = false := by simp [h6]
    have b7 : (O.next == 7) = false := by simp [h7]
    have b8 : (O.next == 8) = false := by simp [h8]
    clear h6 h7 h8
    go_enter Try.func24, Try.ntmps24
    go_wp2_with fail
    go_quiet (fail)
    have HSq := Lib.hid ((HS.out nq).as HV.out HT.out HOO.out)
    go_wp2_with fail
    go_end0
    exact ⟨⟨_, rfl⟩, HSq.out⟩
end
end Go.Proofs.Ytkfinhakhhiabaa
