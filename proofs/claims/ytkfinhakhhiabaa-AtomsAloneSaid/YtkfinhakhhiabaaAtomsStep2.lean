/- Layer 3: a step of an operation, in each state. -/
import Derived.Test.YtkfinhakhhiabaaAtomsStep
set_option maxRecDepth 20000
set_option linter.unusedVariables false
set_option linter.unusedSimpArgs false
namespace Go.Proofs.Ytkfinhakhhiabaa
open Go.RowKit Go.PM

def stepV (V : AV) (T : TV) (O : OV) : AV :=
  if O.next = 0 then V else if O.next = 1 then V.touch T.block else if O.next = 2 then lookV V T O else if O.next = 3 then V.add T.block 0 1 else if O.next = 4 then V.alloc 1 else if O.next = 5 then V.store O.node 0 O.first else lastV V T O
def stepT (V : AV) (T : TV) (O : OV) : TV :=
  if O.next = 0 then T else if O.next = 1 then T else if O.next = 2 then T else if O.next = 3 then T else if O.next = 4 then (if V.allocErr 1 = 0 then T.put (V.made + 1) O.name else T) else if O.next = 5 then T else lastT T O
def step0 (O : OV) : OV := if 64 < O.name.size then OV.fin { O with next := 1 } 0 2 else { O with next := 1 }
def step3 (V : AV) (T : TV) (O : OV) : OV := if T.most < V.addVal T.block 0 1 then OV.fin { O with reserved := true, next := 4 } 0 3 else { O with reserved := true, next := 4 }
def step4 (V : AV) (O : OV) : OV := if V.allocErr 1 = 0 then { O with next := 5, node := V.made + 1 } else OV.fin { O with next := 5 } 0 (V.allocErr 1)
def stepO (V : AV) (T : TV) (O : OV) : OV :=
  if O.next = 0 then step0 O else if O.next = 1 then { O with first := V.val T.block O.cell, at_ := V.val T.block O.cell, next := 2 } else if O.next = 2 then lookO V T O else if O.next = 3 then step3 V T O
  else if O.next = 4 then step4 V O else if O.next = 5 then { O with next := 6 } else lastO V T O
section
variable {w : World} {own : Nat → Nat} {ka kt ko a t o : Nat} {V : AV} {T : TV} {O : OV}
/-- The call's end. -/
def StPost (ka kt ko a t o : Nat) (V' : AV) (T' : TV) (O' : OV) (w : World) (own : Nat → Nat) (e : Ending) (w' : World) : Prop := e = .returned (.bool (O'.next == 9)) ∧ SPost ka kt ko a t o V' T' O' w own w'
theorem SPost.ne {w1 : World} (h : SPost ka kt ko a t o V T O w own w1) (hto : kt ≠ ko) : t ≠ o ∧ o ≠ t := by
  obtain ⟨own1, _, _, ⟨_, _, _, h3⟩, h4⟩ := h
  have h5 : Blk w1 own1 ko o _ := h4
  exact ⟨h3.root.ne h5 hto, Ne.symm (h3.root.ne h5 hto)⟩
theorem SPost.over {w1 : World} (h : SPost ka kt ko a t o V T O w own w1) : Calls Try.prog 11 #[.pointer (some ⟨o, 0, none⟩)] w1 fun e w' => e = .returned (.bool (O.next == 9)) ∧ w' = w1 := by
  obtain ⟨own1, _, _, _, h4⟩ := h
  exact Over_any h4

set_option maxHeartbeats 4000000 in
theorem Step_0 (hA : Arena w own ka a V) (hT : Table w own kt t a T) (hO : OpAt w own ko o t O) (hat : ka ≠ kt) (hao : ka ≠ ko) (hto : kt ≠ ko) (hf : V.faults < 1000000000000000) (hm : V.made < 1000000000000000) (hn : O.next = 0) :
    Calls Try.prog 9 #[.pointer (some ⟨o, 0, none⟩)] w (StPost ka kt ko a t o (stepV V T O) (stepT V T O) (stepO V T O) w own) := by
  have HV := Lib.hid (show V = stepV V T O by unfold stepV; rw [if_pos hn])
  have HT := Lib.hid (show T = stepT V T O by unfold stepT; rw [if_pos hn])
  by_cases hs : 64 < O.name.size
  · have hs2 : (64 : Int) < O.name.size := by omega
    have HOO := Lib.hid (show OV.fin { O with next := 1 } 0 2 = stepO V T O by unfold stepO step0; rw [if_pos hn, if_pos hs])
    have h0 := SPost.refl hA hT hO
    obtain ⟨mb, ⟨c0, c1, c2, c3, c4, c5, c6, c7, c8, c9⟩, ⟨f3, f4, f5, f6, f7, f8, f9⟩, ⟨t0, t1, t2, t3, t4⟩⟩ := h0.cells
    have HS := Lib.hid (fun n => h0.drewN n)
    rw [hn] at c3
    clear hA hT hO h0
    go_enter Try.func9, Try.ntmps9
    go_wp2_with fail
    go_quiet (fail)
    have HSq := Lib.hid (HS.out nq)
    have c3q : (w.drewN nq).cell? ⟨o, 3, none⟩ = some (.int .i64 0) := c3
    clear c0 c1 c2 c3 c4 c5 c6 c7 c8 c9 f3 f4 f5 f6 f7 f8 f9 t0 t1 t2 t3 t4 HS
    generalize w.drewN nq = wq at *
    obtain ⟨mbq, ⟨c0, c1, c2, c3, c4, c5, c6, c7, c8, c9⟩, ⟨f3, f4, f5, f6, f7, f8, f9⟩, ⟨t0, t1, t2, t3, t4⟩⟩ := HSq.out.cells
    have HS1 := Lib.hid (HSq.out.op hao hto (OPost.of_next 1))
    clear HSq c3q
    obtain ⟨own1, hE1, hA1, hT1, hO1⟩ := HS1.out
    have HF := Lib.hid (end_any hO1 0 2)
    clear hO1 HS1
    go_wp2_with fail
    refine HF.out.mono ?_
    rintro e w8 ⟨⟨r, rfl⟩, hp⟩
    have HP := Lib.hid (SPost.as (w := w) (own := own) ⟨own1, hE1.trans (hp.1.mono (by simp)), hA1.ext hp.1 hao, hT1.ext hp.1 hto, hp.2⟩ HV.out HT.out HOO.out)
    clear hE1 hA1 hT1 hp HF
    go_wp2_with fail
    refine HP.out.over.mono ?_
    rintro e w9 ⟨rfl, rfl⟩
    go_wp2_with fail
    go_ret
    exact ⟨rfl, HP.out⟩
  · have hs2 : ¬ (64 : Int) < O.name.size := by omega
    have HOO := Lib.hid (show { O with next := 1 } = stepO V T O by unfold stepO step0; rw [if_pos hn, if_neg hs])
    have h0 := SPost.refl hA hT hO
    obtain ⟨mb, ⟨c0, c1, c2, c3, c4, c5, c6, c7, c8, c9⟩, ⟨f3, f4, f5, f6, f7, f8, f9⟩, ⟨t0, t1, t2, t3, t4⟩⟩ := h0.cells
    have HS := Lib.hid (fun n => h0.drewN n)
    rw [hn] at c3
    clear hA hT hO h0
    go_enter Try.func9, Try.ntmps9
    go_wp2_with fail
    go_quiet (fail)
    have HSq := Lib.hid (HS.out nq)
    have c3q : (w.drewN nq).cell? ⟨o, 3, none⟩ = some (.int .i64 0) := c3
    clear c0 c1 c2 c3 c4 c5 c6 c7 c8 c9 f3 f4 f5 f6 f7 f8 f9 t0 t1 t2 t3 t4 HS
    generalize w.drewN nq = wq at *
    obtain ⟨mbq, ⟨c0, c1, c2, c3, c4, c5, c6, c7, c8, c9⟩, ⟨f3, f4, f5, f6, f7, f8, f9⟩, ⟨t0, t1, t2, t3, t4⟩⟩ := HSq.out.cells
    have HP := Lib.hid ((HSq.out.op hao hto (OPost.of_next 1)).as HV.out HT.out HOO.out)
    clear HSq c3q
    go_wp2_with fail
    refine HP.out.over.mono ?_
    rintro e w9 ⟨rfl, rfl⟩
    go_wp2_with fail
    go_ret
    exact ⟨rfl, HP.out⟩

set_option maxHeartbeats 4000000 in
theorem Step_1 (hA : Arena w own ka a V) (hT : Table w own kt t a T) (hO : OpAt w own ko o t O) (hat : ka ≠ kt) (hao : ka ≠ ko) (hto : kt ≠ ko) (hf : V.faults < 1000000000000000) (hm : V.made < 1000000000000000) (hn : O.next = 1) :
    Calls Try.prog 9 #[.pointer (some ⟨o, 0, none⟩)] w (StPost ka kt ko a t o (stepV V T O) (stepT V T O) (stepO V T O) w own) := by
  have HV := Lib.hid (show V.touch T.block = stepV V T O by unfold stepV; rw [if_neg (by omega), if_pos hn])
  have HT := Lib.hid (show T = stepT V T O by unfold stepT; rw [if_neg (by omega), if_pos hn])
  have HOO := Lib.hid (show { O with first := V.val T.block O.cell, at_ := V.val T.block O.cell, next := 2 } = stepO V T O by unfold stepO; rw [if_neg (by omega), if_pos hn])
  have h0 := SPost.refl hA hT hO
  obtain ⟨mb, ⟨c0, c1, c2, c3, c4, c5, c6, c7, c8, c9⟩, ⟨f3, f4, f5, f6, f7, f8, f9⟩, ⟨t0, t1, t2, t3, t4⟩⟩ := h0.cells
  have HS := Lib.hid (fun n => h0.drewN n)
  rw [hn] at c3
  clear hA hT hO h0
  go_enter Try.func9, Try.ntmps9
  go_wp2_with fail
  go_quiet (fail)
  have HSq := Lib.hid (HS.out nq)
  have c3q : (w.drewN nq).cell? ⟨o, 3, none⟩ = some (.int .i64 1) := c3
  clear c0 c1 c2 c3 c4 c5 c6 c7 c8 c9 f3 f4 f5 f6 f7 f8 f9 t0 t1 t2 t3 t4 HS
  generalize w.drewN nq = wq at *
  obtain ⟨mbq, ⟨c0, c1, c2, c3, c4, c5, c6, c7, c8, c9⟩, ⟨f3, f4, f5, f6, f7, f8, f9⟩, ⟨t0, t1, t2, t3, t4⟩⟩ := HSq.out.cells
  clear c3
  have HSd := Lib.hid HSq.out.drew
  go_wp2_with fail
  refine wp_region_plan2 [(true, 0, [14, 15, 16]), (true, 1, [10, 11, 12, 13, 14, 15, 16]), (true, 2, [3, 4, 5, 10, 11, 12, 13, 14, 15, 16]), (true, 3, [4, 5, 10, 11, 12, 13, 14, 15, 16]), (true, 4, [5, 10, 11, 12, 13, 14, 15, 16]), (true, 5, [10, 11, 12, 13, 14, 15, 16]), (true, 6, [7, 8, 9, 10, 11, 12, 13, 14, 15, 16]), (true, 7, [8, 9, 10, 11, 12, 13, 14, 15, 16]), (true, 8, [9, 10, 11, 12, 13, 14, 15, 16]), (true, 9, [10, 11, 12, 13, 14, 15, 16]), (false, 10, []), (true, 11, [12, 13, 14, 15, 16]), (true, 12, [14, 15, 16]), (true, 13, []), (true, 14, [15, 16]), (true, 15, [16]), (false, 16, [])] (by kernel_rfl) (by kernel_rfl) (fun _ _ _ d _ h => by cases d <;> exact h) ?_
  iterate 10 (refine plan_early rfl ?_; still_step; refine wpStill_nil ?_)
  refine plan_big rfl ?_
  obtain ⟨own1, hE1, hA1, hT1, hO1⟩ := HSd.out
  go_wp2_with fail
  refine (Load_any hA1 hf T.block O.cell).mono ?_
  rintro e w2 ⟨rfl, own2, hE2, hA2⟩
  have HS2 := Lib.hid (show SPost ka kt ko a t o (V.touch T.block) T O w own w2 from ⟨own2, hE1.trans (hE2.mono (by simp)), hA2, hT1.ext hE2 (fun h => hat h.symm), hO1.ext hE2 (fun h => hao h.symm)⟩)
  clear c3q HSq hE1 hA1 hT1 hO1 hE2 hA2 HSd c0 c1 c2 c4 c5 c6 c7 c8 c9 f3 f4 f5 f6 f7 f8 f9 t0 t1 t2 t3 t4
  obtain ⟨mbw2, ⟨c0, c1, c2, c3, c4, c5, c6, c7, c8, c9⟩, ⟨f3, f4, f5, f6, f7, f8, f9⟩, ⟨t0, t1, t2, t3, t4⟩⟩ := HS2.out.cells
  have HS3 := Lib.hid (HS2.out.op hao hto (OPost.of_first (V.val T.block O.cell)))
  have HP := Lib.hid (((HS3.out.op hao hto (OPost.of_at (V.val T.block O.cell))).op hao hto (OPost.of_next 2)).as HV.out HT.out HOO.out)
  clear HS2
  go_wp2_with fail
  iterate 5 (refine plan_early rfl ?_; still_step; refine wpStill_nil ?_)
  refine plan_big rfl ?_
  go_wp2_with fail
  refine plan_nil ?_
  go_wp2_with fail
  refine HP.out.over.mono ?_
  rintro e w9 ⟨rfl, rfl⟩
  go_wp2_with fail
  go_ret
  exact ⟨rfl, HP.out⟩

set_option maxHeartbeats 4000000 in
theorem Step_2 (hA : Arena w own ka a V) (hT : Table w own kt t a T) (hO : OpAt w own ko o t O) (hat : ka ≠ kt) (hao : ka ≠ ko) (hto : kt ≠ ko) (hf : V.faults < 1000000000000000) (hm : V.made < 1000000000000000) (hn : O.next = 2) :
    Calls Try.prog 9 #[.pointer (some ⟨o, 0, none⟩)] w (StPost ka kt ko a t o (stepV V T O) (stepT V T O) (stepO V T O) w own) := by
  have HV := Lib.hid (show lookV V T O = stepV V T O by unfold stepV; rw [if_neg (by omega), if_neg (by omega), if_pos hn])
  have HT := Lib.hid (show T = stepT V T O by unfold stepT; rw [if_neg (by omega), if_neg (by omega), if_pos hn])
  have HOO := Lib.hid (show lookO V T O = stepO V T O by unfold stepO; rw [if_neg (by omega), if_neg (by omega), if_pos hn])
  have h0 := SPost.refl hA hT hO
  obtain ⟨mb, ⟨c0, c1, c2, c3, c4, c5, c6, c7, c8, c9⟩, ⟨f3, f4, f5, f6, f7, f8, f9⟩, ⟨t0, t1, t2, t3, t4⟩⟩ := h0.cells
  have HS := Lib.hid (fun n => h0.drewN n)
  rw [hn] at c3
  clear hA hT hO h0
  go_enter Try.func9, Try.ntmps9
  go_wp2_with fail
  go_quiet (fail)
  have HSq := Lib.hid (HS.out nq)
  have c3q : (w.drewN nq).cell? ⟨o, 3, none⟩ = some (.int .i64 2) := c3
  clear c0 c1 c2 c3 c4 c5 c6 c7 c8 c9 f3 f4 f5 f6 f7 f8 f9 t0 t1 t2 t3 t4 HS
  generalize w.drewN nq = wq at *
  obtain ⟨own1, hE1, hA1, hT1, hO1⟩ := HSq.out
  have HL := Lib.hid (look_any hA1 hT1 hO1 hao (fun h => hat h.symm) hf)
  clear hA1 hO1 HSq
  skip --obtain ⟨mbq, ⟨c0, c1, c2, c3, c4, c5, c6, c7, c8, c9⟩, ⟨f3, f4, f5, f6, f7, f8, f9⟩, ⟨t0, t1, t2, t3, t4⟩⟩ := HC.out
  go_wp2_with fail
  refine HL.out.mono ?_
  rintro e w8 ⟨r, own8, rfl, hE8, hA8, hO8⟩
  have HP := Lib.hid (SPost.as (w := w) (own := own) ⟨own8, hE1.trans (hE8.mono (by intro c h; rcases h with h | h <;> simp [h])), hA8, hT1.ext hE8 (fun h => by rcases h with h | h; exact hat h.symm; exact hto h), hO8⟩ HV.out HT.out HOO.out)
  clear hE1 hT1 hE8 hA8 hO8 HL
  go_wp2_with fail
  refine HP.out.over.mono ?_
  rintro e w9 ⟨rfl, rfl⟩
  go_wp2_with fail
  go_ret
  exact ⟨rfl, HP.out⟩

set_option maxHeartbeats 4000000 in
theorem Step_3 (hA : Arena w own ka a V) (hT : Table w own kt t a T) (hO : OpAt w own ko o t O) (hat : ka ≠ kt) (hao : ka ≠ ko) (hto : kt ≠ ko) (hf : V.faults < 1000000000000000) (hm : V.made < 1000000000000000) (hn : O.next = 3) :
    Calls Try.prog 9 #[.pointer (some ⟨o, 0, none⟩)] w (StPost ka kt ko a t o (stepV V T O) (stepT V T O) (stepO V T O) w own) := by
  have HV := Lib.hid (show V.add T.block 0 1 = stepV V T O by unfold stepV; rw [if_neg (by omega), if_neg (by omega), if_neg (by omega), if_pos hn])
  have HT := Lib.hid (show T = stepT V T O by unfold stepT; rw [if_neg (by omega), if_neg (by omega), if_neg (by omega), if_pos hn])
  have h0 := SPost.refl hA hT hO
  obtain ⟨mb, ⟨c0, c1, c2, c3, c4, c5, c6, c7, c8, c9⟩, ⟨f3, f4, f5, f6, f7, f8, f9⟩, ⟨t0, t1, t2, t3, t4⟩⟩ := h0.cells
  have HS := Lib.hid (fun n => h0.drewN n)
  rw [hn] at c3
  clear hA hT hO h0
  go_enter Try.func9, Try.ntmps9
  go_wp2_with fail
  go_quiet (fail)
  have HSq := Lib.hid (HS.out nq)
  have c3q : (w.drewN nq).cell? ⟨o, 3, none⟩ = some (.int .i64 3) := c3
  clear c0 c1 c2 c3 c4 c5 c6 c7 c8 c9 f3 f4 f5 f6 f7 f8 f9 t0 t1 t2 t3 t4 HS
  generalize w.drewN nq = wq at *
  obtain ⟨mbq, ⟨c0, c1, c2, c3, c4, c5, c6, c7, c8, c9⟩, ⟨f3, f4, f5, f6, f7, f8, f9⟩, ⟨t0, t1, t2, t3, t4⟩⟩ := HSq.out.cells
  clear c3
  obtain ⟨own1, hE1, hA1, hT1, hO1⟩ := HSq.out
  go_wp2_with fail
  refine (Add_any hA1 hf T.block 0 1).mono ?_
  rintro e w2 ⟨rfl, own2, hE2, hA2⟩
  have HS2 := Lib.hid (show SPost ka kt ko a t o (V.add T.block 0 1) T O w own w2 from ⟨own2, hE1.trans (hE2.mono (by simp)), hA2, hT1.ext hE2 (fun h => hat h.symm), hO1.ext hE2 (fun h => hao h.symm)⟩)
  clear c3q hE1 hA1 hT1 hO1 hE2 hA2 HSq c0 c1 c2 c4 c5 c6 c7 c8 c9 f3 f4 f5 f6 f7 f8 f9 t0 t1 t2 t3 t4
  obtain ⟨mbw2, ⟨c0, c1, c2, c3, c4, c5, c6, c7, c8, c9⟩, ⟨f3, f4, f5, f6, f7, f8, f9⟩, ⟨t0, t1, t2, t3, t4⟩⟩ := HS2.out.cells
  obtain ⟨hne1, hne2⟩ := HS2.out.ne hto
  have HS3 := Lib.hid ((HS2.out.op hao hto (OPost.of_res true)).op hao hto (OPost.of_next 4))
  clear HS2
  by_cases hs : T.most < V.addVal T.block 0 1
  · have HOO := Lib.hid (show OV.fin { O with reserved := true, next := 4 } 0 3 = stepO V T O by unfold stepO step3; rw [if_neg (by omega), if_neg (by omega), if_neg (by omega), if_pos hn, if_pos hs])
    obtain ⟨own1, hE1, hA1, hT1, hO1⟩ := HS3.out
    have HF := Lib.hid (end_any hO1 0 3)
    clear hO1 HS3
    go_wp2_with fail
    refine HF.out.mono ?_
    rintro e w8 ⟨⟨r, rfl⟩, hp⟩
    have HP := Lib.hid (SPost.as (w := w) (own := own) ⟨own1, hE1.trans (hp.1.mono (by simp)), hA1.ext hp.1 hao, hT1.ext hp.1 hto, hp.2⟩ HV.out HT.out HOO.out)
    clear hE1 hA1 hT1 hp HF
    go_wp2_with fail
    refine HP.out.over.mono ?_
    rintro e w9 ⟨rfl, rfl⟩
    go_wp2_with fail
    go_ret
    exact ⟨rfl, HP.out⟩
  · have HOO := Lib.hid (show { O with reserved := true, next := 4 } = stepO V T O by unfold stepO step3; rw [if_neg (by omega), if_neg (by omega), if_neg (by omega), if_pos hn, if_neg hs])
    have HP := Lib.hid (HS3.out.as HV.out HT.out HOO.out)
    clear HS3
    go_wp2_with fail
    refine HP.out.over.mono ?_
    rintro e w9 ⟨rfl, rfl⟩
    go_wp2_with fail
    go_ret
    exact ⟨rfl, HP.out⟩

set_option maxHeartbeats 4000000 in
theorem Step_4 (hA : Arena w own ka a V) (hT : Table w own kt t a T) (hO : OpAt w own ko o t O) (hat : ka ≠ kt) (hao : ka ≠ ko) (hto : kt ≠ ko) (hf : V.faults < 1000000000000000) (hm : V.made < 1000000000000000) (hn : O.next = 4) :
    Calls Try.prog 9 #[.pointer (some ⟨o, 0, none⟩)] w (StPost ka kt ko a t o (stepV V T O) (stepT V T O) (stepO V T O) w own) := by
  have HV := Lib.hid (show V.alloc 1 = stepV V T O by unfold stepV; rw [if_neg (by omega), if_neg (by omega), if_neg (by omega), if_neg (by omega), if_pos hn])
  have h0 := SPost.refl hA hT hO
  obtain ⟨mb, ⟨c0, c1, c2, c3, c4, c5, c6, c7, c8, c9⟩, ⟨f3, f4, f5, f6, f7, f8, f9⟩, ⟨t0, t1, t2, t3, t4⟩⟩ := h0.cells
  have HS := Lib.hid (fun n => h0.drewN n)
  rw [hn] at c3
  clear hA hT hO h0
  go_enter Try.func9, Try.ntmps9
  go_wp2_with fail
  go_quiet (fail)
  have HSq := Lib.hid (HS.out nq)
  have c3q : (w.drewN nq).cell? ⟨o, 3, none⟩ = some (.int .i64 4) := c3
  clear c0 c1 c2 c3 c4 c5 c6 c7 c8 c9 f3 f4 f5 f6 f7 f8 f9 t0 t1 t2 t3 t4 HS
  generalize w.drewN nq = wq at *
  obtain ⟨mbq, ⟨c0, c1, c2, c3, c4, c5, c6, c7, c8, c9⟩, ⟨f3, f4, f5, f6, f7, f8, f9⟩, ⟨t0, t1, t2, t3, t4⟩⟩ := HSq.out.cells
  clear c3
  obtain ⟨own1, hE1, hA1, hT1, hO1⟩ := HSq.out
  go_wp2_with fail
  refine (Alloc_any hA1 hm 1).mono ?_
  rintro e w2 ⟨rfl, own2, hE2, hA2⟩
  have HS2 := Lib.hid (show SPost ka kt ko a t o (V.alloc 1) T O w own w2 from ⟨own2, hE1.trans (hE2.mono (by simp)), hA2, hT1.ext hE2 (fun h => hat h.symm), hO1.ext hE2 (fun h => hao h.symm)⟩)
  clear c3q hE1 hA1 hT1 hO1 hE2 hA2 HSq c0 c1 c2 c4 c5 c6 c7 c8 c9 f3 f4 f5 f6 f7 f8 f9 t0 t1 t2 t3 t4
  obtain ⟨mbw2, ⟨c0, c1, c2, c3, c4, c5, c6, c7, c8, c9⟩, ⟨f3, f4, f5, f6, f7, f8, f9⟩, ⟨t0, t1, t2, t3, t4⟩⟩ := HS2.out.cells
  have HS3 := Lib.hid (HS2.out.op hao hto (OPost.of_next 5))
  clear HS2
  by_cases hs : V.allocErr 1 = 0
  · have HT := Lib.hid (show T.put (V.made + 1) O.name = stepT V T O by unfold stepT; rw [if_neg (by omega), if_neg (by omega), if_neg (by omega), if_neg (by omega), if_pos hn, if_pos hs])
    have HOO := Lib.hid (show { O with next := 5, node := V.made + 1 } = stepO V T O by unfold stepO step4; rw [if_neg (by omega), if_neg (by omega), if_neg (by omega), if_neg (by omega), if_pos hn, if_pos hs])
    have b0 : (V.allocErr 1 != 0) = false := by simp [hs]
    rw [if_pos hs]
    have HS4 := Lib.hid (HS3.out.op hao hto (OPost.of_node (V.made + 1)))
    clear HS3
    go_wp2_with fail
    generalize ((w2.setCell ⟨o, 3, none⟩ (.int .i64 5)).setCell ⟨o, 7, none⟩ (.int .i64 (V.made + 1))) = w4 at *
    clear c0 c1 c2 c3 c4 c5 c6 c7 c8 c9 f3 f4 f5 f6 f7 f8 f9 t0 t1 t2 t3 t4
    obtain ⟨own1, hE1, hA1, ⟨mb, clock, L, hT1⟩, hO1⟩ := HS4.out
    obtain ⟨c0, c1, c2, c3, c4, c5, c6, c7, c8, c9⟩ := ten_y hO1
    obtain ⟨t0, t1, t2, t3, t4⟩ := five_t hT1.root
    have hX : Ext (fun _ => False) w4 w4.drew own1 own1 := Ext.refl.drew
    obtain ⟨cn, hTd, hEd, hput⟩ := (hT1.ext hX (by simp)).put (V.made + 1) O.name
    have HP := Lib.hid (SPost.as (w := w) (own := own) ⟨own1, hE1.drew.trans (hEd.mono (by simp)), (hA1.ext hX (by simp)).ext hEd hat, hTd, (hO1.ext hX (by simp)).ext hEd (fun h => hto h.symm)⟩ HV.out HT.out HOO.out)
    clear hE1 hA1 hT1 hO1 hX hTd hEd HS4
    refine wp_region_plan2 [(true, 0, [1, 2, 3, 9]), (true, 1, [2, 3, 9]), (true, 2, [3, 9]), (true, 3, [9]), (true, 4, [9]), (true, 5, [6, 7, 8, 9]), (true, 6, [7, 8, 9]), (true, 7, [8, 9]), (true, 8, [9]), (false, 9, [])] (by kernel_rfl) (by kernel_rfl) (fun _ _ _ d _ h => by cases d <;> exact h) ?_
    iterate 9 (refine plan_early rfl ?_; still_step; refine wpStill_nil ?_)
    refine plan_big rfl ?_
    go_wp2_with fail
    refine plan_nil ?_
    clear hput
    go_wp2_with fail
    refine HP.out.over.mono ?_
    rintro e w9 ⟨rfl, rfl⟩
    go_wp2_with fail
    go_ret
    exact ⟨rfl, HP.out⟩
  · have HT := Lib.hid (show T = stepT V T O by unfold stepT; rw [if_neg (by omega), if_neg (by omega), if_neg (by omega), if_neg (by omega), if_pos hn, if_neg hs])
    have HOO := Lib.hid (show OV.fin { O with next := 5 } 0 (V.allocErr 1) = stepO V T O by unfold stepO step4; rw [if_neg (by omega), if_neg (by omega), if_neg (by omega), if_neg (by omega), if_pos hn, if_neg hs])
    have b0 : (V.allocErr 1 != 0) = true := by simp [hs]
    rw [if_neg hs]
    obtain ⟨own1, hE1, hA1, hT1, hO1⟩ := HS3.out
    have HF := Lib.hid (end_any hO1 0 (V.allocErr 1))
    clear hO1 HS3
    go_wp2_with fail
    refine HF.out.mono ?_
    rintro e w8 ⟨⟨r, rfl⟩, hp⟩
    have HP := Lib.hid (SPost.as (w := w) (own := own) ⟨own1, hE1.trans (hp.1.mono (by simp)), hA1.ext hp.1 hao, hT1.ext hp.1 hto, hp.2⟩ HV.out HT.out HOO.out)
    clear hE1 hA1 hT1 hp HF
    go_wp2_with fail
    refine HP.out.over.mono ?_
    rintro e w9 ⟨rfl, rfl⟩
    go_wp2_with fail
    go_ret
    exact ⟨rfl, HP.out⟩

set_option maxHeartbeats 4000000 in
theorem Step_5 (hA : Arena w own ka a V) (hT : Table w own kt t a T) (hO : OpAt w own ko o t O) (hat : ka ≠ kt) (hao : ka ≠ ko) (hto : kt ≠ ko) (hf : V.faults < 1000000000000000) (hm : V.made < 1000000000000000) (hn : O.next = 5) :
    Calls Try.prog 9 #[.pointer (some ⟨o, 0, none⟩)] w (StPost ka kt ko a t o (stepV V T O) (stepT V T O) (stepO V T O) w own) := by
  have HV := Lib.hid (show V.store O.node 0 O.first = stepV V T O by unfold stepV; rw [if_neg (by omega), if_neg (by omega), if_neg (by omega), if_neg (by omega), if_neg (by omega), if_pos hn])
  have HT := Lib.hid (show T = stepT V T O by unfold stepT; rw [if_neg (by omega), if_neg (by omega), if_neg (by omega), if_neg (by omega), if_neg (by omega), if_pos hn])
  have HOO := Lib.hid (show { O with next := 6 } = stepO V T O by unfold stepO; rw [if_neg (by omega), if_neg (by omega), if_neg (by omega), if_neg (by omega), if_neg (by omega), if_pos hn])
  have h0 := SPost.refl hA hT hO
  obtain ⟨mb, ⟨c0, c1, c2, c3, c4, c5, c6, c7, c8, c9⟩, ⟨f3, f4, f5, f6, f7, f8, f9⟩, ⟨t0, t1, t2, t3, t4⟩⟩ := h0.cells
  have HS := Lib.hid (fun n => h0.drewN n)
  rw [hn] at c3
  clear hA hT hO h0
  go_enter Try.func9, Try.ntmps9
  go_wp2_with fail
  go_quiet (fail)
  have HSq := Lib.hid (HS.out nq)
  have c3q : (w.drewN nq).cell? ⟨o, 3, none⟩ = some (.int .i64 5) := c3
  clear c0 c1 c2 c3 c4 c5 c6 c7 c8 c9 f3 f4 f5 f6 f7 f8 f9 t0 t1 t2 t3 t4 HS
  generalize w.drewN nq = wq at *
  obtain ⟨mbq, ⟨c0, c1, c2, c3, c4, c5, c6, c7, c8, c9⟩, ⟨f3, f4, f5, f6, f7, f8, f9⟩, ⟨t0, t1, t2, t3, t4⟩⟩ := HSq.out.cells
  clear c3
  have HSd := Lib.hid HSq.out.drew
  go_wp2_with fail
  refine wp_region_plan2 [(true, 0, [9]), (true, 1, [2, 3, 4, 9]), (true, 2, [3, 4, 9]), (true, 3, [4, 9]), (true, 4, [9]), (true, 5, [6, 7, 8, 9]), (true, 6, [7, 8, 9]), (true, 7, [8, 9]), (true, 8, [9]), (false, 9, [])] (by kernel_rfl) (by kernel_rfl) (fun _ _ _ d _ h => by cases d <;> exact h) ?_
  iterate 9 (refine plan_early rfl ?_; still_step; refine wpStill_nil ?_)
  refine plan_big rfl ?_
  obtain ⟨own1, hE1, hA1, hT1, hO1⟩ := HSd.out
  go_wp2_with fail
  refine (Store_any hA1 hf O.node 0 O.first).mono ?_
  rintro e w2 ⟨rfl, own2, hE2, hA2⟩
  have HS2 := Lib.hid (show SPost ka kt ko a t o (V.store O.node 0 O.first) T O w own w2 from ⟨own2, hE1.trans (hE2.mono (by simp)), hA2, hT1.ext hE2 (fun h => hat h.symm), hO1.ext hE2 (fun h => hao h.symm)⟩)
  clear c3q HSq hE1 hA1 hT1 hO1 hE2 hA2 HSd c0 c1 c2 c4 c5 c6 c7 c8 c9 f3 f4 f5 f6 f7 f8 f9 t0 t1 t2 t3 t4
  obtain ⟨mbw2, ⟨c0, c1, c2, c3, c4, c5, c6, c7, c8, c9⟩, ⟨f3, f4, f5, f6, f7, f8, f9⟩, ⟨t0, t1, t2, t3, t4⟩⟩ := HS2.out.cells
  have HP := Lib.hid ((HS2.out.op hao hto (OPost.of_next 6)).as HV.out HT.out HOO.out)
  clear HS2
  go_wp2_with fail
  refine plan_nil ?_
  go_wp2_with fail
  refine HP.out.over.mono ?_
  rintro e w9 ⟨rfl, rfl⟩
  go_wp2_with fail
  go_ret
  exact ⟨rfl, HP.out⟩

set_option maxHeartbeats 4000000 in
theorem Step_rest (hA : Arena w own ka a V) (hT : Table w own kt t a T) (hO : OpAt w own ko o t O) (hat : ka ≠ kt) (hao : ka ≠ ko) (hto : kt ≠ ko) (hf : V.faults < 1000000000000000) (hm : V.made < 1000000000000000)
    (h0 : O.next ≠ 0) (h1 : O.next ≠ 1) (h2 : O.next ≠ 2) (h3 : O.next ≠ 3) (h4 : O.next ≠ 4) (h5 : O.next ≠ 5) :
    Calls Try.prog 9 #[.pointer (some ⟨o, 0, none⟩)] w (StPost ka kt ko a t o (stepV V T O) (stepT V T O) (stepO V T O) w own) := by
  have HV := Lib.hid (show lastV V T O = stepV V T O by unfold stepV; rw [if_neg h0, if_neg h1, if_neg h2, if_neg h3, if_neg h4, if_neg h5])
  have HT := Lib.hid (show lastT T O = stepT V T O by unfold stepT; rw [if_neg h0, if_neg h1, if_neg h2, if_neg h3, if_neg h4, if_neg h5])
  have HOO := Lib.hid (show lastO V T O = stepO V T O by unfold stepO; rw [if_neg h0, if_neg h1, if_neg h2, if_neg h3, if_neg h4, if_neg h5])
  have b0 : (O.next == 0) = false := by simp [h0]
  have b1 : (O.next == 1) = false := by simp [h1]
  have b2 : (O.next == 2) = false := by simp [h2]
  have b3 : (O.next == 3) = false := by simp [h3]
  have b4 : (O.next == 4) = false := by simp [h4]
  have b5 : (O.next == 5) = false := by simp [h5]
  clear h0 h1 h2 h3 h4 h5
  have h0 := SPost.refl hA hT hO
  obtain ⟨mb, ⟨c0, c1, c2, c3, c4, c5, c6, c7, c8, c9⟩, ⟨f3, f4, f5, f6, f7, f8, f9⟩, ⟨t0, t1, t2, t3, t4⟩⟩ := h0.cells
  have HS := Lib.hid (fun n => h0.drewN n)
  clear hA hT hO h0
  go_enter Try.func9, Try.ntmps9
  go_wp2_with fail
  go_quiet (fail)
  have HSq := Lib.hid (HS.out nq)
  clear c0 c1 c2 c3 c4 c5 c6 c7 c8 c9 f3 f4 f5 f6 f7 f8 f9 t0 t1 t2 t3 t4 HS
  generalize w.drewN nq = wq at *
  obtain ⟨own1, hE1, hA1, hT1, hO1⟩ := HSq.out
  have HL := Lib.hid (last_any hA1 hT1 hO1 hat hao hto hf)
  clear hA1 hT1
  obtain ⟨c0, c1, c2, c3, c4, c5, c6, c7, c8, c9⟩ := ten_y hO1
  clear hO1
  go_wp2_with fail
  refine HL.out.mono ?_
  rintro e w8 ⟨⟨r, rfl⟩, hp⟩
  have HP := Lib.hid (SPost.as (w := w) (own := own) (by obtain ⟨own8, hE8, hA8, hT8, hO8⟩ := hp; exact ⟨own8, hE1.trans hE8, hA8, hT8, hO8⟩) HV.out HT.out HOO.out)
  clear hE1 hp HL
  go_wp2_with fail
  refine HP.out.over.mono ?_
  rintro e w9 ⟨rfl, rfl⟩
  go_wp2_with fail
  go_ret
  exact ⟨rfl, HP.out⟩

theorem Step_any (hA : Arena w own ka a V) (hT : Table w own kt t a T) (hO : OpAt w own ko o t O) (hat : ka ≠ kt) (hao : ka ≠ ko) (hto : kt ≠ ko) (hf : V.faults < 1000000000000000) (hm : V.made < 1000000000000000) :
    Calls Try.prog 9 #[.pointer (some ⟨o, 0, none⟩)] w (StPost ka kt ko a t o (stepV V T O) (stepT V T O) (stepO V T O) w own) := by
  by_cases h0 : O.next = 0
  · exact Step_0 hA hT hO hat hao hto hf hm h0
  by_cases h1 : O.next = 1
  · exact Step_1 hA hT hO hat hao hto hf hm h1
  by_cases h2 : O.next = 2
  · exact Step_2 hA hT hO hat hao hto hf hm h2
  by_cases h3 : O.next = 3
  · exact Step_3 hA hT hO hat hao hto hf hm h3
  by_cases h4 : O.next = 4
  · exact Step_4 hA hT hO hat hao hto hf hm h4
  by_cases h5 : O.next = 5
  · exact Step_5 hA hT hO hat hao hto hf hm h5
  exact Step_rest hA hT hO hat hao hto hf hm h0 h1 h2 h3 h4 h5
end
end Go.Proofs.Ytkfinhakhhiabaa
