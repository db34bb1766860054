/- Layer 5: the steps that make a change. Printed by gen_chainfin.py and gen_chain.py. -/
import Derived.Test.YtefhngbeodnldaaChainEnter
set_option maxRecDepth 20000
set_option linter.unusedVariables false
set_option linter.unusedSimpArgs false
namespace Go.Proofs.Ytefhngbeodnldaa
open Go.RowKit Go.PM
def chkO (V : AV) (B : BV) (O : CO) : CO := if V.val B.block (O.chain - 1) ≠ O.old then { O with next := 1 } else { O with done := true, err := 0, ok := false, stamp := O.st, values := [], next := 10 }
def bldO (V : AV) (O : CO) : CO := if V.allocErr (O.list.length : Nat) = 0 then { O with fresh := V.made + 1, count := 0, next := 6 } else O.fail (V.allocErr (O.list.length : Nat))
def wrtO (O : CO) : CO := { O with count := O.count + 1, next := if O.count + 1 = (O.list.length : Nat) then 7 else 6 }
def undO (O : CO) : CO := { O with fresh := 0, next := if O.err = 0 then 1 else 10 }
section
variable {w w1 w0 : World} {own : Nat → Nat} {q ko a y b o : Nat} {V V' : AV} {Y Y' : YV} {B : BV} {O O' : CO}
theorem CPost.op2 {own1 : Nat → Nat} {ev lw : Value} {w2 : World} (hq : q + 4 ≤ ko) (h1 : Ext (fun c => c = q + 1 ∨ c = q + 2 ∨ OpC ko c) w w1 own own1) (h2 : Arena w1 own1 (q + 1) a V) (h3 : Yard w1 own1 (q + 2) y a Y ev lw) (h4 : BaseAt w1 own1 (q + 3) b a y B)
    (h : OPost w1 own1 ko o b O' w2) : CPost q ko a y b o V Y B O' w own w2 := by
  obtain ⟨h6, h7⟩ := h
  exact ⟨own1, ev, lw, h1.trans (h6.mono (fun c hc => .inr (.inr hc))), h2.ext h6 (by unfold OpC; omega), h3.ext h6 (by unfold OpC; omega), h4.ext h6 (by unfold OpC; omega), h7⟩
end
section
variable {w w1 w0 : World} {own : Nat → Nat} {q ko a y b o : Nat} {V V' : AV} {Y Y' : YV} {B : BV} {O O' : CO}
set_option maxHeartbeats 4000000 in
theorem fin4_any (h0 : CPost q ko a y b o V Y B O w0 own w) (hq : q + 4 ≤ ko) (hf : V.faults < 1000000000000000) (hc1 : 1 ≤ O.chain) (hc2 : O.chain ≤ 1000) (hn : O.next = 4) :
    Calls Try.prog 28 #[.pointer (some ⟨o, 0, none⟩)] w fun e w' => (∃ r, e = .returned r) ∧ CPost q ko a y b o (V.touch B.block) (Y) B (chkO V B O) w0 own w' := by
  have HS := Lib.hid (fun n => h0.drewN n)
  obtain ⟨fa, fc, la, lc, va, vc, ⟨⟨c0, c1, c2, c3, c4, c5, c6, c7, c8, c9, c10, c11, c12, c13, c14, c15⟩, ⟨b0, b1, b2, b3⟩⟩, ⟨f5, f6, f7, f8, f9, f10, f11, f12, f13, f14, f15⟩, hol, hbl, hlist⟩ := h0.cells
  clear h0
  rw [hn] at c5
  go_enter Try.func28, Try.ntmps28
  go_wp2_with fail
  go_quiet (fail)
  have HSq := Lib.hid (HS.out nq)
  clear c0 c1 c2 c3 c4 c5 c6 c7 c8 c9 c10 c11 c12 c13 c14 c15 b0 b1 b2 b3 f5 f6 f7 f8 f9 f10 f11 f12 f13 f14 f15 hol hbl hlist HS
  generalize w.drewN nq = wq at *
  obtain ⟨fa, fc, la, lc, va, vc, ⟨⟨c0, c1, c2, c3, c4, c5, c6, c7, c8, c9, c10, c11, c12, c13, c14, c15⟩, ⟨b0, b1, b2, b3⟩⟩, ⟨f5, f6, f7, f8, f9, f10, f11, f12, f13, f14, f15⟩, hol, hbl, hlist⟩ := HSq.out.cells
  rw [hn] at c5
  have HSd := Lib.hid HSq.out.drew
  go_wp2_with fail
  refine wp_region_plan2 [(true, 0, [10, 11, 12, 13, 14, 15]), (true, 1, [2, 3, 4, 10, 11, 12, 13, 14, 15]), (true, 5, [6, 7, 8, 9, 10, 11, 12, 13, 14, 15]), (true, 6, [7, 8, 9, 10, 11, 12, 13, 14, 15]), (true, 7, [8, 9, 10, 11, 12, 13, 14, 15]), (true, 8, [9, 10, 11, 12, 13, 14, 15]), (true, 9, [10, 11, 12, 13, 14, 15]), (true, 2, [3, 4, 10, 11, 12, 13, 14, 15]), (true, 3, [4, 10, 11, 12, 13, 14, 15]), (true, 4, [10, 11, 12, 13, 14, 15]), (false, 10, []), (true, 11, [12, 13, 14, 15]), (true, 12, [14, 15]), (true, 13, [15]), (true, 14, [15]), (true, 15, [])] (by kernel_rfl) (by kernel_rfl) (fun _ _ _ d _ h => by cases d <;> exact h) ?_
  iterate 10 (refine plan_early rfl ?_; still_step; refine wpStill_nil ?_)
  refine plan_big rfl ?_
  obtain ⟨ownd, evd, lwd, hEd, hAd, hYd, hBd, hOd⟩ := HSd.out
  go_wp2_with fail
  refine (Load_any hAd hf B.block (O.chain - 1)).mono ?_
  rintro e w2 ⟨rfl, own2, hE2, hA2⟩
  have HS2 := Lib.hid (CPost.arena2 hq hEd hYd hBd hOd hE2 hA2)
  clear hEd hAd hYd hBd hOd hE2 hA2 HSd
  clear c0 c1 c2 c3 c4 c5 c6 c7 c8 c9 c10 c11 c12 c13 c14 c15 b0 b1 b2 b3 f5 f6 f7 f8 f9 f10 f11 f12 f13 f14 f15 hol hbl hlist HSq
  obtain ⟨fa, fc, la, lc, va, vc, ⟨⟨c0, c1, c2, c3, c4, c5, c6, c7, c8, c9, c10, c11, c12, c13, c14, c15⟩, ⟨b0, b1, b2, b3⟩⟩, ⟨f5, f6, f7, f8, f9, f10, f11, f12, f13, f14, f15⟩, hol, hbl, hlist⟩ := HS2.out.cells
  go_wp2_with fail
  iterate 5 (refine plan_early rfl ?_; still_step; refine wpStill_nil ?_)
  refine plan_nil ?_
  generalize hv : V.val B.block (O.chain - 1) = v at *
  by_cases hvo : v = O.old
  · have HOO := Lib.hid (show { O with done := true, err := 0, ok := false, stamp := O.st, values := [], next := 10 } = chkO V B O by unfold chkO; rw [if_neg (by rw [hv, hvo]; simp)])
    have hb1 : (v != O.old) = false := by simp [hvo]
    have HS3 := Lib.hid (HS2.out.op hq (op_done true))
    have HST := Lib.hid (fun (w9 : World) (h : CPost q ko a y b o (V.touch B.block) Y B { O with done := true } w0 own w9) => (by obtain ⟨_, _, _, _, _, _, _, h⟩ := h; exact CoStamp_any (O := { O with done := true }) h : Calls Try.prog 39 #[.pointer (some ⟨o, 0, none⟩)] w9 fun e w' => e = .returned (.int .i64 O.st) ∧ w' = w9))
    clear hv hvo
    go_wp2_with fail
    refine (HST.out _ HS3.out).mono ?_
    rintro e w3 ⟨rfl, rfl⟩
    have HP := Lib.hid (((HS3.out.op hq (op_ans 0 false O.st)).op hq (op_next 10)).as rfl rfl HOO.out)
    clear HOO HS3 HST HS2
    go_wp2_with fail
    go_end0
    exact ⟨⟨_, rfl⟩, HP.out⟩
  · have HOO := Lib.hid (show { O with next := 1 } = chkO V B O by unfold chkO; rw [if_pos (by rw [hv]; exact hvo)])
    have hb1 : (v != O.old) = true := by simp [hvo]
    have HP := Lib.hid ((HS2.out.op hq (op_next 1)).as rfl rfl HOO.out)
    clear hv hvo HOO HS2
    go_wp2_with fail
    refine bodyPost_ret (results_none rfl _ _ _) rfl ?_
    exact ⟨⟨_, rfl⟩, HP.out⟩
set_option maxHeartbeats 4000000 in
theorem fin5_any (h0 : CPost q ko a y b o V Y B O w0 own w) (hq : q + 4 ≤ ko) (hm : V.made < 1000000000000000) (hl : O.list.length ≤ 1000) (hn : O.next = 5) :
    Calls Try.prog 28 #[.pointer (some ⟨o, 0, none⟩)] w fun e w' => (∃ r, e = .returned r) ∧ CPost q ko a y b o (V.alloc O.list.length) (Y) B (bldO V O) w0 own w' := by
  have HS := Lib.hid (fun n => h0.drewN n)
  obtain ⟨fa, fc, la, lc, va, vc, ⟨⟨c0, c1, c2, c3, c4, c5, c6, c7, c8, c9, c10, c11, c12, c13, c14, c15⟩, ⟨b0, b1, b2, b3⟩⟩, ⟨f5, f6, f7, f8, f9, f10, f11, f12, f13, f14, f15⟩, hol, hbl, hlist⟩ := h0.cells
  clear h0
  rw [hn] at c5
  go_enter Try.func28, Try.ntmps28
  go_wp2_with fail
  go_quiet (fail)
  have HSq := Lib.hid (HS.out nq)
  clear c0 c1 c2 c3 c4 c5 c6 c7 c8 c9 c10 c11 c12 c13 c14 c15 b0 b1 b2 b3 f5 f6 f7 f8 f9 f10 f11 f12 f13 f14 f15 hol hbl hlist HS
  generalize w.drewN nq = wq at *
  obtain ⟨fa, fc, la, lc, va, vc, ⟨⟨c0, c1, c2, c3, c4, c5, c6, c7, c8, c9, c10, c11, c12, c13, c14, c15⟩, ⟨b0, b1, b2, b3⟩⟩, ⟨f5, f6, f7, f8, f9, f10, f11, f12, f13, f14, f15⟩, hol, hbl, hlist⟩ := HSq.out.cells
  rw [hn] at c5
  obtain ⟨ownd, evd, lwd, hEd, hAd, hYd, hBd, hOd⟩ := HSq.out
  go_wp2_with fail
  refine (Alloc_any hAd hm (O.list.length : Nat)).mono ?_
  rintro e w2 ⟨rfl, own2, hE2, hA2⟩
  have HS2 := Lib.hid (CPost.arena2 hq hEd hYd hBd hOd hE2 hA2)
  clear hEd hAd hYd hBd hOd hE2 hA2
  clear c0 c1 c2 c3 c4 c5 c6 c7 c8 c9 c10 c11 c12 c13 c14 c15 b0 b1 b2 b3 f5 f6 f7 f8 f9 f10 f11 f12 f13 f14 f15 hol hbl hlist HSq
  obtain ⟨fa, fc, la, lc, va, vc, ⟨⟨c0, c1, c2, c3, c4, c5, c6, c7, c8, c9, c10, c11, c12, c13, c14, c15⟩, ⟨b0, b1, b2, b3⟩⟩, ⟨f5, f6, f7, f8, f9, f10, f11, f12, f13, f14, f15⟩, hol, hbl, hlist⟩ := HS2.out.cells
  generalize hx : V.allocErr (O.list.length : Nat) = x at *
  by_cases hx0 : x = 0
  · have HOO := Lib.hid (show { O with fresh := V.made + 1, count := 0, next := 6 } = bldO V O by unfold bldO; rw [if_pos (hx.trans hx0)])
    have hb1 : (x != 0) = false := by simp [hx0]
    have HP := Lib.hid ((((HS2.out.op hq (op_fresh (V.made + 1))).op hq (op_count 0)).op hq (op_next 6)).as rfl rfl HOO.out)
    rw [if_pos hx0]
    clear hx hx0 HOO HS2
    go_wp2_with fail
    go_end0
    exact ⟨⟨_, rfl⟩, HP.out⟩
  · have HOO := Lib.hid (show O.fail x = bldO V O by unfold bldO; rw [if_neg (by rw [hx]; exact hx0), hx])
    have hb1 : (x != 0) = true := by simp [hx0]
    have HF := Lib.hid (fun (w9 : World) (own9 : Nat → Nat) (h : CAt w9 own9 ko o b O) => CoFail_any h x)
    rw [if_neg hx0]
    clear hx hx0
    obtain ⟨own3, ev3, lw3, hE3, hA3, hY3, hB3, hO3⟩ := HS2.out
    have HF2 := Lib.hid (HF.out _ _ hO3)
    clear HF
    go_wp2_with fail
    refine HF2.out.mono ?_
    rintro e w3 ⟨⟨r, rfl⟩, hp⟩
    have HP := Lib.hid ((CPost.op2 hq hE3 hA3 hY3 hB3 hp).as rfl rfl HOO.out)
    clear HOO HS2 HF2 hp hE3 hA3 hY3 hB3 hO3
    go_wp2_with fail
    refine bodyPost_ret (results_none rfl _ _ _) rfl ?_
    exact ⟨⟨_, rfl⟩, HP.out⟩
set_option maxHeartbeats 4000000 in
theorem fin6_any (h0 : CPost q ko a y b o V Y B O w0 own w) (hq : q + 4 ≤ ko) (hf : V.faults < 1000000000000000) (hc : 0 ≤ O.count) (hc2 : O.count < (O.list.length : Nat)) (hl : O.list.length ≤ 1000) (hn : O.next = 6) :
    Calls Try.prog 28 #[.pointer (some ⟨o, 0, none⟩)] w fun e w' => (∃ r, e = .returned r) ∧ CPost q ko a y b o (V.store O.fresh O.count (O.list.getD O.count.toNat 0)) (Y) B (wrtO O) w0 own w' := by
  have HS := Lib.hid (fun n => h0.drewN n)
  obtain ⟨fa, fc, la, lc, va, vc, ⟨⟨c0, c1, c2, c3, c4, c5, c6, c7, c8, c9, c10, c11, c12, c13, c14, c15⟩, ⟨b0, b1, b2, b3⟩⟩, ⟨f5, f6, f7, f8, f9, f10, f11, f12, f13, f14, f15⟩, hol, hbl, hlist⟩ := h0.cells
  clear h0
  rw [hn] at c5
  go_enter Try.func28, Try.ntmps28
  go_wp2_with fail
  go_quiet (fail)
  have HSq := Lib.hid (HS.out nq)
  clear c0 c1 c2 c3 c4 c5 c6 c7 c8 c9 c10 c11 c12 c13 c14 c15 b0 b1 b2 b3 f5 f6 f7 f8 f9 f10 f11 f12 f13 f14 f15 hol hbl hlist HS
  generalize w.drewN nq = wq at *
  obtain ⟨fa, fc, la, lc, va, vc, ⟨⟨c0, c1, c2, c3, c4, c5, c6, c7, c8, c9, c10, c11, c12, c13, c14, c15⟩, ⟨b0, b1, b2, b3⟩⟩, ⟨f5, f6, f7, f8, f9, f10, f11, f12, f13, f14, f15⟩, hol, hbl, hlist⟩ := HSq.out.cells
  rw [hn] at c5
  obtain ⟨i, hi⟩ := Int.eq_ofNat_of_zero_le hc
  have hil : i < O.list.length := by omega
  obtain ⟨g, rfl, hgl, hgc⟩ := hlist i hil
  have hgx : O.list.getD O.count.toNat 0 = O.list[i] := by rw [hi]; simp [hil]
  have HSd := Lib.hid HSq.out.drew
  clear hlist
  rw [hi] at c7 hc2
  have HW := Lib.hid (show { O with count := (i : Int) + 1, next := if (i : Int) + 1 = (O.list.length : Nat) then 7 else 6 } = wrtO O by unfold wrtO; rw [hi])
  have HWV := Lib.hid (show V.store O.fresh i O.list[i] = V.store O.fresh O.count (O.list.getD O.count.toNat 0) by rw [hgx, hi])
  have hlen : O.list.length ≤ 1000 := hl
  generalize hy : O.list[i] = x at *
  have HI := Lib.hid hi
  clear hy hgx hc hi
  go_wp2_with fail
  refine wp_region_plan2 [(true, 0, [19]), (true, 1, [2, 3, 4, 19]), (true, 2, [3, 4, 19]), (true, 3, [4, 19]), (true, 4, [19]), (true, 5, [6, 7, 8, 19]), (true, 6, [7, 8, 19]), (true, 7, [8, 19]), (true, 8, [19]), (true, 9, [10, 11, 12, 17, 18, 19]), (true, 10, [11, 12, 17, 18, 19]), (true, 11, [12, 17, 18, 19]), (true, 12, [17, 18, 19]), (true, 13, [14, 15, 16, 17, 18, 19]), (true, 14, [15, 16, 17, 18, 19]), (true, 15, [16, 17, 18, 19]), (true, 16, [17, 18, 19]), (true, 17, [18, 19]), (true, 18, [19]), (false, 19, [])] (by kernel_rfl) (by kernel_rfl) (fun _ _ _ d _ h => by cases d <;> exact h) ?_
  iterate 19 (refine plan_early rfl ?_; still_step; refine wpStill_nil ?_)
  refine plan_big rfl ?_
  obtain ⟨ownd, evd, lwd, hEd, hAd, hYd, hBd, hOd⟩ := HSd.out
  go_wp2_with fail
  refine (Store_any hAd hf O.fresh i x).mono ?_
  rintro e w2 ⟨rfl, own2, hE2, hA2⟩
  have HS2 := Lib.hid (CPost.arena2 hq hEd hYd hBd hOd hE2 hA2)
  clear hEd hAd hYd hBd hOd hE2 hA2 HSd hgc hgl
  clear c0 c1 c2 c3 c4 c5 c6 c7 c8 c9 c10 c11 c12 c13 c14 c15 b0 b1 b2 b3 f5 f6 f7 f8 f9 f10 f11 f12 f13 f14 f15 hol hbl HSq
  obtain ⟨fa, fc, la, lc, va, vc, ⟨⟨c0, c1, c2, c3, c4, c5, c6, c7, c8, c9, c10, c11, c12, c13, c14, c15⟩, ⟨b0, b1, b2, b3⟩⟩, ⟨f5, f6, f7, f8, f9, f10, f11, f12, f13, f14, f15⟩, hol, hbl, hlist⟩ := HS2.out.cells
  rw [hn] at c5
  rw [HI.out] at c7
  go_wp2_with fail
  refine plan_nil ?_
  have HS3 := Lib.hid (HS2.out.op hq (op_count ((i : Int) + 1)))
  go_wp2_with fail
  go_quiet (fail)
  have HS4 := Lib.hid (HS3.out.drewN nq)
  clear HS3
  by_cases he : (i : Int) + 1 = (O.list.length : Nat)
  · have HOO := Lib.hid (show { O with count := (i : Int) + 1, next := 7 } = wrtO O by rw [← HW.out, if_pos he])
    have hb1 : ((i : Int) + 1 == (O.list.length : Int)) = true := by simp [he]
    have HP := Lib.hid ((HS4.out.op hq (op_next 7)).as HWV.out rfl HOO.out)
    clear HOO HW he HS4
    go_wp2_with fail
    go_end0
    exact ⟨⟨_, rfl⟩, HP.out⟩
  · have HOO := Lib.hid (show { O with count := (i : Int) + 1 } = wrtO O by rw [← HW.out, if_neg he, ← hn])
    have hb1 : ((i : Int) + 1 == (O.list.length : Int)) = false := by simp [he]
    have HP := Lib.hid (HS4.out.as HWV.out rfl HOO.out)
    clear HOO HW he HS4
    go_wp2_with fail
    go_end0
    exact ⟨⟨_, rfl⟩, HP.out⟩
set_option maxHeartbeats 4000000 in
theorem fin8_any (h0 : CPost q ko a y b o V Y B O w0 own w) (hq : q + 4 ≤ ko) (hf : V.faults < 1000000000000000) (hn : O.next = 8) :
    Calls Try.prog 28 #[.pointer (some ⟨o, 0, none⟩)] w fun e w' => (∃ r, e = .returned r) ∧ CPost q ko a y b o (V.free O.fresh) (Y) B (undO O) w0 own w' := by
  have HS := Lib.hid (fun n => h0.drewN n)
  obtain ⟨fa, fc, la, lc, va, vc, ⟨⟨c0, c1, c2, c3, c4, c5, c6, c7, c8, c9, c10, c11, c12, c13, c14, c15⟩, ⟨b0, b1, b2, b3⟩⟩, ⟨f5, f6, f7, f8, f9, f10, f11, f12, f13, f14, f15⟩, hol, hbl, hlist⟩ := h0.cells
  clear h0
  rw [hn] at c5
  go_enter Try.func28, Try.ntmps28
  go_wp2_with fail
  go_quiet (fail)
  have HSq := Lib.hid (HS.out nq)
  clear c0 c1 c2 c3 c4 c5 c6 c7 c8 c9 c10 c11 c12 c13 c14 c15 b0 b1 b2 b3 f5 f6 f7 f8 f9 f10 f11 f12 f13 f14 f15 hol hbl hlist HS
  generalize w.drewN nq = wq at *
  obtain ⟨fa, fc, la, lc, va, vc, ⟨⟨c0, c1, c2, c3, c4, c5, c6, c7, c8, c9, c10, c11, c12, c13, c14, c15⟩, ⟨b0, b1, b2, b3⟩⟩, ⟨f5, f6, f7, f8, f9, f10, f11, f12, f13, f14, f15⟩, hol, hbl, hlist⟩ := HSq.out.cells
  rw [hn] at c5
  obtain ⟨ownd, evd, lwd, hEd, hAd, hYd, hBd, hOd⟩ := HSq.out
  go_wp2_with fail
  refine (Free_any hAd hf O.fresh).mono ?_
  rintro e w2 ⟨rfl, own2, hE2, hA2⟩
  have HS2 := Lib.hid (CPost.arena2 hq hEd hYd hBd hOd hE2 hA2)
  clear hEd hAd hYd hBd hOd hE2 hA2
  clear c0 c1 c2 c3 c4 c5 c6 c7 c8 c9 c10 c11 c12 c13 c14 c15 b0 b1 b2 b3 f5 f6 f7 f8 f9 f10 f11 f12 f13 f14 f15 hol hbl hlist HSq
  obtain ⟨fa, fc, la, lc, va, vc, ⟨⟨c0, c1, c2, c3, c4, c5, c6, c7, c8, c9, c10, c11, c12, c13, c14, c15⟩, ⟨b0, b1, b2, b3⟩⟩, ⟨f5, f6, f7, f8, f9, f10, f11, f12, f13, f14, f15⟩, hol, hbl, hlist⟩ := HS2.out.cells
  have HS3 := Lib.hid ((HS2.out.op hq (op_fresh 0)).op hq (op_next 10))
  by_cases he : O.err = 0
  · have HOO := Lib.hid (show { O with fresh := 0, next := 1 } = undO O by unfold undO; rw [if_pos he])
    have hb1 : (O.err == 0) = true := by simp [he]
    have HP := Lib.hid ((HS3.out.op hq (op_next 1)).as rfl rfl HOO.out)
    clear HOO he HS3 HS2
    go_wp2_with fail
    go_end0
    exact ⟨⟨_, rfl⟩, HP.out⟩
  · have HOO := Lib.hid (show { O with fresh := 0, next := 10 } = undO O by unfold undO; rw [if_neg he])
    have hb1 : (O.err == 0) = false := by simp [he]
    have HP := Lib.hid (HS3.out.as rfl rfl HOO.out)
    clear HOO he HS3 HS2
    go_wp2_with fail
    go_end0
    exact ⟨⟨_, rfl⟩, HP.out⟩
set_option maxHeartbeats 4000000 in
theorem fin9_any (h0 : CPost q ko a y b o V Y B O w0 own w) (hq : q + 4 ≤ ko) (hf : V.faults + Y.limbo.length < 800000000000000) (hlm : Y.limbo.length ≤ 3000000000000) (hnow : Y.now < 1000000000000000) (hn : O.next = 9) :
    Calls Try.prog 28 #[.pointer (some ⟨o, 0, none⟩)] w fun e w' => (∃ r, e = .returned r) ∧ CPost q ko a y b o (retireV Y V O.t O.old) (Y.retire V O.t O.old) B ({ O with next := 10 }) w0 own w' := by
  have HS := Lib.hid (fun n => h0.drewN n)
  obtain ⟨fa, fc, la, lc, va, vc, ⟨⟨c0, c1, c2, c3, c4, c5, c6, c7, c8, c9, c10, c11, c12, c13, c14, c15⟩, ⟨b0, b1, b2, b3⟩⟩, ⟨f5, f6, f7, f8, f9, f10, f11, f12, f13, f14, f15⟩, hol, hbl, hlist⟩ := h0.cells
  clear h0
  rw [hn] at c5
  go_enter Try.func28, Try.ntmps28
  go_wp2_with fail
  go_quiet (fail)
  have HSq := Lib.hid (HS.out nq)
  clear c0 c1 c2 c3 c4 c5 c6 c7 c8 c9 c10 c11 c12 c13 c14 c15 b0 b1 b2 b3 f5 f6 f7 f8 f9 f10 f11 f12 f13 f14 f15 hol hbl hlist HS
  generalize w.drewN nq = wq at *
  obtain ⟨fa, fc, la, lc, va, vc, ⟨⟨c0, c1, c2, c3, c4, c5, c6, c7, c8, c9, c10, c11, c12, c13, c14, c15⟩, ⟨b0, b1, b2, b3⟩⟩, ⟨f5, f6, f7, f8, f9, f10, f11, f12, f13, f14, f15⟩, hol, hbl, hlist⟩ := HSq.out.cells
  rw [hn] at c5
  have HSd := Lib.hid HSq.out.drew
  go_wp2_with fail
  refine wp_region_plan2 [(true, 0, [1, 2, 3, 12]), (true, 1, [2, 3, 12]), (true, 2, [3, 12]), (true, 3, [12]), (true, 4, [5, 6, 7, 12]), (true, 5, [6, 7, 12]), (true, 6, [7, 12]), (true, 7, [12]), (true, 8, [9, 10, 11, 12]), (true, 9, [10, 11, 12]), (true, 10, [11, 12]), (true, 11, [12]), (false, 12, [])] (by kernel_rfl) (by kernel_rfl) (fun _ _ _ d _ h => by cases d <;> exact h) ?_
  iterate 12 (refine plan_early rfl ?_; still_step; refine wpStill_nil ?_)
  refine plan_big rfl ?_
  obtain ⟨ownd, evd, lwd, hEd, hAd, hYd, hBd, hOd⟩ := HSd.out
  go_wp2_with fail
  refine (Retire_any hAd hYd (by omega) hf hlm hnow O.t O.old).mono ?_
  rintro e w2 ⟨lw2, own2, rfl, hE2, hA2, hY2⟩
  have HS2 := Lib.hid (CPost.both2 hq hEd hBd hOd hE2 hA2 hY2)
  clear hEd hAd hYd hBd hOd hE2 hA2 hY2 HSd
  clear c0 c1 c2 c3 c4 c5 c6 c7 c8 c9 c10 c11 c12 c13 c14 c15 b0 b1 b2 b3 f5 f6 f7 f8 f9 f10 f11 f12 f13 f14 f15 hol hbl hlist HSq
  obtain ⟨fa, fc, la, lc, va, vc, ⟨⟨c0, c1, c2, c3, c4, c5, c6, c7, c8, c9, c10, c11, c12, c13, c14, c15⟩, ⟨b0, b1, b2, b3⟩⟩, ⟨f5, f6, f7, f8, f9, f10, f11, f12, f13, f14, f15⟩, hol, hbl, hlist⟩ := HS2.out.cells
  have HP := Lib.hid (HS2.out.op hq (op_next 10))
  clear HS2
  go_wp2_with fail
  refine plan_nil ?_
  go_wp2_with fail
  go_end0
  exact ⟨⟨_, rfl⟩, HP.out⟩
set_option maxHeartbeats 4000000 in
theorem fin10_any (h0 : CPost q ko a y b o V Y B O w0 own w) (hq : q + 4 ≤ ko)  (hn : O.next = 10) :
    Calls Try.prog 28 #[.pointer (some ⟨o, 0, none⟩)] w fun e w' => (∃ r, e = .returned r) ∧ CPost q ko a y b o (V) (Y.leave O.t) B ({ O with next := 11 }) w0 own w' := by
  have HS := Lib.hid (fun n => h0.drewN n)
  obtain ⟨fa, fc, la, lc, va, vc, ⟨⟨c0, c1, c2, c3, c4, c5, c6, c7, c8, c9, c10, c11, c12, c13, c14, c15⟩, ⟨b0, b1, b2, b3⟩⟩, ⟨f5, f6, f7, f8, f9, f10, f11, f12, f13, f14, f15⟩, hol, hbl, hlist⟩ := h0.cells
  clear h0
  rw [hn] at c5
  go_enter Try.func28, Try.ntmps28
  go_wp2_with fail
  go_quiet (fail)
  have HSq := Lib.hid (HS.out nq)
  clear c0 c1 c2 c3 c4 c5 c6 c7 c8 c9 c10 c11 c12 c13 c14 c15 b0 b1 b2 b3 f5 f6 f7 f8 f9 f10 f11 f12 f13 f14 f15 hol hbl hlist HS
  generalize w.drewN nq = wq at *
  obtain ⟨fa, fc, la, lc, va, vc, ⟨⟨c0, c1, c2, c3, c4, c5, c6, c7, c8, c9, c10, c11, c12, c13, c14, c15⟩, ⟨b0, b1, b2, b3⟩⟩, ⟨f5, f6, f7, f8, f9, f10, f11, f12, f13, f14, f15⟩, hol, hbl, hlist⟩ := HSq.out.cells
  rw [hn] at c5
  have HSd := Lib.hid HSq.out.drew
  go_wp2_with fail
  refine wp_region_plan2 [(true, 0, [1, 2, 3, 8]), (true, 1, [2, 3, 8]), (true, 2, [3, 8]), (true, 3, [8]), (true, 4, [5, 6, 7, 8]), (true, 5, [6, 7, 8]), (true, 6, [7, 8]), (true, 7, [8]), (false, 8, [])] (by kernel_rfl) (by kernel_rfl) (fun _ _ _ d _ h => by cases d <;> exact h) ?_
  iterate 8 (refine plan_early rfl ?_; still_step; refine wpStill_nil ?_)
  refine plan_big rfl ?_
  obtain ⟨ownd, evd, lwd, hEd, hAd, hYd, hBd, hOd⟩ := HSd.out
  go_wp2_with fail
  refine (Leave_any hYd O.t).mono ?_
  rintro e w2 ⟨rfl, hE2, hY2⟩
  have HS2 := Lib.hid (CPost.yard2 hq hEd hAd hBd hOd hE2 hY2)
  clear hEd hAd hYd hBd hOd hE2 hY2 HSd
  clear c0 c1 c2 c3 c4 c5 c6 c7 c8 c9 c10 c11 c12 c13 c14 c15 b0 b1 b2 b3 f5 f6 f7 f8 f9 f10 f11 f12 f13 f14 f15 hol hbl hlist HSq
  obtain ⟨fa, fc, la, lc, va, vc, ⟨⟨c0, c1, c2, c3, c4, c5, c6, c7, c8, c9, c10, c11, c12, c13, c14, c15⟩, ⟨b0, b1, b2, b3⟩⟩, ⟨f5, f6, f7, f8, f9, f10, f11, f12, f13, f14, f15⟩, hol, hbl, hlist⟩ := HS2.out.cells
  have HP := Lib.hid (HS2.out.op hq (op_next 11))
  clear HS2
  go_wp2_with fail
  refine plan_nil ?_
  go_wp2_with fail
  go_end0
  exact ⟨⟨_, rfl⟩, HP.out⟩
set_option maxHeartbeats 4000000 in
theorem fin7_any (h0 : CPost q ko a y b o V Y B O w0 own w) (hq : q + 4 ≤ ko) (hf : V.faults < 1000000000000000) (hc1 : 1 ≤ O.chain) (hc2 : O.chain ≤ 1000) (hl : 0 < O.list.length) (hn : O.next = 7) :
    Calls Try.prog 28 #[.pointer (some ⟨o, 0, none⟩)] w fun e w' => (∃ r, e = .returned r) ∧ CPost q ko a y b o (V.swap B.block (O.chain - 1) O.old O.fresh) (Y) B (swapO V B O) w0 own w' := by
  have HS := Lib.hid (fun n => h0.drewN n)
  obtain ⟨fa, fc, la, lc, va, vc, ⟨⟨c0, c1, c2, c3, c4, c5, c6, c7, c8, c9, c10, c11, c12, c13, c14, c15⟩, ⟨b0, b1, b2, b3⟩⟩, ⟨f5, f6, f7, f8, f9, f10, f11, f12, f13, f14, f15⟩, hol, hbl, hlist⟩ := h0.cells
  clear h0
  rw [hn] at c5
  go_enter Try.func28, Try.ntmps28
  go_wp2_with fail
  go_quiet (fail)
  have HSq := Lib.hid (HS.out nq)
  clear c0 c1 c2 c3 c4 c5 c6 c7 c8 c9 c10 c11 c12 c13 c14 c15 b0 b1 b2 b3 f5 f6 f7 f8 f9 f10 f11 f12 f13 f14 f15 hol hbl hlist HS
  generalize w.drewN nq = wq at *
  obtain ⟨fa, fc, la, lc, va, vc, ⟨⟨c0, c1, c2, c3, c4, c5, c6, c7, c8, c9, c10, c11, c12, c13, c14, c15⟩, ⟨b0, b1, b2, b3⟩⟩, ⟨f5, f6, f7, f8, f9, f10, f11, f12, f13, f14, f15⟩, hol, hbl, hlist⟩ := HSq.out.cells
  rw [hn] at c5
  have HL := Lib.hid (CoSwap_any HSq.out hq hf hc1 hc2 hl)
  go_wp2_with fail
  refine HL.out.mono ?_
  rintro e w2 ⟨⟨r, rfl⟩, hp⟩
  have HP := Lib.hid hp
  clear hp HL HSq
  go_wp2_with fail
  go_end0
  exact ⟨⟨_, rfl⟩, HP.out⟩
end
end Go.Proofs.Ytefhngbeodnldaa