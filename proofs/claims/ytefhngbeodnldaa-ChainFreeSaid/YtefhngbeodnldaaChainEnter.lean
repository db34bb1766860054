/- Layer 5: how an operation goes inside. Printed by gen_chain.py from chainenter.in. -/
import Derived.Test.YtefhngbeodnldaaChainStep
set_option maxRecDepth 20000
set_option linter.unusedVariables false
set_option linter.unusedSimpArgs false
namespace Go.Proofs.Ytefhngbeodnldaa
open Go.RowKit Go.PM
def inB (B : BV) (O : CO) : Bool := decide (1 ≤ O.chain) && decide (O.chain ≤ B.chains)
def enterE (Y : YV) (B : BV) (O : CO) : Int := bif inB B O then Y.enterErr O.t else 1
def enterY (Y : YV) (B : BV) (O : CO) : YV := bif inB B O then Y.enter O.t else Y
def enterO (Y : YV) (B : BV) (O : CO) : CO := if enterE Y B O = 0 then { O with next := 1 } else { O with err := enterE Y B O, ok := false, stamp := 0, values := [], next := 11 }
section
variable {w w1 w0 : World} {own : Nat → Nat} {q ko a y b o : Nat} {V V' : AV} {Y Y' : YV} {B : BV} {O O' : CO}
theorem CPost.yard2 {ownd own2 : Nat → Nat} {ev lw : Value} {w2 : World} (hq : q + 4 ≤ ko) (h1 : Ext (fun c => c = q + 1 ∨ c = q + 2 ∨ OpC ko c) w w1 own ownd) (h2 : Arena w1 ownd (q + 1) a V) (h4 : BaseAt w1 ownd (q + 3) b a y B) (h5 : CAt w1 ownd ko o b O)
    (h7 : Ext (fun c => c = q + 2) w1 w2 ownd own2) (h8 : Yard w2 own2 (q + 2) y a Y' ev lw) : CPost q ko a y b o V Y' B O w own w2 :=
  ⟨own2, ev, lw, h1.trans (h7.mono (by simp)), h2.ext h7 (by omega), h8, h4.ext h7 (by omega), h5.ext h7 (by omega)⟩
theorem CPost.both2 {ownd own2 : Nat → Nat} {ev lw : Value} {w2 : World} (hq : q + 4 ≤ ko) (h1 : Ext (fun c => c = q + 1 ∨ c = q + 2 ∨ OpC ko c) w w1 own ownd) (h4 : BaseAt w1 ownd (q + 3) b a y B) (h5 : CAt w1 ownd ko o b O)
    (h7 : Ext (fun c => c = q + 1 ∨ c = q + 2) w1 w2 ownd own2) (h6 : Arena w2 own2 (q + 1) a V') (h8 : Yard w2 own2 (q + 2) y a Y' ev lw) : CPost q ko a y b o V' Y' B O w own w2 :=
  ⟨own2, ev, lw, h1.trans (h7.mono (by intro c h; rcases h with h | h; exact .inl h; exact .inr (.inl h))), h6, h8, h4.ext h7 (by omega), h5.ext h7 (by omega)⟩
set_option maxHeartbeats 4000000 in
theorem CoEnter_any (h0 : CPost q ko a y b o V Y B O w0 own w) (hq : q + 4 ≤ ko) (hn : Y.now < 1000000000000000) :
    Calls Try.prog 24 #[.pointer (some ⟨o, 0, none⟩)] w fun e w' => (∃ r, e = .returned r) ∧ CPost q ko a y b o V (enterY Y B O) B (enterO Y B O) w0 own w' := by
  have HS := Lib.hid (fun n => h0.drewN n)
  obtain ⟨fa, fc, la, lc, va, vc, ⟨⟨c0, c1, c2, c3, c4, c5, c6, c7, c8, c9, c10, c11, c12, c13, c14, c15⟩, ⟨b0, b1, b2, b3⟩⟩, ⟨f5, f6, f7, f8, f9, f10, f11, f12, f13, f14, f15⟩, hol, hbl, _⟩ := h0.cells
  clear h0
  by_cases hin : inB B O = true
  · have h1 : 1 ≤ O.chain := by unfold inB at hin; simp at hin; exact hin.1
    have h2 : O.chain ≤ B.chains := by unfold inB at hin; simp at hin; exact hin.2
    have HE := Lib.hid (show enterE Y B O = Y.enterErr O.t by unfold enterE; rw [hin]; rfl)
    have HY := Lib.hid (show Y.enter O.t = enterY Y B O by unfold enterY; rw [hin]; rfl)
    clear hin
    go_enter Try.func24, Try.ntmps24
    go_wp2_with fail
    go_quiet (fail)
    have HSq := Lib.hid (HS.out nq)
    clear c0 c1 c2 c3 c4 c5 c6 c7 c8 c9 c10 c11 c12 c13 c14 c15 b0 b1 b2 b3 f5 f6 f7 f8 f9 f10 f11 f12 f13 f14 f15 hol hbl HS
    generalize w.drewN nq = wq at *
    have HSd := Lib.hid HSq.out.drew
    obtain ⟨fa, fc, la, lc, va, vc, ⟨⟨c0, c1, c2, c3, c4, c5, c6, c7, c8, c9, c10, c11, c12, c13, c14, c15⟩, ⟨b0, b1, b2, b3⟩⟩, ⟨f5, f6, f7, f8, f9, f10, f11, f12, f13, f14, f15⟩, hol, hbl, _⟩ := HSq.out.cells
    go_wp2_with fail
    refine wp_region_plan2 [(true, 0, [1, 2, 3, 4, 5, 6, 11, 12]), (true, 1, [2, 3, 4, 5, 6, 11, 12]), (true, 2, [3, 4, 5, 6, 11, 12]), (true, 3, [4, 5, 6, 11, 12]), (true, 4, [5, 6, 11, 12]), (true, 5, [6, 11, 12]), (true, 6, [11, 12]), (true, 7, [8, 9, 10, 11, 12]), (true, 8, [9, 10, 11, 12]), (true, 9, [10, 11, 12]), (true, 10, [11, 12]), (false, 11, []), (true, 12, [])] (by kernel_rfl) (by kernel_rfl) (fun _ _ _ d _ h => by cases d <;> exact h) ?_
    iterate 11 (refine plan_early rfl ?_; still_step; refine wpStill_nil ?_)
    refine plan_big rfl ?_
    obtain ⟨ownd, evd, lwd, hEd, hAd, hYd, hBd, hOd⟩ := HSd.out
    go_wp2_with fail
    refine (Enter_any hYd hn O.t).mono ?_
    rintro e w2 ⟨rfl, hE2, hY2⟩
    have HS2 := Lib.hid (CPost.yard2 hq hEd hAd hBd hOd hE2 hY2)
    clear hEd hAd hYd hBd hOd hE2 hY2 HSd HSq c0 c1 c2 c3 c4 c5 c6 c7 c8 c9 c10 c11 c12 c13 c14 c15 b0 b1 b2 b3 f5 f6 f7 f8 f9 f10 f11 f12 f13 f14 f15 hol hbl
    obtain ⟨fa, fc, la, lc, va, vc, ⟨⟨c0, c1, c2, c3, c4, c5, c6, c7, c8, c9, c10, c11, c12, c13, c14, c15⟩, ⟨b0, b1, b2, b3⟩⟩, ⟨f5, f6, f7, f8, f9, f10, f11, f12, f13, f14, f15⟩, hol, hbl, _⟩ := HS2.out.cells
    go_wp2_with fail
    iterate 1 (refine plan_early rfl ?_; still_step; refine wpStill_nil ?_)
    refine plan_nil ?_
    generalize hx : Y.enterErr O.t = x at *
    clear hx
    by_cases hx0 : x = 0
    · have HOO := Lib.hid (show { O with next := 1 } = enterO Y B O by unfold enterO; rw [if_pos (HE.out.trans hx0)])
      have HP := Lib.hid ((HS2.out.op hq (op_next 1)).as rfl HY.out HOO.out)
      have hb1 : (x != 0) = false := by simp [hx0]
      clear HOO hx0
      go_wp2_with fail
      go_end0
      exact ⟨⟨_, rfl⟩, HP.out⟩
    · have HOO := Lib.hid (show { O with err := x, ok := false, stamp := 0, values := [], next := 11 } = enterO Y B O by unfold enterO; rw [if_neg (by rw [HE.out]; exact hx0), HE.out])
      have HP := Lib.hid (((((HS2.out.op hq (op_next 1)).op hq (op_ans x false 0)).op hq (op_next 11)).as rfl HY.out HOO.out))
      have hb1 : (x != 0) = true := by simp [hx0]
      clear HOO hx0
      go_wp2_with fail
      go_end0
      exact ⟨⟨_, rfl⟩, HP.out⟩
  · have HE := Lib.hid (show enterE Y B O = 1 by unfold enterE; rw [Bool.not_eq_true] at hin; rw [hin]; rfl)
    have HY := Lib.hid (show Y = enterY Y B O by unfold enterY; rw [Bool.not_eq_true] at hin; rw [hin]; rfl)
    have HOO := Lib.hid (show { O with err := 1, ok := false, stamp := 0, values := [], next := 11 } = enterO Y B O by unfold enterO; rw [if_neg (by rw [HE.out]; decide), HE.out])
    have hno : ¬ (1 ≤ O.chain ∧ O.chain ≤ B.chains) := fun h => hin (by unfold inB; simp [h.1, h.2])
    clear hin
    by_cases h1 : 1 ≤ O.chain
    · have h2 : B.chains < O.chain := by omega
      clear hno
      go_enter Try.func24, Try.ntmps24
      go_wp2_with fail
      go_quiet (fail)
      have HSq := Lib.hid (HS.out nq)
      clear c0 c1 c2 c3 c4 c5 c6 c7 c8 c9 c10 c11 c12 c13 c14 c15 b0 b1 b2 b3 f5 f6 f7 f8 f9 f10 f11 f12 f13 f14 f15 hol hbl HS
      generalize w.drewN nq = wq at *
      have HP := Lib.hid (((((HSq.out.op hq (op_next 1)).op hq (op_ans 1 false 0)).op hq (op_next 11)).as rfl HY.out HOO.out))
      obtain ⟨fa, fc, la, lc, va, vc, ⟨⟨c0, c1, c2, c3, c4, c5, c6, c7, c8, c9, c10, c11, c12, c13, c14, c15⟩, ⟨b0, b1, b2, b3⟩⟩, ⟨f5, f6, f7, f8, f9, f10, f11, f12, f13, f14, f15⟩, hol, hbl, _⟩ := HSq.out.cells
      clear HOO HSq
      go_wp2_with fail
      go_end0
      exact ⟨⟨_, rfl⟩, HP.out⟩
    · have h2 : decide (1 ≤ O.chain) = false := by simp; omega
      clear hno
      go_enter Try.func24, Try.ntmps24
      go_wp2_with fail
      have HSq := Lib.hid (HS.out 1)
      refine wp_region_plan5 [.early 0 [1, 2, 3, 4, 5, 6, 7, 8, 9, 10, 11, 12, 13, 14, 15, 16, 17, 18], .early 1 [2, 3, 4, 5, 6, 7, 8, 9, 10, 11, 12, 13, 14, 15, 16, 17, 18], .early 2 [3, 4, 5, 6, 7, 8, 9, 10, 11, 12, 13, 14, 15, 16, 17, 18], .early 3 [4, 5, 6, 7, 8, 9, 10, 11, 12, 13, 14, 15, 16, 17, 18], .early 4 [5, 6, 7, 8, 9, 10, 11, 12, 13, 14, 15, 16, 17, 18], .early 5 [6, 7, 8, 9, 10, 11, 12, 13, 14, 15, 16, 17, 18], .early 6 [7, 8, 9, 17, 18], .early 7 [8, 9, 17, 18], .early 8 [9, 17, 18], .early 9 [17, 18], .early 10 [11, 12, 13, 14, 15, 16, 17, 18], .early 11 [12, 13, 14, 15, 16, 17, 18], .early 12 [13, 14, 15, 16, 17, 18], .early 13 [14, 15, 16, 17, 18], .early 14 [15, 16, 17, 18], .early 15 [16, 17, 18], .early 16 [17, 18], .early 17 [18], .early 18 []] 19 (CCells a y b o B O (.slice fa O.found.length fc) (.slice la O.list.length lc) (.slice va O.values.length vc)) (by kernel_rfl) (by kernel_rfl) (fun _ _ _ d _ h => by cases d <;> exact h) (⟨⟨c0, c1, c2, c3, c4, c5, c6, c7, c8, c9, c10, c11, c12, c13, c14, c15⟩, ⟨b0, b1, b2, b3⟩⟩) ?_
      clear c0 c1 c2 c3 c4 c5 c6 c7 c8 c9 c10 c11 c12 c13 c14 c15 b0 b1 b2 b3 f5 f6 f7 f8 f9 f10 f11 f12 f13 f14 f15 hol hbl HS
      iterate 19
        apply plan5_early
        case hi => rfl
        case h =>
          intro w9 hf
          obtain ⟨⟨c0, c1, c2, c3, c4, c5, c6, c7, c8, c9, c10, c11, c12, c13, c14, c15⟩, ⟨b0, b1, b2, b3⟩⟩ := hf
          still_step
          exact wpStill_nil rfl
      refine plan5_nil ?_
      have HSq2 : Hid (CPost q ko a y b o V Y B O w0 own w.drew) := HSq
      clear HSq
      have HSq := HSq2
      clear HSq2
      generalize w.drew = wq at *
      have HP := Lib.hid (((((HSq.out.op hq (op_next 1)).op hq (op_ans 1 false 0)).op hq (op_next 11)).as rfl HY.out HOO.out))
      obtain ⟨fa, fc, la, lc, va, vc, ⟨⟨c0, c1, c2, c3, c4, c5, c6, c7, c8, c9, c10, c11, c12, c13, c14, c15⟩, ⟨b0, b1, b2, b3⟩⟩, ⟨f5, f6, f7, f8, f9, f10, f11, f12, f13, f14, f15⟩, hol, hbl, _⟩ := HSq.out.cells
      clear HOO HSq
      go_wp2_with fail
      go_end0
      exact ⟨⟨_, rfl⟩, HP.out⟩
end
end Go.Proofs.Ytefhngbeodnldaa
