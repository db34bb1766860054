/- Layer 5: a step of an operation, phase by phase. Printed by gen_chainall.py and gen_chain.py. -/
import Derived.Test.YtefhngbeodnldaaChainDec
set_option maxRecDepth 20000
set_option linter.unusedVariables false
set_option linter.unusedSimpArgs false
namespace Go.Proofs.Ytefhngbeodnldaa
open Go.RowKit Go.PM
def rootO (V : AV) (B : BV) (O : CO) : CO := { O with old := V.val B.block (O.chain - 1), found := [], count := 0, next := 2, done := if O.what = 3 then true else O.done }
def sizeO (V : AV) (O : CO) : CO := { O with count := V.size O.old, next := 3 }
def readO (V : AV) (O : CO) : CO := { O with found := O.found ++ [V.val O.old (O.found.length : Nat)] }
def root2V (V : AV) (Y : YV) (B : BV) (O : CO) : AV := if (rootO V B O).old = 0 then decV (V.touch B.block) Y (rootO V B O) else V.touch B.block
def root2Y (V : AV) (Y : YV) (B : BV) (O : CO) : YV := if (rootO V B O).old = 0 then decY Y (rootO V B O) else Y
def root2O (V : AV) (Y : YV) (B : BV) (O : CO) : CO := if (rootO V B O).old = 0 then decO (V.touch B.block) Y (rootO V B O) else rootO V B O
def read2V (V : AV) (Y : YV) (O : CO) : AV := if ((readO V O).found.length : Int) = O.count then decV (V.touch O.old) Y (readO V O) else V.touch O.old
def read2Y (V : AV) (Y : YV) (O : CO) : YV := if ((readO V O).found.length : Int) = O.count then decY Y (readO V O) else Y
def read2O (V : AV) (Y : YV) (O : CO) : CO := if ((readO V O).found.length : Int) = O.count then decO (V.touch O.old) Y (readO V O) else readO V O
section
variable {w w1 w0 : World} {own : Nat → Nat} {q ko a y b o : Nat} {V V' : AV} {Y Y' : YV} {B : BV} {O O' : CO}
theorem CPost.over (h : CPost q ko a y b o V Y B O w0 own w1) : Calls Try.prog 11 #[.pointer (some ⟨o, 0, none⟩)] w1 fun e w' => e = .returned (.bool (O.next == 11)) ∧ w' = w1 := by
  obtain ⟨_, _, _, _, _, _, _, h⟩ := h
  exact CoOver_any h
theorem op_found0 (own1 : Nat → Nat) (h : CAt w1 own1 ko o b O) : OPost w1 own1 ko o b { O with found := [] } (w1.setCell ⟨o, 8, none⟩ (.slice none 0 0)) := by
  obtain ⟨fv, lv, vv, h⟩ := h
  exact ⟨extO Ext.refl (fun _ => by rw [h.box.col]; exact ⟨by omega, by omega⟩) _ _, _, _, _, h.set 8 (.slice none 0 0) (O' := { O with found := [] }) (fv' := .slice none 0 0) (lv' := lv) (vv' := vv) rfl (Row.nil _ _ _ _ _) h.list h.values⟩
theorem touch_faults (V : AV) (b : Int) : (V.touch b).faults ≤ V.faults + 1 := by
  unfold AV.touch AV.fault
  split
  · exact Int.le_refl _
  · omega
theorem CX.opinF {ow1 ow2 : Nat → Nat} {w2 : World} {fv lv vv : Value} (h5 : CX w1 ow1 ko o b O fv lv vv) (h4 : BaseAt w1 ow1 (q + 3) b a y B) (hq : q + 4 ≤ ko) (hE : Ext (fun c => c = ko + 1) w1 w2 ow1 ow2) : OpIn q ko a y b o B O fv lv vv ow2 w2 := by
  have hb := h5.box.ext hE (by omega)
  exact ⟨⟨⟨hb.cell 0, hb.cell 1, hb.cell 2, hb.cell 3, hb.cell 4, hb.cell 5, hb.cell 6, hb.cell 7, hb.cell 8, hb.cell 9, hb.cell 10, hb.cell 11, hb.cell 12, hb.cell 13, hb.cell 14, hb.cell 15⟩, (BaseAt.y (h4.ext hE (by omega)))⟩, ⟨hb.free 5, hb.free 6, hb.free 7, hb.free 8, hb.free 9, hb.free 10, hb.free 11, hb.free 12, hb.free 13, hb.free 14, hb.free 15⟩, hb.lt⟩
theorem CPost.putF {own1 own2 : Nat → Nat} {ev lw fv lv vv fv' : Value} {w2 : World} {xs : List Int} (hq : q + 4 ≤ ko) (h1 : Ext (fun c => c = q + 1 ∨ c = q + 2 ∨ OpC ko c) w0 w1 own own1) (h2 : Arena w1 own1 (q + 1) a V) (h3 : Yard w1 own1 (q + 2) y a Y ev lw) (h4 : BaseAt w1 own1 (q + 3) b a y B)
    (h5 : CX w1 own1 ko o b O fv lv vv) (hE : Ext (fun c => c = ko + 1) w1 w2 own1 own2) (hr : Row w2 own2 (ko + 1) 2 1 fv' xs.length (irow xs)) : CPost q ko a y b o V Y B { O with found := xs } w0 own (w2.setCell ⟨o, 8, none⟩ fv') := by
  have hb := h5.box.ext hE (by omega)
  have hl := (h5.list.ext hE (by omega)).setCell_other (a := ⟨o, 8, none⟩) hb.at_ (CO.ne64 _ _ _ _ _) fv'
  have hv := (h5.values.ext hE (by omega)).setCell_other (a := ⟨o, 8, none⟩) hb.at_ (CO.ne64 _ _ _ _ _) fv'
  have hf := hr.setCell_other (a := ⟨o, 8, none⟩) hb.at_ (CO.ne64 _ _ _ _ _) fv'
  have hX : Ext (OpC ko) w1 (w2.setCell ⟨o, 8, none⟩ fv') own1 own2 := (hE.mono (fun c hc => by unfold OpC; omega)).trans (extO Ext.refl (fun _ => by rw [hb.col]; exact ⟨by omega, by omega⟩) 8 fv')
  have hbs := Blk.setCell hb 8 fv'
  exact ⟨own2, ev, lw, h1.trans (hX.mono (fun c hc => .inr (.inr hc))), h2.ext hX (by unfold OpC; omega), h3.ext hX (by unfold OpC; omega), h4.ext hX (by unfold OpC; omega), fv', lv, vv, hbs, hf, hl, hv⟩
/-- A step's end. -/
def SPost (q ko a y b o : Nat) (V : AV) (Y : YV) (B : BV) (O : CO) (w : World) (own : Nat → Nat) (e : Ending) (w' : World) : Prop := e = .returned (.bool (O.next == 11)) ∧ CPost q ko a y b o V Y B O w own w'
set_option maxHeartbeats 4000000 in
theorem step0_any (h0 : CPost q ko a y b o V Y B O w0 own w) (hq : q + 4 ≤ ko) (hn : O.next = 0) (hnow : Y.now < 1000000000000000) :
    Calls Try.prog 9 #[.pointer (some ⟨o, 0, none⟩)] w (SPost q ko a y b o (V) (enterY Y B O) B (enterO Y B O) w0 own) := by
  have HS := Lib.hid (fun n => h0.drewN n)
  obtain ⟨fa, fc, la, lc, va, vc, ⟨⟨c0, c1, c2, c3, c4, c5, c6, c7, c8, c9, c10, c11, c12, c13, c14, c15⟩, ⟨b0, b1, b2, b3⟩⟩, ⟨f5, f6, f7, f8, f9, f10, f11, f12, f13, f14, f15⟩, hol, hbl, hlist⟩ := h0.cells
  clear h0
  rw [hn] at c5
  go_enter Try.func9, Try.ntmps9
  go_wp2_with fail
  go_quiet (fail)
  have HSq := Lib.hid (HS.out nq)
  clear c0 c1 c2 c3 c4 c5 c6 c7 c8 c9 c10 c11 c12 c13 c14 c15 b0 b1 b2 b3 f5 f6 f7 f8 f9 f10 f11 f12 f13 f14 f15 hol hbl hlist HS
  generalize w.drewN nq = wq at *
  obtain ⟨fa, fc, la, lc, va, vc, ⟨⟨c0, c1, c2, c3, c4, c5, c6, c7, c8, c9, c10, c11, c12, c13, c14, c15⟩, ⟨b0, b1, b2, b3⟩⟩, ⟨f5, f6, f7, f8, f9, f10, f11, f12, f13, f14, f15⟩, hol, hbl, hlist⟩ := HSq.out.cells
  rw [hn] at c5
  have HE := Lib.hid (CoEnter_any HSq.out hq hnow)
  clear c0 c1 c2 c3 c4 c6 c7 c8 c9 c10 c11 c12 c13 c14 c15 b0 b1 b2 b3 f5 f6 f7 f8 f9 f10 f11 f12 f13 f14 f15 hbl hlist HSq
  go_wp2_with fail
  refine HE.out.mono ?_
  rintro e w2 ⟨⟨r, rfl⟩, hp⟩
  have HP := Lib.hid hp
  clear hp HE
  go_wp2_with fail
  refine HP.out.over.mono ?_
  rintro e w9 ⟨rfl, rfl⟩
  go_wp2_with fail
  go_ret
  exact ⟨rfl, HP.out⟩
set_option maxHeartbeats 4000000 in
theorem step4_any (h0 : CPost q ko a y b o V Y B O w0 own w) (hq : q + 4 ≤ ko) (hf : V.faults < 1000000000000000) (hc1 : 1 ≤ O.chain) (hc2 : O.chain ≤ 1000) (hn : O.next = 4) :
    Calls Try.prog 9 #[.pointer (some ⟨o, 0, none⟩)] w (SPost q ko a y b o (V.touch B.block) (Y) B (chkO V B O) w0 own) := by
  have HS := Lib.hid (fun n => h0.drewN n)
  obtain ⟨fa, fc, la, lc, va, vc, ⟨⟨c0, c1, c2, c3, c4, c5, c6, c7, c8, c9, c10, c11, c12, c13, c14, c15⟩, ⟨b0, b1, b2, b3⟩⟩, ⟨f5, f6, f7, f8, f9, f10, f11, f12, f13, f14, f15⟩, hol, hbl, hlist⟩ := h0.cells
  clear h0
  rw [hn] at c5
  go_enter Try.func9, Try.ntmps9
  go_wp2_with fail
  go_quiet (fail)
  have HSq := Lib.hid (HS.out nq)
  clear c0 c1 c2 c3 c4 c5 c6 c7 c8 c9 c10 c11 c12 c13 c14 c15 b0 b1 b2 b3 f5 f6 f7 f8 f9 f10 f11 f12 f13 f14 f15 hol hbl hlist HS
  generalize w.drewN nq = wq at *
  obtain ⟨fa, fc, la, lc, va, vc, ⟨⟨c0, c1, c2, c3, c4, c5, c6, c7, c8, c9, c10, c11, c12, c13, c14, c15⟩, ⟨b0, b1, b2, b3⟩⟩, ⟨f5, f6, f7, f8, f9, f10, f11, f12, f13, f14, f15⟩, hol, hbl, hlist⟩ := HSq.out.cells
  rw [hn] at c5
  have HE := Lib.hid (fin4_any HSq.out hq hf hc1 hc2 hn)
  clear c0 c1 c2 c3 c4 c6 c7 c8 c9 c10 c11 c12 c13 c14 c15 b0 b1 b2 b3 f5 f6 f7 f8 f9 f10 f11 f12 f13 f14 f15 hbl hlist HSq
  go_wp2_with fail
  refine HE.out.mono ?_
  rintro e w2 ⟨⟨r, rfl⟩, hp⟩
  have HP := Lib.hid hp
  clear hp HE
  go_wp2_with fail
  refine HP.out.over.mono ?_
  rintro e w9 ⟨rfl, rfl⟩
  go_wp2_with fail
  go_ret
  exact ⟨rfl, HP.out⟩
set_option maxHeartbeats 4000000 in
theorem step5_any (h0 : CPost q ko a y b o V Y B O w0 own w) (hq : q + 4 ≤ ko) (hm : V.made < 1000000000000000) (hl : O.list.length ≤ 1000) (hn : O.next = 5) :
    Calls Try.prog 9 #[.pointer (some ⟨o, 0, none⟩)] w (SPost q ko a y b o (V.alloc O.list.length) (Y) B (bldO V O) w0 own) := by
  have HS := Lib.hid (fun n => h0.drewN n)
  obtain ⟨fa, fc, la, lc, va, vc, ⟨⟨c0, c1, c2, c3, c4, c5, c6, c7, c8, c9, c10, c11, c12, c13, c14, c15⟩, ⟨b0, b1, b2, b3⟩⟩, ⟨f5, f6, f7, f8, f9, f10, f11, f12, f13, f14, f15⟩, hol, hbl, hlist⟩ := h0.cells
  clear h0
  rw [hn] at c5
  go_enter Try.func9, Try.ntmps9
  go_wp2_with fail
  go_quiet (fail)
  have HSq := Lib.hid (HS.out nq)
  clear c0 c1 c2 c3 c4 c5 c6 c7 c8 c9 c10 c11 c12 c13 c14 c15 b0 b1 b2 b3 f5 f6 f7 f8 f9 f10 f11 f12 f13 f14 f15 hol hbl hlist HS
  generalize w.drewN nq = wq at *
  obtain ⟨fa, fc, la, lc, va, vc, ⟨⟨c0, c1, c2, c3, c4, c5, c6, c7, c8, c9, c10, c11, c12, c13, c14, c15⟩, ⟨b0, b1, b2, b3⟩⟩, ⟨f5, f6, f7, f8, f9, f10, f11, f12, f13, f14, f15⟩, hol, hbl, hlist⟩ := HSq.out.cells
  rw [hn] at c5
  have HE := Lib.hid (fin5_any HSq.out hq hm hl hn)
  clear c0 c1 c2 c3 c4 c6 c7 c8 c9 c10 c11 c12 c13 c14 c15 b0 b1 b2 b3 f5 f6 f7 f8 f9 f10 f11 f12 f13 f14 f15 hbl hlist HSq
  go_wp2_with fail
  refine HE.out.mono ?_
  rintro e w2 ⟨⟨r, rfl⟩, hp⟩
  have HP := Lib.hid hp
  clear hp HE
  go_wp2_with fail
  refine HP.out.over.mono ?_
  rintro e w9 ⟨rfl, rfl⟩
  go_wp2_with fail
  go_ret
  exact ⟨rfl, HP.out⟩
set_option maxHeartbeats 4000000 in
theorem step6_any (h0 : CPost q ko a y b o V Y B O w0 own w) (hq : q + 4 ≤ ko) (hf : V.faults < 1000000000000000) (hc : 0 ≤ O.count) (hc2 : O.count < (O.list.length : Nat)) (hl : O.list.length ≤ 1000) (hn : O.next = 6) :
    Calls Try.prog 9 #[.pointer (some ⟨o, 0, none⟩)] w (SPost q ko a y b o (V.store O.fresh O.count (O.list.getD O.count.toNat 0)) (Y) B (wrtO O) w0 own) := by
  have HS := Lib.hid (fun n => h0.drewN n)
  obtain ⟨fa, fc, la, lc, va, vc, ⟨⟨c0, c1, c2, c3, c4, c5, c6, c7, c8, c9, c10, c11, c12, c13, c14, c15⟩, ⟨b0, b1, b2, b3⟩⟩, ⟨f5, f6, f7, f8, f9, f10, f11, f12, f13, f14, f15⟩, hol, hbl, hlist⟩ := h0.cells
  clear h0
  rw [hn] at c5
  go_enter Try.func9, Try.ntmps9
  go_wp2_with fail
  go_quiet (fail)
  have HSq := Lib.hid (HS.out nq)
  clear c0 c1 c2 c3 c4 c5 c6 c7 c8 c9 c10 c11 c12 c13 c14 c15 b0 b1 b2 b3 f5 f6 f7 f8 f9 f10 f11 f12 f13 f14 f15 hol hbl hlist HS
  generalize w.drewN nq = wq at *
  obtain ⟨fa, fc, la, lc, va, vc, ⟨⟨c0, c1, c2, c3, c4, c5, c6, c7, c8, c9, c10, c11, c12, c13, c14, c15⟩, ⟨b0, b1, b2, b3⟩⟩, ⟨f5, f6, f7, f8, f9, f10, f11, f12, f13, f14, f15⟩, hol, hbl, hlist⟩ := HSq.out.cells
  rw [hn] at c5
  have HE := Lib.hid (fin6_any HSq.out hq hf hc hc2 hl hn)
  clear c0 c1 c2 c3 c4 c6 c7 c8 c9 c10 c11 c12 c13 c14 c15 b0 b1 b2 b3 f5 f6 f7 f8 f9 f10 f11 f12 f13 f14 f15 hbl hlist HSq
  go_wp2_with fail
  refine HE.out.mono ?_
  rintro e w2 ⟨⟨r, rfl⟩, hp⟩
  have HP := Lib.hid hp
  clear hp HE
  go_wp2_with fail
  refine HP.out.over.mono ?_
  rintro e w9 ⟨rfl, rfl⟩
  go_wp2_with fail
  go_ret
  exact ⟨rfl, HP.out⟩
set_option maxHeartbeats 4000000 in
theorem step7_any (h0 : CPost q ko a y b o V Y B O w0 own w) (hq : q + 4 ≤ ko) (hf : V.faults < 1000000000000000) (hc1 : 1 ≤ O.chain) (hc2 : O.chain ≤ 1000) (hl : 0 < O.list.length) (hn : O.next = 7) :
    Calls Try.prog 9 #[.pointer (some ⟨o, 0, none⟩)] w (SPost q ko a y b o (V.swap B.block (O.chain - 1) O.old O.fresh) (Y) B (swapO V B O) w0 own) := by
  have HS := Lib.hid (fun n => h0.drewN n)
  obtain ⟨fa, fc, la, lc, va, vc, ⟨⟨c0, c1, c2, c3, c4, c5, c6, c7, c8, c9, c10, c11, c12, c13, c14, c15⟩, ⟨b0, b1, b2, b3⟩⟩, ⟨f5, f6, f7, f8, f9, f10, f11, f12, f13, f14, f15⟩, hol, hbl, hlist⟩ := h0.cells
  clear h0
  rw [hn] at c5
  go_enter Try.func9, Try.ntmps9
  go_wp2_with fail
  go_quiet (fail)
  have HSq := Lib.hid (HS.out nq)
  clear c0 c1 c2 c3 c4 c5 c6 c7 c8 c9 c10 c11 c12 c13 c14 c15 b0 b1 b2 b3 f5 f6 f7 f8 f9 f10 f11 f12 f13 f14 f15 hol hbl hlist HS
  generalize w.drewN nq = wq at *
  obtain ⟨fa, fc, la, lc, va, vc, ⟨⟨c0, c1, c2, c3, c4, c5, c6, c7, c8, c9, c10, c11, c12, c13, c14, c15⟩, ⟨b0, b1, b2, b3⟩⟩, ⟨f5, f6, f7, f8, f9, f10, f11, f12, f13, f14, f15⟩, hol, hbl, hlist⟩ := HSq.out.cells
  rw [hn] at c5
  have HE := Lib.hid (fin7_any HSq.out hq hf hc1 hc2 hl hn)
  clear c0 c1 c2 c3 c4 c6 c7 c8 c9 c10 c11 c12 c13 c14 c15 b0 b1 b2 b3 f5 f6 f7 f8 f9 f10 f11 f12 f13 f14 f15 hbl hlist HSq
  go_wp2_with fail
  refine HE.out.mono ?_
  rintro e w2 ⟨⟨r, rfl⟩, hp⟩
  have HP := Lib.hid hp
  clear hp HE
  go_wp2_with fail
  refine HP.out.over.mono ?_
  rintro e w9 ⟨rfl, rfl⟩
  go_wp2_with fail
  go_ret
  exact ⟨rfl, HP.out⟩
set_option maxHeartbeats 4000000 in
theorem step8_any (h0 : CPost q ko a y b o V Y B O w0 own w) (hq : q + 4 ≤ ko) (hf : V.faults < 1000000000000000) (hn : O.next = 8) :
    Calls Try.prog 9 #[.pointer (some ⟨o, 0, none⟩)] w (SPost q ko a y b o (V.free O.fresh) (Y) B (undO O) w0 own) := by
  have HS := Lib.hid (fun n => h0.drewN n)
  obtain ⟨fa, fc, la, lc, va, vc, ⟨⟨c0, c1, c2, c3, c4, c5, c6, c7, c8, c9, c10, c11, c12, c13, c14, c15⟩, ⟨b0, b1, b2, b3⟩⟩, ⟨f5, f6, f7, f8, f9, f10, f11, f12, f13, f14, f15⟩, hol, hbl, hlist⟩ := h0.cells
  clear h0
  rw [hn] at c5
  go_enter Try.func9, Try.ntmps9
  go_wp2_with fail
  go_quiet (fail)
  have HSq := Lib.hid (HS.out nq)
  clear c0 c1 c2 c3 c4 c5 c6 c7 c8 c9 c10 c11 c12 c13 c14 c15 b0 b1 b2 b3 f5 f6 f7 f8 f9 f10 f11 f12 f13 f14 f15 hol hbl hlist HS
  generalize w.drewN nq = wq at *
  obtain ⟨fa, fc, la, lc, va, vc, ⟨⟨c0, c1, c2, c3, c4, c5, c6, c7, c8, c9, c10, c11, c12, c13, c14, c15⟩, ⟨b0, b1, b2, b3⟩⟩, ⟨f5, f6, f7, f8, f9, f10, f11, f12, f13, f14, f15⟩, hol, hbl, hlist⟩ := HSq.out.cells
  rw [hn] at c5
  have HE := Lib.hid (fin8_any HSq.out hq hf hn)
  clear c0 c1 c2 c3 c4 c6 c7 c8 c9 c10 c11 c12 c13 c14 c15 b0 b1 b2 b3 f5 f6 f7 f8 f9 f10 f11 f12 f13 f14 f15 hbl hlist HSq
  go_wp2_with fail
  refine HE.out.mono ?_
  rintro e w2 ⟨⟨r, rfl⟩, hp⟩
  have HP := Lib.hid hp
  clear hp HE
  go_wp2_with fail
  refine HP.out.over.mono ?_
  rintro e w9 ⟨rfl, rfl⟩
  go_wp2_with fail
  go_ret
  exact ⟨rfl, HP.out⟩
set_option maxHeartbeats 4000000 in
theorem step9_any (h0 : CPost q ko a y b o V Y B O w0 own w) (hq : q + 4 ≤ ko) (hf : V.faults + Y.limbo.length < 800000000000000) (hlm : Y.limbo.length ≤ 3000000000000) (hnow : Y.now < 1000000000000000) (hn : O.next = 9) :
    Calls Try.prog 9 #[.pointer (some ⟨o, 0, none⟩)] w (SPost q ko a y b o (retireV Y V O.t O.old) (Y.retire V O.t O.old) B ({ O with next := 10 }) w0 own) := by
  have HS := Lib.hid (fun n => h0.drewN n)
  obtain ⟨fa, fc, la, lc, va, vc, ⟨⟨c0, c1, c2, c3, c4, c5, c6, c7, c8, c9, c10, c11, c12, c13, c14, c15⟩, ⟨b0, b1, b2, b3⟩⟩, ⟨f5, f6, f7, f8, f9, f10, f11, f12, f13, f14, f15⟩, hol, hbl, hlist⟩ := h0.cells
  clear h0
  rw [hn] at c5
  go_enter Try.func9, Try.ntmps9
  go_wp2_with fail
  go_quiet (fail)
  have HSq := Lib.hid (HS.out nq)
  clear c0 c1 c2 c3 c4 c5 c6 c7 c8 c9 c10 c11 c12 c13 c14 c15 b0 b1 b2 b3 f5 f6 f7 f8 f9 f10 f11 f12 f13 f14 f15 hol hbl hlist HS
  generalize w.drewN nq = wq at *
  obtain ⟨fa, fc, la, lc, va, vc, ⟨⟨c0, c1, c2, c3, c4, c5, c6, c7, c8, c9, c10, c11, c12, c13, c14, c15⟩, ⟨b0, b1, b2, b3⟩⟩, ⟨f5, f6, f7, f8, f9, f10, f11, f12, f13, f14, f15⟩, hol, hbl, hlist⟩ := HSq.out.cells
  rw [hn] at c5
  have HE := Lib.hid (fin9_any HSq.out hq hf hlm hnow hn)
  clear c0 c1 c2 c3 c4 c6 c7 c8 c9 c10 c11 c12 c13 c14 c15 b0 b1 b2 b3 f5 f6 f7 f8 f9 f10 f11 f12 f13 f14 f15 hbl hlist HSq
  go_wp2_with fail
  refine HE.out.mono ?_
  rintro e w2 ⟨⟨r, rfl⟩, hp⟩
  have HP := Lib.hid hp
  clear hp HE
  go_wp2_with fail
  refine HP.out.over.mono ?_
  rintro e w9 ⟨rfl, rfl⟩
  go_wp2_with fail
  go_ret
  exact ⟨rfl, HP.out⟩
set_option maxHeartbeats 4000000 in
theorem step10_any (h0 : CPost q ko a y b o V Y B O w0 own w) (hq : q + 4 ≤ ko)  (hn : O.next = 10) :
    Calls Try.prog 9 #[.pointer (some ⟨o, 0, none⟩)] w (SPost q ko a y b o (V) (Y.leave O.t) B ({ O with next := 11 }) w0 own) := by
  have HS := Lib.hid (fun n => h0.drewN n)
  obtain ⟨fa, fc, la, lc, va, vc, ⟨⟨c0, c1, c2, c3, c4, c5, c6, c7, c8, c9, c10, c11, c12, c13, c14, c15⟩, ⟨b0, b1, b2, b3⟩⟩, ⟨f5, f6, f7, f8, f9, f10, f11, f12, f13, f14, f15⟩, hol, hbl, hlist⟩ := h0.cells
  clear h0
  rw [hn] at c5
  go_enter Try.func9, Try.ntmps9
  go_wp2_with fail
  go_quiet (fail)
  have HSq := Lib.hid (HS.out nq)
  clear c0 c1 c2 c3 c4 c5 c6 c7 c8 c9 c10 c11 c12 c13 c14 c15 b0 b1 b2 b3 f5 f6 f7 f8 f9 f10 f11 f12 f13 f14 f15 hol hbl hlist HS
  generalize w.drewN nq = wq at *
  obtain ⟨fa, fc, la, lc, va, vc, ⟨⟨c0, c1, c2, c3, c4, c5, c6, c7, c8, c9, c10, c11, c12, c13, c14, c15⟩, ⟨b0, b1, b2, b3⟩⟩, ⟨f5, f6, f7, f8, f9, f10, f11, f12, f13, f14, f15⟩, hol, hbl, hlist⟩ := HSq.out.cells
  rw [hn] at c5
  have HE := Lib.hid (fin10_any HSq.out hq  hn)
  clear c0 c1 c2 c3 c4 c6 c7 c8 c9 c10 c11 c12 c13 c14 c15 b0 b1 b2 b3 f5 f6 f7 f8 f9 f10 f11 f12 f13 f14 f15 hbl hlist HSq
  go_wp2_with fail
  refine HE.out.mono ?_
  rintro e w2 ⟨⟨r, rfl⟩, hp⟩
  have HP := Lib.hid hp
  clear hp HE
  go_wp2_with fail
  refine HP.out.over.mono ?_
  rintro e w9 ⟨rfl, rfl⟩
  go_wp2_with fail
  go_ret
  exact ⟨rfl, HP.out⟩
set_option maxHeartbeats 4000000 in
theorem step2_any (h0 : CPost q ko a y b o V Y B O w0 own w) (hq : q + 4 ≤ ko) (hn : O.next = 2) (hf : V.faults < 1000000000000000) :
    Calls Try.prog 9 #[.pointer (some ⟨o, 0, none⟩)] w (SPost q ko a y b o (V.touch O.old) (Y) B (sizeO V O) w0 own) := by
  have HS := Lib.hid (fun n => h0.drewN n)
  obtain ⟨fa, fc, la, lc, va, vc, ⟨⟨c0, c1, c2, c3, c4, c5, c6, c7, c8, c9, c10, c11, c12, c13, c14, c15⟩, ⟨b0, b1, b2, b3⟩⟩, ⟨f5, f6, f7, f8, f9, f10, f11, f12, f13, f14, f15⟩, hol, hbl, hlist⟩ := h0.cells
  clear h0
  rw [hn] at c5
  go_enter Try.func9, Try.ntmps9
  go_wp2_with fail
  go_quiet (fail)
  have HSq := Lib.hid (HS.out nq)
  clear c0 c1 c2 c3 c4 c5 c6 c7 c8 c9 c10 c11 c12 c13 c14 c15 b0 b1 b2 b3 f5 f6 f7 f8 f9 f10 f11 f12 f13 f14 f15 hol hbl hlist HS
  generalize w.drewN nq = wq at *
  obtain ⟨fa, fc, la, lc, va, vc, ⟨⟨c0, c1, c2, c3, c4, c5, c6, c7, c8, c9, c10, c11, c12, c13, c14, c15⟩, ⟨b0, b1, b2, b3⟩⟩, ⟨f5, f6, f7, f8, f9, f10, f11, f12, f13, f14, f15⟩, hol, hbl, hlist⟩ := HSq.out.cells
  rw [hn] at c5
  obtain ⟨ownd, evd, lwd, hEd, hAd, hYd, hBd, hOd⟩ := HSq.out
  go_wp2_with fail
  refine (Size_any hAd hf O.old).mono ?_
  rintro e w2 ⟨rfl, own2, hE2, hA2⟩
  have HS2 := Lib.hid (CPost.arena2 hq hEd hYd hBd hOd hE2 hA2)
  clear hEd hAd hYd hBd hOd hE2 hA2
  clear c0 c1 c2 c3 c4 c5 c6 c7 c8 c9 c10 c11 c12 c13 c14 c15 b0 b1 b2 b3 f5 f6 f7 f8 f9 f10 f11 f12 f13 f14 f15 hol hbl hlist HSq
  obtain ⟨fa, fc, la, lc, va, vc, ⟨⟨c0, c1, c2, c3, c4, c5, c6, c7, c8, c9, c10, c11, c12, c13, c14, c15⟩, ⟨b0, b1, b2, b3⟩⟩, ⟨f5, f6, f7, f8, f9, f10, f11, f12, f13, f14, f15⟩, hol, hbl, hlist⟩ := HS2.out.cells
  have HP : Hid (CPost q ko a y b o (V.touch O.old) Y B (sizeO V O) w0 own _) := Lib.hid ((HS2.out.op hq (op_count (V.size O.old))).op hq (op_next 3))
  clear HS2
  go_wp2_with fail
  refine HP.out.over.mono ?_
  rintro e w9 ⟨rfl, rfl⟩
  go_wp2_with fail
  go_ret
  exact ⟨rfl, HP.out⟩
set_option maxHeartbeats 4000000 in
theorem step1_any (h0 : CPost q ko a y b o V Y B O w0 own w) (hq : q + 4 ≤ ko) (hn : O.next = 1) (hf : V.faults + Y.limbo.length < 700000000000000) (hf0 : 0 ≤ V.faults) (hlm : Y.limbo.length ≤ 3000000000000) (hc1 : 1 ≤ O.chain) (hc2 : O.chain ≤ 1000) :
    Calls Try.prog 9 #[.pointer (some ⟨o, 0, none⟩)] w (SPost q ko a y b o (root2V V Y B O) (root2Y V Y B O) B (root2O V Y B O) w0 own) := by
  have HS := Lib.hid (fun n => h0.drewN n)
  obtain ⟨fa, fc, la, lc, va, vc, ⟨⟨c0, c1, c2, c3, c4, c5, c6, c7, c8, c9, c10, c11, c12, c13, c14, c15⟩, ⟨b0, b1, b2, b3⟩⟩, ⟨f5, f6, f7, f8, f9, f10, f11, f12, f13, f14, f15⟩, hol, hbl, hlist⟩ := h0.cells
  clear h0
  rw [hn] at c5
  go_enter Try.func9, Try.ntmps9
  go_wp2_with fail
  go_quiet (fail)
  have HSq := Lib.hid (HS.out nq)
  clear c0 c1 c2 c3 c4 c5 c6 c7 c8 c9 c10 c11 c12 c13 c14 c15 b0 b1 b2 b3 f5 f6 f7 f8 f9 f10 f11 f12 f13 f14 f15 hol hbl hlist HS
  generalize w.drewN nq = wq at *
  obtain ⟨fa, fc, la, lc, va, vc, ⟨⟨c0, c1, c2, c3, c4, c5, c6, c7, c8, c9, c10, c11, c12, c13, c14, c15⟩, ⟨b0, b1, b2, b3⟩⟩, ⟨f5, f6, f7, f8, f9, f10, f11, f12, f13, f14, f15⟩, hol, hbl, hlist⟩ := HSq.out.cells
  rw [hn] at c5
  have HSd := Lib.hid HSq.out.drew
  go_wp2_with fail
  refine wp_region_plan2 [(true, 0, [15, 16, 17]), (true, 1, [11, 12, 13, 14, 15, 16, 17]), (true, 2, [3, 4, 5, 11, 12, 13, 14, 15, 16, 17]), (true, 6, [7, 8, 9, 10, 11, 12, 13, 14, 15, 16, 17]), (true, 7, [8, 9, 10, 11, 12, 13, 14, 15, 16, 17]), (true, 8, [9, 10, 11, 12, 13, 14, 15, 16, 17]), (true, 9, [10, 11, 12, 13, 14, 15, 16, 17]), (true, 10, [11, 12, 13, 14, 15, 16, 17]), (true, 3, [4, 5, 11, 12, 13, 14, 15, 16, 17]), (true, 4, [5, 11, 12, 13, 14, 15, 16, 17]), (true, 5, [11, 12, 13, 14, 15, 16, 17]), (false, 11, []), (true, 12, [13, 14, 15, 16, 17]), (true, 13, [15, 16, 17]), (true, 14, []), (true, 15, [16, 17]), (true, 16, [17]), (false, 17, [])] (by kernel_rfl) (by kernel_rfl) (fun _ _ _ d _ h => by cases d <;> exact h) ?_
  iterate 11 (refine plan_early rfl ?_; still_step; refine wpStill_nil ?_)
  refine plan_big rfl ?_
  obtain ⟨ownd, evd, lwd, hEd, hAd, hYd, hBd, hOd⟩ := HSd.out
  go_wp2_with fail
  refine (Load_any hAd (by omega) B.block (O.chain - 1)).mono ?_
  rintro e w2 ⟨rfl, own2, hE2, hA2⟩
  have HS2 := Lib.hid (CPost.arena2 hq hEd hYd hBd hOd hE2 hA2)
  clear hEd hAd hYd hBd hOd hE2 hA2 HSd
  clear c0 c1 c2 c3 c4 c5 c6 c7 c8 c9 c10 c11 c12 c13 c14 c15 b0 b1 b2 b3 f5 f6 f7 f8 f9 f10 f11 f12 f13 f14 f15 hol hbl hlist HSq
  obtain ⟨fa, fc, la, lc, va, vc, ⟨⟨c0, c1, c2, c3, c4, c5, c6, c7, c8, c9, c10, c11, c12, c13, c14, c15⟩, ⟨b0, b1, b2, b3⟩⟩, ⟨f5, f6, f7, f8, f9, f10, f11, f12, f13, f14, f15⟩, hol, hbl, hlist⟩ := HS2.out.cells
  rw [hn] at c5
  go_wp2_with fail
  iterate 5 (refine plan_early rfl ?_; still_step; refine wpStill_nil ?_)
  refine plan_big rfl ?_
  go_wp2_with fail
  refine plan_nil ?_
  have hft := touch_faults V B.block
  generalize hv : V.val B.block (O.chain - 1) = v at *
  have HS3 := Lib.hid ((((HS2.out.op hq (op_old v)).op hq op_found0).op hq (op_count 0)).op hq (op_next 2))
  clear HS2
  by_cases h3 : O.what = 3
  · have h3b : (O.what == 3) = true := by simp [h3]
    have hro : ({ O with old := v, found := [], count := 0, next := 2, done := true } : CO) = rootO V B O := by unfold rootO; rw [if_pos h3, hv]
    have HS4 := Lib.hid (CPost.as (O2 := rootO V B O) (HS3.out.op hq (op_done true)) rfl rfl hro)
    clear HS3 h3
    have hrold : (rootO V B O).old = v := by rw [← hro]
    by_cases hz : v = 0
    · have hzb : (v == 0) = true := by simp [hz]
      have HD := Lib.hid (CoDecide_any HS4.out hq (by rw [← hro]; exact Nat.zero_le _) (by rw [← hro]; exact Int.le_refl _) (by rw [← hro]; show (0 : Int) < _; decide) (by omega) hlm)
      have HP1 := Lib.hid (show decV (V.touch B.block) Y (rootO V B O) = root2V V Y B O by unfold root2V; rw [if_pos (hrold.trans hz)])
      have HP2 := Lib.hid (show decY Y (rootO V B O) = root2Y V Y B O by unfold root2Y; rw [if_pos (hrold.trans hz)])
      have HP3 := Lib.hid (show decO (V.touch B.block) Y (rootO V B O) = root2O V Y B O by unfold root2O; rw [if_pos (hrold.trans hz)])
      clear hro hrold HS4 hv hz hft
      go_wp2_with fail
      refine HD.out.mono ?_
      rintro e w3 ⟨⟨r, rfl⟩, hp⟩
      have HP := Lib.hid (hp.as HP1.out HP2.out HP3.out)
      clear hp HD HP1 HP2 HP3
      go_wp2_with fail
      refine HP.out.over.mono ?_
      rintro e w9 ⟨rfl, rfl⟩
      go_wp2_with fail
      go_ret
      exact ⟨rfl, HP.out⟩
    · have hzb : (v == 0) = false := by simp [hz]
      have HP1 := Lib.hid (show V.touch B.block = root2V V Y B O by unfold root2V; rw [if_neg (by rw [hrold]; exact hz)])
      have HP2 := Lib.hid (show Y = root2Y V Y B O by unfold root2Y; rw [if_neg (by rw [hrold]; exact hz)])
      have HP3 := Lib.hid (show rootO V B O = root2O V Y B O by unfold root2O; rw [if_neg (by rw [hrold]; exact hz)])
      have HP := Lib.hid (HS4.out.as HP1.out HP2.out HP3.out)
      clear hro hrold HS4 hv hz hft HP1 HP2 HP3
      go_wp2_with fail
      refine HP.out.over.mono ?_
      rintro e w9 ⟨rfl, rfl⟩
      go_wp2_with fail
      go_ret
      exact ⟨rfl, HP.out⟩
  · have h3b : (O.what == 3) = false := by simp [h3]
    have hro : ({ O with old := v, found := [], count := 0, next := 2 } : CO) = rootO V B O := by unfold rootO; rw [if_neg h3, hv]
    have HS4 := Lib.hid (CPost.as (O2 := rootO V B O) HS3.out rfl rfl hro)
    clear HS3 h3
    have hrold : (rootO V B O).old = v := by rw [← hro]
    by_cases hz : v = 0
    · have hzb : (v == 0) = true := by simp [hz]
      have HD := Lib.hid (CoDecide_any HS4.out hq (by rw [← hro]; exact Nat.zero_le _) (by rw [← hro]; exact Int.le_refl _) (by rw [← hro]; show (0 : Int) < _; decide) (by omega) hlm)
      have HP1 := Lib.hid (show decV (V.touch B.block) Y (rootO V B O) = root2V V Y B O by unfold root2V; rw [if_pos (hrold.trans hz)])
      have HP2 := Lib.hid (show decY Y (rootO V B O) = root2Y V Y B O by unfold root2Y; rw [if_pos (hrold.trans hz)])
      have HP3 := Lib.hid (show decO (V.touch B.block) Y (rootO V B O) = root2O V Y B O by unfold root2O; rw [if_pos (hrold.trans hz)])
      clear hro hrold HS4 hv hz hft
      go_wp2_with fail
      refine HD.out.mono ?_
      rintro e w3 ⟨⟨r, rfl⟩, hp⟩
      have HP := Lib.hid (hp.as HP1.out HP2.out HP3.out)
      clear hp HD HP1 HP2 HP3
      go_wp2_with fail
      refine HP.out.over.mono ?_
      rintro e w9 ⟨rfl, rfl⟩
      go_wp2_with fail
      go_ret
      exact ⟨rfl, HP.out⟩
    · have hzb : (v == 0) = false := by simp [hz]
      have HP1 := Lib.hid (show V.touch B.block = root2V V Y B O by unfold root2V; rw [if_neg (by rw [hrold]; exact hz)])
      have HP2 := Lib.hid (show Y = root2Y V Y B O by unfold root2Y; rw [if_neg (by rw [hrold]; exact hz)])
      have HP3 := Lib.hid (show rootO V B O = root2O V Y B O by unfold root2O; rw [if_neg (by rw [hrold]; exact hz)])
      have HP := Lib.hid (HS4.out.as HP1.out HP2.out HP3.out)
      clear hro hrold HS4 hv hz hft HP1 HP2 HP3
      go_wp2_with fail
      refine HP.out.over.mono ?_
      rintro e w9 ⟨rfl, rfl⟩
      go_wp2_with fail
      go_ret
      exact ⟨rfl, HP.out⟩
set_option maxHeartbeats 4000000 in
theorem step3_any (h0 : CPost q ko a y b o V Y B O w0 own w) (hq : q + 4 ≤ ko) (hn : O.next = 3) (hf : V.faults + Y.limbo.length < 700000000000000) (hf0 : 0 ≤ V.faults) (hlm : Y.limbo.length ≤ 3000000000000) (hl : O.found.length ≤ 299) (hs1 : 0 ≤ (readO V O).st) (hs2 : (readO V O).st < 1000000000000000) :
    Calls Try.prog 9 #[.pointer (some ⟨o, 0, none⟩)] w (SPost q ko a y b o (read2V V Y O) (read2Y V Y O) B (read2O V Y O) w0 own) := by
  have HS := Lib.hid (fun n => h0.drewN n)
  obtain ⟨fa, fc, la, lc, va, vc, ⟨⟨c0, c1, c2, c3, c4, c5, c6, c7, c8, c9, c10, c11, c12, c13, c14, c15⟩, ⟨b0, b1, b2, b3⟩⟩, ⟨f5, f6, f7, f8, f9, f10, f11, f12, f13, f14, f15⟩, hol, hbl, hlist⟩ := h0.cells
  clear h0
  rw [hn] at c5
  go_enter Try.func9, Try.ntmps9
  go_wp2_with fail
  go_quiet (fail)
  have HSq := Lib.hid (HS.out nq)
  clear c0 c1 c2 c3 c4 c5 c6 c7 c8 c9 c10 c11 c12 c13 c14 c15 b0 b1 b2 b3 f5 f6 f7 f8 f9 f10 f11 f12 f13 f14 f15 hol hbl hlist HS
  generalize w.drewN nq = wq at *
  obtain ⟨fa, fc, la, lc, va, vc, ⟨⟨c0, c1, c2, c3, c4, c5, c6, c7, c8, c9, c10, c11, c12, c13, c14, c15⟩, ⟨b0, b1, b2, b3⟩⟩, ⟨f5, f6, f7, f8, f9, f10, f11, f12, f13, f14, f15⟩, hol, hbl, hlist⟩ := HSq.out.cells
  rw [hn] at c5
  have HSd := Lib.hid HSq.out.drew
  go_wp2_with fail
  refine wp_region_plan2 [(true, 0, [10, 11, 12, 13, 14, 15]), (true, 1, [2, 3, 4, 10, 11, 12, 13, 14, 15]), (true, 5, [6, 7, 8, 9, 10, 11, 12, 13, 14, 15]), (true, 6, [7, 8, 9, 10, 11, 12, 13, 14, 15]), (true, 7, [8, 9, 10, 11, 12, 13, 14, 15]), (true, 8, [9, 10, 11, 12, 13, 14, 15]), (true, 9, [10, 11, 12, 13, 14, 15]), (true, 2, [3, 4, 10, 11, 12, 13, 14, 15]), (true, 3, [4, 10, 11, 12, 13, 14, 15]), (true, 4, [10, 11, 12, 13, 14, 15]), (false, 10, []), (true, 11, [12, 13, 14, 15]), (true, 12, [14, 15]), (true, 13, [15]), (true, 14, [15]), (true, 15, [])] (by kernel_rfl) (by kernel_rfl) (fun _ _ _ d _ h => by cases d <;> exact h) ?_
  iterate 10 (refine plan_early rfl ?_; still_step; refine wpStill_nil ?_)
  refine plan_big rfl ?_
  obtain ⟨ownd, evd, lwd, hEd, hAd, hYd, hBd, hOd⟩ := HSd.out
  go_wp2_with fail
  refine (Load_any hAd (by omega) O.old (O.found.length : Nat)).mono ?_
  rintro e w2 ⟨rfl, own2, hE2, hA2⟩
  have HS2 := Lib.hid (CPost.arena2 hq hEd hYd hBd hOd hE2 hA2)
  clear hEd hAd hYd hBd hOd hE2 hA2 HSd
  clear c0 c1 c2 c3 c4 c5 c6 c7 c8 c9 c10 c11 c12 c13 c14 c15 b0 b1 b2 b3 f5 f6 f7 f8 f9 f10 f11 f12 f13 f14 f15 hol hbl hlist HSq
  obtain ⟨fa, fc, la, lc, va, vc, ⟨⟨c0, c1, c2, c3, c4, c5, c6, c7, c8, c9, c10, c11, c12, c13, c14, c15⟩, ⟨b0, b1, b2, b3⟩⟩, ⟨f5, f6, f7, f8, f9, f10, f11, f12, f13, f14, f15⟩, hol, hbl, hlist⟩ := HS2.out.cells
  rw [hn] at c5
  clear hlist
  have hft := touch_faults V O.old
  have HRD := Lib.hid (show { O with found := O.found ++ [V.val O.old (O.found.length : Nat)] } = readO V O from rfl)
  generalize hv : V.val O.old (O.found.length : Nat) = v at *
  clear hv
  go_wp2_with fail
  iterate 5 (refine plan_early rfl ?_; still_step; refine wpStill_nil ?_)
  refine plan_nil ?_
  clear c0 c1 c2 c3 c4 c5 c6 c7 c8 c9 c10 c11 c12 c13 c14 c15 b0 b1 b2 b3
  obtain ⟨own3, ev3, lw3, hE3, hA3, hY3, hB3, fv3, lv3, vv3, hX3⟩ := HS2.out
  have HF3 := Lib.hid (hX3.found.alloc (.cells #[.int .i64 v] 2))
  have HPF := Lib.hid (fun w9 own9 (hE : Ext (fun c => c = ko + 1) w2 w9 own3 own9) v' xs hr => CPost.putF (w2 := w9) (fv' := v') (xs := xs) hq hE3 hA3 hY3 hB3 hX3 hE hr)
  have HCX := Lib.hid (fun w9 own9 (hE : Ext (fun c => c = ko + 1) w2 w9 own3 own9) => CX.opinF hX3 hB3 hq hE)
  obtain ⟨c0, c1, c2, c3, c4, c5, c6, c7, c8, c9, c10, c11, c12, c13, c14, c15⟩ := hX3.y
  obtain ⟨b0, b1, b2, b3⟩ := BaseAt.y hB3
  obtain ⟨fa3, fc3, rfl⟩ := hX3.found.shape
  clear hE3 hA3 hY3 hB3 hX3 HS2
  obtain ⟨i0, hi0, hz0, hz1, hz2⟩ := parts_i64
  have hmx : O.found.length + 1 ≤ maxLen := by unfold maxLen; omega
  go_wp2_with (at_builtin; refine wpList_append_row (w := w2.alloc (.cells #[.int .i64 v] 2)) (n := O.found.length) (xs := irow O.found) rfl _ _ 22 rfl i0 (.int .i64 0) 8 Try.underlying22 hi0 hz0 hz1 hz2 rfl (by decide) rfl HF3.out ⟨w2.heap.size, 0, none⟩ 1 1 [.int .i64 v] rfl rfl (one_cell (new_cell rfl)) (one_ok rfl) hmx (by omega) ?_)
  intro v' w4 hr4 hE4 _
  have hE24 := (Ext.refl.alloc (.cells #[.int .i64 v] 2)).trans hE4
  obtain ⟨a4, c4', rfl⟩ := hr4.shape
  have HS4 := Lib.hid (HPF.out w4 _ hE24 _ (O.found ++ [v]) (by simpa [irow] using hr4))
  have HOI := Lib.hid (HCX.out w4 _ hE24)
  clear hr4 hE4 hE24 HPF HCX HF3 c0 c1 c2 c3 c4 c5 c6 c7 c8 c9 c10 c11 c12 c13 c14 c15 b0 b1 b2 b3 f5 f6 f7 f8 f9 f10 f11 f12 f13 f14 f15 hol
  obtain ⟨⟨⟨c0, c1, c2, c3, c4, c5, c6, c7, c8, c9, c10, c11, c12, c13, c14, c15⟩, ⟨b0, b1, b2, b3⟩⟩, ⟨f5, f6, f7, f8, f9, f10, f11, f12, f13, f14, f15⟩, hol⟩ := HOI.out
  go_wp2_with fail
  go_quiet (fail)
  have HS5 := Lib.hid (CPost.as (O2 := readO V O) (HS4.out.drewN nq) rfl rfl HRD.out)
  have hrl : (readO V O).found.length = O.found.length + 1 := by unfold readO; simp
  clear HS4 HOI HRD
  by_cases he : ((O.found.length + 1 : Nat) : Int) = O.count
  · have heb : ((O.found.length : Int) + 1 == O.count) = true := by rw [← he]; simp
    have hre : ((readO V O).found.length : Int) = O.count := by rw [hrl]; exact he
    have HD := Lib.hid (CoDecide_any HS5.out hq (by rw [hrl]; omega) hs1 hs2 (by omega) hlm)
    have HP1 := Lib.hid (show decV (V.touch O.old) Y (readO V O) = read2V V Y O by unfold read2V; rw [if_pos hre])
    have HP2 := Lib.hid (show decY Y (readO V O) = read2Y V Y O by unfold read2Y; rw [if_pos hre])
    have HP3 := Lib.hid (show decO (V.touch O.old) Y (readO V O) = read2O V Y O by unfold read2O; rw [if_pos hre])
    clear hre hrl HS5 hft he
    go_wp2_with fail
    refine HD.out.mono ?_
    rintro e w5 ⟨⟨r, rfl⟩, hp⟩
    have HP := Lib.hid (hp.as HP1.out HP2.out HP3.out)
    clear hp HD HP1 HP2 HP3
    go_wp2_with fail
    refine HP.out.over.mono ?_
    rintro e w9 ⟨rfl, rfl⟩
    go_wp2_with fail
    go_ret
    exact ⟨rfl, HP.out⟩
  · have heb : ((O.found.length : Int) + 1 == O.count) = false := by rw [beq_eq_false_iff_ne]; intro h; exact he (by omega)
    have hre : ¬ ((readO V O).found.length : Int) = O.count := by rw [hrl]; exact he
    have HP1 := Lib.hid (show V.touch O.old = read2V V Y O by unfold read2V; rw [if_neg hre])
    have HP2 := Lib.hid (show Y = read2Y V Y O by unfold read2Y; rw [if_neg hre])
    have HP3 := Lib.hid (show readO V O = read2O V Y O by unfold read2O; rw [if_neg hre])
    have HP := Lib.hid (HS5.out.as HP1.out HP2.out HP3.out)
    clear hre hrl HS5 hft he HP1 HP2 HP3
    go_wp2_with fail
    refine HP.out.over.mono ?_
    rintro e w9 ⟨rfl, rfl⟩
    go_wp2_with fail
    go_ret
    exact ⟨rfl, HP.out⟩
end
end Go.Proofs.Ytefhngbeodnldaa