/- Layer 5: a step of an operation. Printed by gen_chain.py from chainstep.in. -/
import Derived.Test.YtefhngbeodnldaaChain
set_option maxRecDepth 20000
set_option linter.unusedVariables false
set_option linter.unusedSimpArgs false
namespace Go.Proofs.Ytefhngbeodnldaa
open Go.RowKit Go.PM
/-- A call's end: the arena, the yard, the base, the operation behind it. -/
def CPost (q ko a y b o : Nat) (V : AV) (Y : YV) (B : BV) (O : CO) (w : World) (own : Nat → Nat) (w' : World) : Prop :=
  ∃ own' ev lw, Ext (fun c => c = q + 1 ∨ c = q + 2 ∨ OpC ko c) w w' own own' ∧ Arena w' own' (q + 1) a V ∧ Yard w' own' (q + 2) y a Y ev lw ∧ BaseAt w' own' (q + 3) b a y B ∧ CAt w' own' ko o b O
section
variable {w w1 w0 : World} {own : Nat → Nat} {q ko a y b o : Nat} {V V' : AV} {Y Y' : YV} {B : BV} {O O' : CO}
theorem CPost.refl {ev lw : Value} (hA : Arena w own (q + 1) a V) (hY : Yard w own (q + 2) y a Y ev lw) (hB : BaseAt w own (q + 3) b a y B) (hO : CAt w own ko o b O) : CPost q ko a y b o V Y B O w own w := ⟨own, ev, lw, Ext.refl, hA, hY, hB, hO⟩
theorem CPost.as {V2 : AV} {Y2 : YV} {O2 : CO} (h : CPost q ko a y b o V Y B O w own w1) (e1 : V = V2) (e2 : Y = Y2) (e3 : O = O2) : CPost q ko a y b o V2 Y2 B O2 w own w1 := by
  subst e1; subst e2; subst e3; exact h
/-- What leaves all that is there alone. -/
theorem CPost.quiet (h : CPost q ko a y b o V Y B O w own w1) {w2 : World} (hB : Below w1.heap.size w1 w2) : CPost q ko a y b o V Y B O w own w2 := by
  obtain ⟨own', ev, lw, h1, h2, h3, h4, h5⟩ := h
  have hX : Ext (fun _ => False) w1 w2 own' own' := ext_same _ hB
  exact ⟨own', ev, lw, h1.trans (hX.mono (by simp)), h2.ext hX (by simp), h3.ext hX (by simp), h4.ext hX (by simp), h5.ext hX (by simp)⟩
theorem CPost.drew (h : CPost q ko a y b o V Y B O w own w1) : CPost q ko a y b o V Y B O w own w1.drew := h.quiet ((Below.refl _ _).drew)
theorem CPost.drewN (h : CPost q ko a y b o V Y B O w own w1) (n : Nat) : CPost q ko a y b o V Y B O w own (w1.drewN n) := by
  obtain ⟨own', ev, lw, h1, h2, h3, h4, h5⟩ := h
  have hX : Ext (fun _ => False) w1 (w1.drewN n) own' own' := Ext.refl.drewN n
  exact ⟨own', ev, lw, h1.drewN n, h2.ext hX (by simp), h3.ext hX (by simp), h4.ext hX (by simp), h5.ext hX (by simp)⟩
/-- The arena is turned. -/
theorem CPost.arena (h : CPost q ko a y b o V Y B O w own w1) (hq : q + 4 ≤ ko) {r : Value} {e : Ending} {w2 : World} (k : ∀ own1, Arena w1 own1 (q + 1) a V → ArPost (q + 1) a V' w1 own1 r e w2) : e = .returned r ∧ CPost q ko a y b o V' Y B O w own w2 := by
  obtain ⟨own1, ev, lw, h1, h2, h3, h4, h5⟩ := h
  obtain ⟨h6, own2, h7, h8⟩ := k own1 h2
  exact ⟨h6, own2, ev, lw, h1.trans (h7.mono (by simp)), h8, h3.ext h7 (by omega), h4.ext h7 (by omega), h5.ext h7 (by omega)⟩
theorem CPost.arena2 {ownd own2 : Nat → Nat} {ev lw : Value} {w2 : World} (hq : q + 4 ≤ ko) (h1 : Ext (fun c => c = q + 1 ∨ c = q + 2 ∨ OpC ko c) w w1 own ownd) (h3 : Yard w1 ownd (q + 2) y a Y ev lw) (h4 : BaseAt w1 ownd (q + 3) b a y B) (h5 : CAt w1 ownd ko o b O)
    (h7 : Ext (fun c => c = q + 1) w1 w2 ownd own2) (h8 : Arena w2 own2 (q + 1) a V') : CPost q ko a y b o V' Y B O w own w2 :=
  ⟨own2, ev, lw, h1.trans (h7.mono (by simp)), h8, h3.ext h7 (by omega), h4.ext h7 (by omega), h5.ext h7 (by omega)⟩
/-- The operation is turned. -/
theorem CPost.op (h : CPost q ko a y b o V Y B O w own w1) (hq : q + 4 ≤ ko) {w2 : World} (k : ∀ own1, CAt w1 own1 ko o b O → OPost w1 own1 ko o b O' w2) : CPost q ko a y b o V Y B O' w own w2 := by
  obtain ⟨own1, ev, lw, h1, h2, h3, h4, h5⟩ := h
  obtain ⟨h6, h7⟩ := k own1 h5
  exact ⟨own1, ev, lw, h1.trans (h6.mono (fun c hc => .inr (.inr hc))), h2.ext h6 (by unfold OpC; omega), h3.ext h6 (by unfold OpC; omega), h4.ext h6 (by unfold OpC; omega), h7⟩
/-- What lies in the cells. -/
def CCells (a y b o : Nat) (B : BV) (O : CO) (fv lv vv : Value) (w : World) : Prop :=
  (w.cell? ⟨o, 0, none⟩ = some (.pointer (some ⟨b, 0, none⟩)) ∧ w.cell? ⟨o, 1, none⟩ = some (.int .i64 O.t) ∧ w.cell? ⟨o, 2, none⟩ = some (.int .i64 O.chain) ∧ w.cell? ⟨o, 3, none⟩ = some (.int .i64 O.what) ∧ w.cell? ⟨o, 4, none⟩ = some (.int .i64 O.value) ∧ w.cell? ⟨o, 5, none⟩ = some (.int .i64 O.next) ∧
      w.cell? ⟨o, 6, none⟩ = some (.int .i64 O.old) ∧ w.cell? ⟨o, 7, none⟩ = some (.int .i64 O.count) ∧ w.cell? ⟨o, 8, none⟩ = some fv ∧ w.cell? ⟨o, 9, none⟩ = some lv ∧ w.cell? ⟨o, 10, none⟩ = some (.int .i64 O.fresh) ∧ w.cell? ⟨o, 11, none⟩ = some (.bool O.done) ∧
      w.cell? ⟨o, 12, none⟩ = some (.int .i64 O.err) ∧ w.cell? ⟨o, 13, none⟩ = some (.bool O.ok) ∧ w.cell? ⟨o, 14, none⟩ = some (.int .i64 O.stamp) ∧ w.cell? ⟨o, 15, none⟩ = some vv) ∧
    (w.cell? ⟨b, 0, none⟩ = some (.pointer (some ⟨a, 0, none⟩)) ∧ w.cell? ⟨b, 1, none⟩ = some (.pointer (some ⟨y, 0, none⟩)) ∧ w.cell? ⟨b, 2, none⟩ = some (.int .i64 B.block) ∧ w.cell? ⟨b, 3, none⟩ = some (.int .i64 B.chains))
def CFree (o : Nat) (w : World) : Prop :=
  w.frozen? ⟨o, 5, none⟩ = false ∧ w.frozen? ⟨o, 6, none⟩ = false ∧ w.frozen? ⟨o, 7, none⟩ = false ∧ w.frozen? ⟨o, 8, none⟩ = false ∧ w.frozen? ⟨o, 9, none⟩ = false ∧ w.frozen? ⟨o, 10, none⟩ = false ∧ w.frozen? ⟨o, 11, none⟩ = false ∧
    w.frozen? ⟨o, 12, none⟩ = false ∧ w.frozen? ⟨o, 13, none⟩ = false ∧ w.frozen? ⟨o, 14, none⟩ = false ∧ w.frozen? ⟨o, 15, none⟩ = false
theorem CPost.cells (h : CPost q ko a y b o V Y B O w own w1) : ∃ fa fc la lc va vc, CCells a y b o B O (.slice fa O.found.length fc) (.slice la O.list.length lc) (.slice va O.values.length vc) w1 ∧ CFree o w1 ∧ o < w1.heap.size ∧ b < w1.heap.size ∧
    (∀ i (hi : i < O.list.length), ∃ g, la = some ⟨g, 0, none⟩ ∧ g < w1.heap.size ∧ w1.cell? ⟨g, i, none⟩ = some (.int .i64 O.list[i])) := by
  obtain ⟨own1, ev, lw, h1, h2, h3, h4, fv, lv, vv, h5⟩ := h
  obtain ⟨fa, fc, rfl⟩ := h5.found.shape
  obtain ⟨la, lc, rfl⟩ := h5.list.shape
  obtain ⟨va, vc, rfl⟩ := h5.values.shape
  refine ⟨fa, fc, la, lc, va, vc, ⟨h5.y, h4.y⟩, h5.f, h5.box.lt, h4.lt, fun i hi => ?_⟩
  obtain ⟨g, hg, hg2, _, _, _, hc⟩ := h5.list.irow_at hi
  exact ⟨g, hg, hg2, hc⟩
theorem op_next (n : Int) (own1 : Nat → Nat) (h : CAt w1 own1 ko o b O) : OPost w1 own1 ko o b { O with next := n } (w1.setCell ⟨o, 5, none⟩ (.int .i64 n)) := by
  obtain ⟨fv, lv, vv, h⟩ := h
  exact ⟨(h.nxt n).2, fv, lv, vv, (h.nxt n).1⟩
theorem op_ans (er : Int) (ok : Bool) (st : Int) (own1 : Nat → Nat) (h : CAt w1 own1 ko o b O) : OPost w1 own1 ko o b { O with err := er, ok := ok, stamp := st, values := [] } ((((w1.setCell ⟨o, 12, none⟩ (.int .i64 er)).setCell ⟨o, 13, none⟩ (.bool ok)).setCell ⟨o, 14, none⟩ (.int .i64 st)).setCell ⟨o, 15, none⟩ (.slice none 0 0)) := by
  obtain ⟨fv, lv, vv, h⟩ := h
  have := h.ans er ok st (vs := []) (Row.nil w1 own1 (ko + 3) 2 1)
  exact ⟨this.2, fv, lv, _, this.1⟩
theorem op_set (i : Nat) (v : Value) {O' : CO} (hc : ∀ b fv lv vv, (O.cells b fv lv vv).setIfInBounds i v = O'.cells b fv lv vv) (h1 : O'.found = O.found) (h2 : O'.list = O.list) (h3 : O'.values = O.values) (own1 : Nat → Nat) (h : CAt w1 own1 ko o b O) : OPost w1 own1 ko o b O' (w1.setCell ⟨o, i, none⟩ v) := by
  obtain ⟨fv, lv, vv, h⟩ := h
  exact ⟨extO Ext.refl (fun _ => by rw [h.box.col]; exact ⟨by omega, by omega⟩) _ _, fv, lv, vv, h.sets i v (hc _ _ _ _) h1 h2 h3⟩
theorem op_done (v : Bool) (own1 : Nat → Nat) (h : CAt w1 own1 ko o b O) : OPost w1 own1 ko o b { O with done := v } (w1.setCell ⟨o, 11, none⟩ (.bool v)) := op_set (O := O) 11 (.bool v) (O' := { O with done := v }) (fun _ _ _ _ => rfl) rfl rfl rfl own1 h
theorem op_fresh (v : Int) (own1 : Nat → Nat) (h : CAt w1 own1 ko o b O) : OPost w1 own1 ko o b { O with fresh := v } (w1.setCell ⟨o, 10, none⟩ (.int .i64 v)) := op_set (O := O) 10 (.int .i64 v) (O' := { O with fresh := v }) (fun _ _ _ _ => rfl) rfl rfl rfl own1 h
theorem op_count (v : Int) (own1 : Nat → Nat) (h : CAt w1 own1 ko o b O) : OPost w1 own1 ko o b { O with count := v } (w1.setCell ⟨o, 7, none⟩ (.int .i64 v)) := op_set (O := O) 7 (.int .i64 v) (O' := { O with count := v }) (fun _ _ _ _ => rfl) rfl rfl rfl own1 h
theorem op_old (v : Int) (own1 : Nat → Nat) (h : CAt w1 own1 ko o b O) : OPost w1 own1 ko o b { O with old := v } (w1.setCell ⟨o, 6, none⟩ (.int .i64 v)) := op_set (O := O) 6 (.int .i64 v) (O' := { O with old := v }) (fun _ _ _ _ => rfl) rfl rfl rfl own1 h
/-! ### swap -/
def swapO (V : AV) (B : BV) (O : CO) : CO :=
  if V.swapOk B.block (O.chain - 1) O.old then { O with done := true, err := 0, ok := true, stamp := hd0 O.list, values := [], fresh := 0, next := if O.old = 0 then 10 else 9 } else { O with err := 0, ok := false, stamp := 0, values := [], next := 8 }
set_option maxHeartbeats 4000000 in
theorem CoSwap_any (h0 : CPost q ko a y b o V Y B O w0 own w) (hq : q + 4 ≤ ko) (hf : V.faults < 1000000000000000) (hc1 : 1 ≤ O.chain) (hc2 : O.chain ≤ 1000) (hl : 0 < O.list.length) :
    Calls Try.prog 49 #[.pointer (some ⟨o, 0, none⟩)] w fun e w' => (∃ r, e = .returned r) ∧ CPost q ko a y b o (V.swap B.block (O.chain - 1) O.old O.fresh) Y B (swapO V B O) w0 own w' := by
  have HSd := Lib.hid h0.drew
  obtain ⟨fa, fc, la, lc, va, vc, ⟨⟨c0, c1, c2, c3, c4, c5, c6, c7, c8, c9, c10, c11, c12, c13, c14, c15⟩, ⟨b0, b1, b2, b3⟩⟩, ⟨f5, f6, f7, f8, f9, f10, f11, f12, f13, f14, f15⟩, hol, hbl, _⟩ := h0.cells
  clear h0
  go_enter Try.func49, Try.ntmps49
  go_wp2_with fail
  refine wp_region_plan2 [(true, 0, [1, 2, 3, 4, 5, 6, 27, 28, 29, 30, 31, 32]), (true, 7, [8, 9, 10, 11, 12, 13, 27, 28, 29, 30, 31, 32]), (true, 14, [15, 16, 17, 18, 27, 28, 29, 30, 31, 32]), (true, 15, [16, 17, 18, 27, 28, 29, 30, 31, 32]), (true, 16, [17, 18, 27, 28, 29, 30, 31, 32]), (true, 17, [18, 27, 28, 29, 30, 31, 32]), (true, 18, [27, 28, 29, 30, 31, 32]), (true, 1, [2, 3, 4, 5, 6, 27, 28, 29, 30, 31, 32]), (true, 2, [3, 4, 5, 6, 27, 28, 29, 30, 31, 32]), (true, 3, [4, 5, 6, 27, 28, 29, 30, 31, 32]), (true, 4, [5, 6, 27, 28, 29, 30, 31, 32]), (true, 5, [6, 27, 28, 29, 30, 31, 32]), (true, 6, [27, 28, 29, 30, 31, 32]), (true, 8, [9, 10, 11, 12, 13, 27, 28, 29, 30, 31, 32]), (true, 9, [10, 11, 12, 13, 27, 28, 29, 30, 31, 32]), (true, 10, [11, 12, 13, 27, 28, 29, 30, 31, 32]), (true, 11, [12, 13, 27, 28, 29, 30, 31, 32]), (true, 12, [13, 27, 28, 29, 30, 31, 32]), (true, 13, [27, 28, 29, 30, 31, 32]), (true, 19, [20, 21, 22, 27, 28, 29, 30, 31, 32]), (true, 20, [21, 22, 27, 28, 29, 30, 31, 32]), (true, 21, [22, 27, 28, 29, 30, 31, 32]), (true, 22, [27, 28, 29, 30, 31, 32]), (true, 23, [24, 25, 26, 27, 28, 29, 30, 31, 32]), (true, 24, [25, 26, 27, 28, 29, 30, 31, 32]), (true, 25, [26, 27, 28, 29, 30, 31, 32]), (true, 26, [27, 28, 29, 30, 31, 32]), (false, 27, []), (true, 28, [29, 30, 31, 32]), (true, 29, [31, 32]), (true, 30, [32]), (true, 31, [32]), (true, 32, [])] (by kernel_rfl) (by kernel_rfl) (fun _ _ _ d _ h => by cases d <;> exact h) ?_
  iterate 27 (refine plan_early rfl ?_; still_step; refine wpStill_nil ?_)
  refine plan_big rfl ?_
  obtain ⟨ownd, evd, lwd, hEd, hAd, hYd, hBd, hOd⟩ := HSd.out
  go_wp2_with fail
  refine (Swap_any hAd hf B.block (O.chain - 1) O.old O.fresh).mono ?_
  rintro e w2 ⟨rfl, own2, hE2, hA2⟩
  have HS2 := Lib.hid (CPost.arena2 hq hEd hYd hBd hOd hE2 hA2)
  clear hEd hAd hYd hBd hOd hE2 hA2 HSd c0 c1 c2 c3 c4 c5 c6 c7 c8 c9 c10 c11 c12 c13 c14 c15 b0 b1 b2 b3 f5 f6 f7 f8 f9 f10 f11 f12 f13 f14 f15 hol hbl
  obtain ⟨fa, fc, la, lc, va, vc, ⟨⟨c0, c1, c2, c3, c4, c5, c6, c7, c8, c9, c10, c11, c12, c13, c14, c15⟩, ⟨b0, b1, b2, b3⟩⟩, ⟨f5, f6, f7, f8, f9, f10, f11, f12, f13, f14, f15⟩, hol, hbl, hlist⟩ := HS2.out.cells
  obtain ⟨g, rfl, hgl, hgc⟩ := hlist 0 hl
  rw [head_get _ hl] at hgc
  clear hlist
  go_wp2_with fail
  iterate 5 (refine plan_early rfl ?_; still_step; refine wpStill_nil ?_)
  refine plan_nil ?_
  cases hok : V.swapOk B.block (O.chain - 1) O.old with
  | true =>
    have hll : (0 : Int) < (O.list.length : Int) := by omega
    by_cases hold : O.old = 0
    · have HOO := Lib.hid (show { O with done := true, err := 0, ok := true, stamp := hd0 O.list, values := [], fresh := 0, next := 10 } = swapO V B O by unfold swapO; rw [if_pos hok, if_pos hold])
      have HP := Lib.hid (((((((HS2.out.op hq (op_done true)).op hq (op_ans 0 true (hd0 O.list))).op hq (op_fresh 0)).op hq (op_next 9)).op hq (op_next 10)).as rfl rfl HOO.out))
      have hob : (O.old == 0) = true := by simp [hold]
      clear hok HOO hold
      go_wp2_with fail
      go_end0
      exact ⟨⟨_, rfl⟩, HP.out⟩
    · have HOO := Lib.hid (show { O with done := true, err := 0, ok := true, stamp := hd0 O.list, values := [], fresh := 0, next := 9 } = swapO V B O by unfold swapO; rw [if_pos hok, if_neg hold])
      have HP := Lib.hid ((((((HS2.out.op hq (op_done true)).op hq (op_ans 0 true (hd0 O.list))).op hq (op_fresh 0)).op hq (op_next 9)).as rfl rfl HOO.out))
      have hob : (O.old == 0) = false := by simp [hold]
      clear hok HOO hold
      go_wp2_with fail
      go_end0
      exact ⟨⟨_, rfl⟩, HP.out⟩
  | false =>
    have HOO := Lib.hid (show { O with err := 0, ok := false, stamp := 0, values := [], next := 8 } = swapO V B O by unfold swapO; rw [if_neg (by rw [hok]; decide)])
    have HP := Lib.hid ((((HS2.out.op hq (op_ans 0 false 0)).op hq (op_next 8)).as rfl rfl HOO.out))
    clear hok HOO
    go_wp2_with fail
    refine bodyPost_ret (results_none rfl _ _ _) rfl ?_
    exact ⟨⟨_, rfl⟩, HP.out⟩
end
end Go.Proofs.Ytefhngbeodnldaa
