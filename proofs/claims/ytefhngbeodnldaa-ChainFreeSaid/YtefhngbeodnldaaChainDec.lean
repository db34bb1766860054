/- Layer 5: what is settled once all is read. Printed by gen_chain.py from chaindec.in. -/
import Derived.Test.YtefhngbeodnldaaChainFin
import Derived.Deep.DeepCutAuto
set_option maxRecDepth 20000
set_option linter.unusedVariables false
set_option linter.unusedSimpArgs false
namespace Go.Proofs.Ytefhngbeodnldaa
open Go.RowKit Go.PM
theorem run_minC (ts : Array TypeId) (ty : TypeId) (a b : Int) (w : World) : (Builtin.min_ ts ty #[.int .i64 a, .int .i64 b]).run Try.prog w = .ok (.int .i64 (min a b)) w := by
  simp only [Builtin.min_, List.foldlM_cons, List.foldlM_nil, Builtin.min2]
  have : (if b < a then b else a) = min a b := by split <;> omega
  simp [← this]
def CO.now (O : CO) : List Int := O.found.drop 1
/-- What is to be, but for the stamp. -/
def CO.pre (O : CO) : List Int := if O.what = 2 then O.now.eraseIdx (lidx O.now O.value).toNat else if O.what = 1 then O.value :: O.now else O.now ++ [O.value]
theorem pre_len (O : CO) (hl : O.found.length ≤ 300) : O.pre.length ≤ 1000 := by
  have h1 : O.now.length ≤ 300 := by unfold CO.now; rw [List.length_drop]; omega
  have h2 := List.length_eraseIdx_le O.now (lidx O.now O.value).toNat
  unfold CO.pre
  split
  · omega
  · split
    · rw [List.length_cons]; omega
    · rw [List.length_append, List.length_singleton]; omega
def atOf (O : CO) : Int := if O.what = 1 then 0 else (O.now.length : Int)
theorem lidx_lt (xs : List Int) (x : Int) : lidx xs x < xs.length := by
  unfold lidx idxP
  split
  · rename_i i h
    have := (List.findIdx?_eq_some_iff_getElem.1 h).1
    omega
  · omega
def CO.built (O : CO) : CO := { O with next := 5, list := (O.st + 1) :: O.pre }
def limFull (Y : YV) (O : CO) : Bool := decide (0 < O.old) && decide (Y.bound ≤ (Y.limboN O.t : Int))
def builds (O : CO) : Bool := !(decide (O.what = 3)) && (if O.what = 2 then decide (0 ≤ lidx O.now O.value) else decide (O.now.length < 200))
def decV (V : AV) (Y : YV) (O : CO) : AV := if builds O && limFull Y O then dropsV Y V Y.limbo else V
def decY (Y : YV) (O : CO) : YV := if builds O && limFull Y O then Y.sweep else Y
def decO (V : AV) (Y : YV) (O : CO) : CO :=
  if O.what = 3 then { O with next := 10, err := 0, ok := true, stamp := O.st, values := O.now }
  else if O.what = 2 ∧ lidx O.now O.value < 0 then { O with next := 4 }
  else if O.what ≠ 2 ∧ 200 ≤ O.now.length then { O with next := 5, list := O.now }.fail 3
  else if limFull Y O ∧ (Y.bound ≤ (Y.sweep.limboN O.t : Int)) then O.built.fail 43
  else O.built
section
variable {w w1 w0 : World} {own : Nat → Nat} {q ko a y b o : Nat} {V V' : AV} {Y Y' : YV} {B : BV} {O O' : CO}
theorem CoBound_any {own : Nat → Nat} {k : Nat} {ev lv : Value} (hY : Yard w own k y a Y ev lv) : Calls Try.prog 45 #[.pointer (some ⟨y, 0, none⟩)] w fun e w' => e = .returned (.int .i64 Y.bound) ∧ w' = w := by
  obtain ⟨c0, c1, c2, c3, c4⟩ := five_y hY.box
  clear hY
  go_enter Try.func45, Try.ntmps45
  go_wp2_with fail
  go_ret
  exact ⟨rfl, rfl⟩
/-- The list is put, its row of other memory. -/
theorem CPost.putL {own1 own2 : Nat → Nat} {ev lw fv lv vv lv' : Value} {w2 : World} {xs : List Int} (hq : q + 4 ≤ ko) (h1 : Ext (fun c => c = q + 1 ∨ c = q + 2 ∨ OpC ko c) w0 w1 own own1) (h2 : Arena w1 own1 (q + 1) a V) (h3 : Yard w1 own1 (q + 2) y a Y ev lw) (h4 : BaseAt w1 own1 (q + 3) b a y B)
    (h5 : CX w1 own1 ko o b O fv lv vv) (hE : Ext (fun c => c = ko + 2) w1 w2 own1 own2) (hr : Row w2 own2 (ko + 2) 2 1 lv' xs.length (irow xs)) : CPost q ko a y b o V Y B { O with list := xs } w0 own (w2.setCell ⟨o, 9, none⟩ lv') := by
  have hb := h5.box.ext hE (by omega)
  have hf := (h5.found.ext hE (by omega)).setCell_other (a := ⟨o, 9, none⟩) hb.at_ (CO.ne64 _ _ _ _ _) lv'
  have hv := (h5.values.ext hE (by omega)).setCell_other (a := ⟨o, 9, none⟩) hb.at_ (CO.ne64 _ _ _ _ _) lv'
  have hl := hr.setCell_other (a := ⟨o, 9, none⟩) hb.at_ (CO.ne64 _ _ _ _ _) lv'
  have hX : Ext (OpC ko) w1 (w2.setCell ⟨o, 9, none⟩ lv') own1 own2 := (hE.mono (fun c hc => by unfold OpC; omega)).trans (extO Ext.refl (fun _ => by rw [hb.col]; exact ⟨by omega, by omega⟩) 9 lv')
  have hbs := Blk.setCell hb 9 lv'
  exact ⟨own2, ev, lw, h1.trans (hX.mono (fun c hc => .inr (.inr hc))), h2.ext hX (by unfold OpC; omega), h3.ext hX (by unfold OpC; omega), h4.ext hX (by unfold OpC; omega), fv, lv', vv, hbs, hf, hl, hv⟩
/-- The answer is put, its row of new memory. -/
theorem CPost.putA {own1 : Nat → Nat} {ev lw fv lv vv vv' : Value} {w2 : World} {vs : List Int} (hq : q + 4 ≤ ko) (h1 : Ext (fun c => c = q + 1 ∨ c = q + 2 ∨ OpC ko c) w0 w1 own own1) (h2 : Arena w1 own1 (q + 1) a V) (h3 : Yard w1 own1 (q + 2) y a Y ev lw) (h4 : BaseAt w1 own1 (q + 3) b a y B)
    (h5 : CX w1 own1 ko o b O fv lv vv) (hB : Below w1.heap.size w1 w2) (hr : Row w2 (PM.ow own1 w1.heap.size (ko + 3)) (ko + 3) 2 1 vv' vs.length (irow vs)) (er : Int) (ok : Bool) (st : Int) :
    CPost q ko a y b o V Y B { O with err := er, ok := ok, stamp := st, values := vs } w0 own ((((w2.setCell ⟨o, 12, none⟩ (.int .i64 er)).setCell ⟨o, 13, none⟩ (.bool ok)).setCell ⟨o, 14, none⟩ (.int .i64 st)).setCell ⟨o, 15, none⟩ vv') := by
  have hE : Ext (fun _ => False) w1 w2 own1 (PM.ow own1 w1.heap.size (ko + 3)) := Ext.of_below hB own1 (ko + 3)
  obtain ⟨h6, h7⟩ := (h5.ext hE (fun _ _ _ h => h)).ans er ok st hr
  have hX := (hE.mono (M' := OpC ko) (fun c hc => hc.elim)).trans h7
  exact ⟨_, ev, lw, h1.trans (hX.mono (fun c hc => .inr (.inr hc))), h2.ext hX (by unfold OpC; omega), h3.ext hX (by unfold OpC; omega), h4.ext hX (by unfold OpC; omega), _, _, _, h6⟩
theorem Insert01_any {w : World} {own : Nat → Nat} {k n r : Nat} {v : Value} {xs : List Int} (hR : Row w own k 2 1 v n (irow xs)) (hn : n = xs.length) (hl : n ≤ 1000) (c : Prop) [Decidable c] (at_ : Int) (ha : at_ = if c then 0 else (n : Int)) (x : Int) (hq : w.heap.size = r) :
    Calls Try.prog 43 #[v, .int .i64 at_, .slice (some ⟨r, 0, none⟩) 1 1] (w.alloc (.cells #[.int .i64 x] 2)) fun e w' => ∃ v' own', e = .returned v' ∧ Row w' own' k 2 1 v' (n + 1) (irow (if c then x :: xs else xs ++ [x])) ∧ Ext (fun c => c = k) w w' own own' := by
  by_cases hc : c
  · rw [if_pos hc] at ha ⊢
    subst ha
    exact InsertF_any hR hn hl x hq
  · rw [if_neg hc] at ha ⊢
    subst ha
    exact InsertE_any hR hn hl x hq
/-- What holds in a world behind others, where but rows of the list's colour have turned. -/
structure OpIn (q ko a y b o : Nat) (B : BV) (O : CO) (fv lv vv : Value) (own : Nat → Nat) (w : World) : Prop where
  cells : CCells a y b o B O fv lv vv w
  free : CFree o w
  ol : o < w.heap.size
theorem CX.opin {ow1 ow2 : Nat → Nat} {w2 : World} {fv lv vv : Value} (h5 : CX w1 ow1 ko o b O fv lv vv) (h4 : BaseAt w1 ow1 (q + 3) b a y B) (hq : q + 4 ≤ ko) (hE : Ext (fun c => c = ko + 2) w1 w2 ow1 ow2) : OpIn q ko a y b o B O fv lv vv ow2 w2 := by
  have hb := h5.box.ext hE (by omega)
  exact ⟨⟨⟨hb.cell 0, hb.cell 1, hb.cell 2, hb.cell 3, hb.cell 4, hb.cell 5, hb.cell 6, hb.cell 7, hb.cell 8, hb.cell 9, hb.cell 10, hb.cell 11, hb.cell 12, hb.cell 13, hb.cell 14, hb.cell 15⟩, (BaseAt.y (h4.ext hE (by omega)))⟩, ⟨hb.free 5, hb.free 6, hb.free 7, hb.free 8, hb.free 9, hb.free 10, hb.free 11, hb.free 12, hb.free 13, hb.free 14, hb.free 15⟩, hb.lt⟩
def DecMid1 (q ko a y b o : Nat) (V : AV) (Y : YV) (B : BV) (O : CO) (w0 : World) (own : Nat → Nat) (s2 : Value) (wx : World) : Prop :=
  (∃ na nc, s2 = .slice na O.now.length nc) ∧ Vw (wx.setCell ⟨o, 5, none⟩ (.int .i64 5)) s2 O.now ∧ CPost q ko a y b o V Y B O w0 own wx
set_option maxHeartbeats 8000000 in
theorem CoDecide_any (h0 : CPost q ko a y b o V Y B O w0 own w) (hq : q + 4 ≤ ko) (hl : O.found.length ≤ 300) (hs1 : 0 ≤ O.st) (hs2 : O.st < 1000000000000000) (hf : V.faults + Y.limbo.length < 800000000000000) (hlm : Y.limbo.length ≤ 3000000000000) :
    Calls Try.prog 26 #[.pointer (some ⟨o, 0, none⟩)] w fun e w' => (∃ r, e = .returned r) ∧ CPost q ko a y b o (decV V Y O) (decY Y O) B (decO V Y O) w0 own w' := by
  have HS := Lib.hid h0
  have hmn := run_minC
  clear h0
  go_enter Try.func26, Try.ntmps26
  go_upto_region 0 with fail
  go_cut [2] (fun s2 wx => DecMid1 q ko a y b o V Y B O w0 own s2 wx)
  case first =>
    obtain ⟨own1, ev, lw, h1, h2, h3, h4, fv, lv, vv, h5⟩ := id HS.out
    have HD := Lib.hid HS.out.drew
    have hcc : CCells a y b o B O fv lv vv w := ⟨h5.y, h4.y⟩
    have hfr := (h5.found.drew).setCell_other (a := ⟨o, 5, none⟩) (w := w.drew) h5.box.at_ (CO.ne64 _ _ _ _ _) (.int .i64 5)
    clear h1 h2 h3 h4 h5
    by_cases hn0 : O.found.length = 0
    · have hfn : O.found = [] := List.length_eq_zero_iff.1 hn0
      have HN := Lib.hid (show O.now = [] by unfold CO.now; rw [hfn]; rfl)
      have HVW := Lib.hid (show Vw (w.drew.setCell ⟨o, 5, none⟩ (.int .i64 5)) fv [] by have := Row.vw0 hfr rfl (by omega); rw [hfn] at this; exact this)
      obtain ⟨fa, fc, rfl⟩ := hfr.shape
      rw [hn0] at hcc HVW
      clear hfr hfn hn0 HS
      have hm0 : min (1 : Int) 0 = 0 := by omega
      cases fa with
      | none =>
        refine wp_region_plan5 [.early 0 [1, 2, 3, 10, 11], .early 1 [2, 3, 10, 11], .early 2 [3, 10, 11], .early 3 [10, 11], .early 4 [5, 6, 7, 8, 9, 10, 11], .early 5 [6, 7, 8, 9, 10, 11], .early 6 [7, 8, 9, 10, 11], .early 7 [8, 9, 10, 11], .early 8 [9, 10, 11], .early 9 [10, 11], .early 10 [11], .early 11 []] 12 (CCells a y b o B O (.slice none 0 fc) lv vv) (by kernel_rfl) (by kernel_rfl) (fun _ _ _ d _ h => by cases d <;> exact h) (hcc) ?_
        iterate 12
          apply plan5_early
          case hi => rfl
          case h =>
            intro w9 hf
            obtain ⟨⟨c0, c1, c2, c3, c4, c5, c6, c7, c8, c9, c10, c11, c12, c13, c14, c15⟩, ⟨b0, b1, b2, b3⟩⟩ := hf
            still_step
            exact wpStill_nil rfl
        refine plan5_nil ?_
        go_wp2_with fail
        go_meet
        exact ⟨⟨_, _, by rw [HN.out]; rfl⟩, by rw [HN.out]; exact HVW.out, HD.out⟩
      | some ad =>
        obtain ⟨g, off, sp⟩ := ad
        refine wp_region_plan5 [.early 0 [1, 2, 3, 10, 11], .early 1 [2, 3, 10, 11], .early 2 [3, 10, 11], .early 3 [10, 11], .early 4 [5, 6, 7, 8, 9, 10, 11], .early 5 [6, 7, 8, 9, 10, 11], .early 6 [7, 8, 9, 10, 11], .early 7 [8, 9, 10, 11], .early 8 [9, 10, 11], .early 9 [10, 11], .early 10 [11], .early 11 []] 12 (CCells a y b o B O (.slice (some ⟨g, off, sp⟩) 0 fc) lv vv) (by kernel_rfl) (by kernel_rfl) (fun _ _ _ d _ h => by cases d <;> exact h) (hcc) ?_
        iterate 12
          apply plan5_early
          case hi => rfl
          case h =>
            intro w9 hf
            obtain ⟨⟨c0, c1, c2, c3, c4, c5, c6, c7, c8, c9, c10, c11, c12, c13, c14, c15⟩, ⟨b0, b1, b2, b3⟩⟩ := hf
            still_step
            exact wpStill_nil rfl
        refine plan5_nil ?_
        go_wp2_with fail
        go_meet
        exact ⟨⟨_, _, by rw [HN.out]; rfl⟩, by rw [HN.out]; exact HVW.out, HD.out⟩
    · obtain ⟨fa, fc, rfl⟩ := hfr.shape
      obtain ⟨g, rfl, hg, hnc, hcm, -, hvw⟩ := Row.vw hfr rfl (by omega) 1 (by omega) (by omega)
      have hm0 : min (1 : Int) (O.found.length : Int) = 1 := by omega
      have hlen : O.now.length = O.found.length - 1 := by unfold CO.now; rw [List.length_drop]
      have HN := Lib.hid hlen
      have HVW := Lib.hid hvw
      have h1n : (1 : Int) ≤ (O.found.length : Int) := by omega
      clear hfr hvw HS hlen
      by_cases hfc : fc = 1
      · have hf1 : O.found.length = 1 := by omega
        have HN2 := Lib.hid (show O.now = [] from List.length_eq_zero_iff.1 (by rw [HN.out, hf1]))
        rw [hf1] at hcc hm0 h1n
        subst hfc
        clear hn0 hnc hcm
        refine wp_region_plan5 [.early 0 [1, 2, 3, 10, 11], .early 1 [2, 3, 10, 11], .early 2 [3, 10, 11], .early 3 [10, 11], .early 4 [5, 6, 7, 8, 9, 10, 11], .early 5 [6, 7, 8, 9, 10, 11], .early 6 [7, 8, 9, 10, 11], .early 7 [8, 9, 10, 11], .early 8 [9, 10, 11], .early 9 [10, 11], .early 10 [11], .early 11 []] 12 (CCells a y b o B O (.slice (some ⟨g, 0, none⟩) 1 1) lv vv) (by kernel_rfl) (by kernel_rfl) (fun _ _ _ d _ h => by cases d <;> exact h) (hcc) ?_
        iterate 12
          apply plan5_early
          case hi => rfl
          case h =>
            intro w9 hf
            obtain ⟨⟨c0, c1, c2, c3, c4, c5, c6, c7, c8, c9, c10, c11, c12, c13, c14, c15⟩, ⟨b0, b1, b2, b3⟩⟩ := hf
            still_step
            exact wpStill_nil rfl
        refine plan5_nil ?_
        go_wp2_with fail
        go_meet
        exact ⟨⟨_, _, by rw [HN2.out]; rfl⟩, by rw [HN2.out]; exact ⟨by simp, .inr ⟨g, 0, 0, rfl, by simp, by unfold maxLen; omega, hg, fun j x hj => by simp at hj⟩⟩, HD.out⟩
      · generalize hfl : O.found.length = n at *
        clear hn0
        refine wp_region_plan5 [.early 0 [1, 2, 3, 10, 11], .early 1 [2, 3, 10, 11], .early 2 [3, 10, 11], .early 3 [10, 11], .early 4 [5, 6, 7, 8, 9, 10, 11], .early 5 [6, 7, 8, 9, 10, 11], .early 6 [7, 8, 9, 10, 11], .early 7 [8, 9, 10, 11], .early 8 [9, 10, 11], .early 9 [10, 11], .early 10 [11], .early 11 []] 12 (CCells a y b o B O (.slice (some ⟨g, 0, none⟩) n fc) lv vv) (by kernel_rfl) (by kernel_rfl) (fun _ _ _ d _ h => by cases d <;> exact h) (hcc) ?_
        iterate 12
          apply plan5_early
          case hi => rfl
          case h =>
            intro w9 hf
            obtain ⟨⟨c0, c1, c2, c3, c4, c5, c6, c7, c8, c9, c10, c11, c12, c13, c14, c15⟩, ⟨b0, b1, b2, b3⟩⟩ := hf
            still_step
            exact wpStill_nil rfl
        refine plan5_nil ?_
        go_wp2_with fail
        go_meet
        exact ⟨⟨_, _, by rw [HN.out]⟩, HVW.out, HD.out⟩
  case rest =>
    obtain ⟨⟨na, nc, rfl⟩, hvw, hC⟩ := hcut
    have HVW := Lib.hid hvw
    have HS1 := Lib.hid (hC.op hq (op_next 5))
    have hpl : O.pre.length ≤ 1000 := pre_len O hl
    have hnl : O.now.length ≤ 300 := by unfold CO.now; rw [List.length_drop]; omega
    obtain ⟨fa, fc, la, lc, va, vc, ⟨⟨c0, c1, c2, c3, c4, c5, c6, c7, c8, c9, c10, c11, c12, c13, c14, c15⟩, ⟨b0, b1, b2, b3⟩⟩, ⟨f5, f6, f7, f8, f9, f10, f11, f12, f13, f14, f15⟩, hol, hbl, hlist⟩ := hC.cells
    clear hvw hC HS hlist
    go_upto_region 2 with fail
    clear c0 c1 c2 c3 c4 c5 c6 c7 c8 c9 c10 c11 c12 c13 c14 c15 b0 b1 b2 b3 f5 f6 f7 f8 f9 f10 f11 f12 f13 f14 f15 hol hbl
    generalize wc.setCell ⟨o, 5, none⟩ (.int .i64 5) = w1 at *
    obtain ⟨fa, fc, la, lc, va, vc, ⟨⟨c0, c1, c2, c3, c4, c5, c6, c7, c8, c9, c10, c11, c12, c13, c14, c15⟩, ⟨b0, b1, b2, b3⟩⟩, ⟨f5, f6, f7, f8, f9, f10, f11, f12, f13, f14, f15⟩, hol, hbl, hlist⟩ := HS1.out.cells
    dsimp only at c0 c1 c2 c3 c4 c5 c6 c7 c8 c9 c10 c11 c12 c13 c14 c15 b0 b1 b2 b3
    clear hlist
    go_upto_region 10 with fail
    rename_i KT hKT K10 hK10
    have HT : ∀ (u1 u2 u3 u4 u5 u6 u7 u8 u9 u10 u11 u12 u13 u14 u15 u16 u17 u18 u19 u20 u21 u22 u23 u24 u25 u26 u27 u28 u29 u30 u31 u32 u33 u34 u35 u36 u37 u38 u39 u40 u41 u42 u43 u44 u45 u46 u47 u48 u49 u50 u51 u52 u53 u54 u55 u56 u57 u58 u59 u60 u61 u62 u63 u64 u65 u66 u67 u68 u69 u70 u71 u72 u73 u74 u75 u76 u77 u78 u79 u80 u81 u82 u83 u84 u85 u86 u87 u88 u89 u90 u91 u92 u93 u94 u95 u96 u97 u98 u99 u100 u101 u102 u103 u104 u105 u106 u107 u108 u109 u110 u111 u112 u113 u114 u115 u116 u117 u118 u119 u120 u121 u122 u123 u124 u125 u126 u127 u128 u129 u130 u131 u132 u133 u134 u135 u136 u137 u138 u139 u140 u141 u142 u143 u144 u145 u146 u147 u148 u149 u150 u151 u152 u153 u154 u155 u156 u157 u158 u159 : Value) (w7 : World), Hid (decO V Y O = if limFull Y O ∧ (Y.bound ≤ (Y.sweep.limboN O.t : Int)) then O.built.fail 43 else O.built) → Hid (builds O = true) → CPost q ko a y b o V Y B { O with next := 5, list := O.pre } w0 own w7 → KT { tmps := #[.pointer (some ⟨o, 0, none⟩), u1, u2, u3, u4, u5, u6, u7, u8, u9, u10, u11, u12, u13, u14, u15, u16, u17, u18, u19, u20, u21, u22, u23, u24, u25, u26, u27, u28, u29, u30, u31, u32, u33, u34, u35, u36, u37, u38, u39, u40, u41, u42, u43, u44, u45, u46, u47, u48, u49, u50, u51, u52, u53, u54, u55, u56, u57, u58, u59, u60, u61, u62, u63, u64, u65, u66, u67, u68, u69, u70, u71, u72, u73, u74, u75, u76, u77, u78, u79, u80, u81, u82, u83, u84, u85, u86, u87, u88, u89, u90, u91, u92, u93, u94, u95, u96, u97, u98, u99, u100, u101, u102, u103, u104, u105, u106, u107, u108, u109, u110, u111, u112, u113, u114, u115, u116, u117, u118, u119, u120, u121, u122, u123, u124, u125, u126, u127, u128, u129, u130, u131, u132, u133, u134, u135, u136, u137, u138, u139, u140, u141, u142, u143, u144, u145, u146, u147, u148, u149, u150, u151, u152, u153, u154, u155, u156, u157, u158, u159], defers := [] } w7 := by
      intro u1 u2 u3 u4 u5 u6 u7 u8 u9 u10 u11 u12 u13 u14 u15 u16 u17 u18 u19 u20 u21 u22 u23 u24 u25 u26 u27 u28 u29 u30 u31 u32 u33 u34 u35 u36 u37 u38 u39 u40 u41 u42 u43 u44 u45 u46 u47 u48 u49 u50 u51 u52 u53 u54 u55 u56 u57 u58 u59 u60 u61 u62 u63 u64 u65 u66 u67 u68 u69 u70 u71 u72 u73 u74 u75 u76 u77 u78 u79 u80 u81 u82 u83 u84 u85 u86 u87 u88 u89 u90 u91 u92 u93 u94 u95 u96 u97 u98 u99 u100 u101 u102 u103 u104 u105 u106 u107 u108 u109 u110 u111 u112 u113 u114 u115 u116 u117 u118 u119 u120 u121 u122 u123 u124 u125 u126 u127 u128 u129 u130 u131 u132 u133 u134 u135 u136 u137 u138 u139 u140 u141 u142 u143 u144 u145 u146 u147 u148 u149 u150 u151 u152 u153 u154 u155 u156 u157 u158 u159 w7 HDEC HBD hS8
      have HS8 := Lib.hid hS8
      clear hS8 HVW HS1 hmn hnl c0 c1 c2 c3 c4 c5 c6 c7 c8 c9 c10 c11 c12 c13 c14 c15 b0 b1 b2 b3 f5 f6 f7 f8 f9 f10 f11 f12 f13 f14 f15 hol hbl
      apply hKT
      clear hKT hK10
      go_upto_region 18 with fail
      obtain ⟨own5, ev5, lw5, hE5, hA5, hY5, hB5, fv5, lv5, vv5, hX5⟩ := HS8.out.drew
      have HCC := Lib.hid (fun w9 own9 (hE : Ext (fun c => c = ko + 2) w7.drew w9 own5 own9) => CX.opin hX5 hB5 hq hE)
      have HIN := Lib.hid (fun z => InsertF_any hX5.list rfl (by show O.pre.length ≤ 1000; exact hpl) z (rfl : w7.drew.heap.size = w7.drew.heap.size))
      have HPL := Lib.hid (fun w9 own9 lv9 xs (hE : Ext (fun c => c = ko + 2) w7.drew w9 own5 own9) hr => CPost.putL (w2 := w9) (lv' := lv9) (xs := xs) hq hE5 hA5 hY5 hB5 hX5 hE hr)
      have HST := Lib.hid (show Calls Try.prog 39 #[.pointer (some ⟨o, 0, none⟩)] w7.drew fun e w' => e = .returned (.int .i64 O.st) ∧ w' = w7.drew from CoStamp_any (O := { O with next := 5, list := O.pre }) ⟨_, _, _, hX5⟩)
      clear hE5 hA5 hY5
      refine wp_region_plan5 [.early 0 [10, 11, 12], .early 1 [2, 3, 4, 9, 10, 11, 12], .early 2 [3, 4, 9, 10, 11, 12], .early 3 [4, 9, 10, 11, 12], .early 4 [9, 10, 11, 12], .early 5 [6, 7, 8, 9, 10, 11, 12], .big 6, .early 7 [8, 9, 10, 11, 12], .big 8, .big 9, .early 10 [11, 12], .early 11 [12], .big 12] 12 (CCells a y b o B { O with next := 5, list := O.pre } fv5 lv5 vv5) (by kernel_rfl) (by kernel_rfl) (fun _ _ _ d _ h => by cases d <;> exact h) (⟨hX5.y, hB5.y⟩) ?_
      clear hX5 hB5
      generalize w7.drew = wd at *
      iterate 6
        apply plan5_early
        case hi => rfl
        case h =>
          intro w9 hf
          obtain ⟨⟨c0, c1, c2, c3, c4, c5, c6, c7, c8, c9, c10, c11, c12, c13, c14, c15⟩, ⟨b0, b1, b2, b3⟩⟩ := hf
          still_step
          exact wpStill_nil rfl
      refine plan5_big rfl ?_
      go_wp2_with fail
      refine HST.out.mono ?_
      rintro e w9 ⟨rfl, rfl⟩
      go_wp2_with fail
      refine ⟨fun _ => (HCC.out _ _ Ext.refl).cells, ?_⟩
      iterate 1
        apply plan5_early
        case hi => rfl
        case h =>
          intro w9 hf
          clear hf
          still_step
          exact wpStill_nil rfl
      refine plan5_big rfl ?_
      go_wp2_with fail
      refine ⟨fun _ => (HCC.out _ _ (Ext.refl.alloc _)).cells, ?_⟩
      refine plan5_big rfl ?_
      go_wp2_with fail
      refine (HIN.out (O.st + 1)).mono ?_
      rintro e w8 ⟨v8, own8, rfl, hr8, hE8⟩
      have HOI := Lib.hid (HCC.out w8 own8 hE8)
      obtain ⟨a8, c8', rfl⟩ := hr8.shape
      have HS9 := Lib.hid (HPL.out w8 own8 _ ((O.st + 1) :: O.pre) hE8 hr8)
      clear hr8 hE8 HPL HIN HCC HST
      go_wp2_with fail
      refine ⟨fun _ => HOI.out.cells, ?_⟩
      iterate 2
        apply plan5_early
        case hi => rfl
        case h =>
          intro w9 hf
          clear hf
          still_step
          exact wpStill_nil rfl
      refine plan5_big rfl ?_
      obtain ⟨⟨⟨c0, c1, c2, c3, c4, c5, c6, c7, c8, c9, c10, c11, c12, c13, c14, c15⟩, ⟨b0, b1, b2, b3⟩⟩, ⟨f5, f6, f7, f8, f9, f10, f11, f12, f13, f14, f15⟩, hol⟩ := HOI.out
      go_wp2_with fail
      refine plan5_nil ?_
      have HSA : Hid (CPost q ko a y b o V Y B { O with next := 5, list := (O.st + 1) :: O.pre } w0 own (w8.setCell ⟨o, 9, none⟩ (.slice a8 (O.pre.length + 1) c8'))) := HS9
      go_upto_region 19 with fail
      clear c0 c1 c2 c3 c4 c5 c6 c7 c8 c9 c10 c11 c12 c13 c14 c15 b0 b1 b2 b3 f5 f6 f7 f8 f9 f10 f11 f12 f13 f14 f15 hol HS9 HOI
      generalize (w8.setCell ⟨o, 9, none⟩ (.slice a8 (O.pre.length + 1) c8')) = wa at *
      obtain ⟨ownA, evA, lwA, hEA, hAA, hYA, hBA, fvA, lvA, vvA, hXA⟩ := HSA.out.drew
      have HCC := Lib.hid (fun w9 own9 (hE : Ext (fun c => c = ko + 2) wa.drew w9 ownA own9) => CX.opin hXA hBA hq hE)
      have HYD := Lib.hid (fun w9 (hB : Below wa.drew.heap.size wa.drew w9) => hYA.ext (M := fun _ => False) (ext_same ownA hB) (fun h => h))
      have HSD := Lib.hid HSA.out.drew
      by_cases hold : 0 < O.old
      · have hob : decide (0 < O.old) = true := by simp [hold]
        refine wp_region_plan5 [.early 0 [1, 2, 3, 4, 5, 6, 7, 8, 9, 10, 11, 12, 13, 14, 15, 16, 17, 18, 19, 20, 21, 22, 23, 24, 25, 26, 27], .early 1 [2, 3, 4, 5, 6, 7, 8, 9, 10, 11, 12, 13, 14, 15, 16, 17, 18, 19, 20, 21, 22, 23, 24, 25, 26, 27], .early 2 [3, 4, 5, 6, 7, 8, 9, 10, 11, 12, 13, 14, 15, 16, 17, 18, 19, 20, 21, 22, 23, 24, 25, 26, 27], .early 3 [4, 5, 6, 7, 8, 9, 10, 11, 12, 13, 14, 15, 16, 17, 18, 19, 20, 21, 22, 23, 24, 25, 26, 27], .early 4 [5, 6, 7, 8, 9, 10, 11, 12, 13, 14, 15, 16, 17, 18, 19, 20, 21, 22, 23, 24, 25, 26, 27], .early 5 [6, 7, 8, 9, 10, 11, 12, 13, 14, 15, 16, 17, 18, 19, 20, 21, 22, 23, 24, 25, 26, 27], .early 6 [7, 8, 9, 10, 11, 12, 17, 25, 26, 27], .early 7 [8, 9, 10, 11, 12, 17, 25, 26, 27], .early 8 [9, 10, 11, 12, 17, 25, 26, 27], .early 9 [10, 11, 12, 17, 25, 26, 27], .early 10 [11, 12, 17, 25, 26, 27], .early 11 [12, 17, 25, 26, 27], .early 12 [17, 25, 26, 27], .early 13 [14, 15, 16, 17, 25, 26, 27], .early 14 [15, 16, 17, 25, 26, 27], .early 15 [16, 17, 25, 26, 27], .early 16 [17, 25, 26, 27], .early 18 [19, 20, 21, 22, 23, 24, 25, 26, 27], .early 19 [20, 21, 22, 23, 24, 25, 26, 27], .early 20 [21, 22, 23, 24, 25, 26, 27], .early 21 [22, 23, 24, 25, 26, 27], .early 22 [23, 24, 25, 26, 27], .early 23 [24, 25, 26, 27], .early 24 [25, 26, 27], .big 17, .big 25, .early 26 [27], .early 27 []] 28 (CCells a y b o B { O with next := 5, list := (O.st + 1) :: O.pre } fvA lvA vvA) (by kernel_rfl) (by kernel_rfl) (fun _ _ _ d _ h => by cases d <;> exact h) (⟨hXA.y, hBA.y⟩) ?_
        clear hEA hAA hYA hBA hXA HSA
        generalize wa.drew = wd at *
        iterate 24
          apply plan5_early
          case hi => rfl
          case h =>
            intro w9 hf
            obtain ⟨⟨c0, c1, c2, c3, c4, c5, c6, c7, c8, c9, c10, c11, c12, c13, c14, c15⟩, ⟨b0, b1, b2, b3⟩⟩ := hf
            still_step
            exact wpStill_nil rfl
        refine plan5_big rfl ?_
        go_wp2_with fail
        refine (Limbo_any (HYD.out _ (Below.refl _ _)) (by omega) O.t).mono ?_
        rintro e w9 ⟨rfl, hB9⟩
        have HB9 := Lib.hid hB9
        clear hB9
        go_wp2_with fail
        refine ⟨fun _ => (HCC.out _ _ (ext_same ownA HB9.out)).cells, ?_⟩
        refine plan5_big rfl ?_
        go_wp2_with fail
        refine (CoBound_any (HYD.out _ HB9.out)).mono ?_
        rintro e wb ⟨rfl, rfl⟩
        go_wp2_with fail
        refine ⟨fun _ => (HCC.out _ _ (ext_same ownA HB9.out)).cells, ?_⟩
        iterate 2
          apply plan5_early
          case hi => rfl
          case h =>
            intro w9 hf
            clear hf
            still_step
            exact wpStill_nil rfl
        refine plan5_nil ?_
        have HSB := Lib.hid (HSD.out.quiet HB9.out)
        clear HCC HYD HSD HB9
        by_cases hfull : Y.bound ≤ (Y.limboN O.t : Int)
        · have hfb : decide (Y.bound ≤ (Y.limboN O.t : Int)) = true := by simp [hfull]
          have hlf : limFull Y O = true := by unfold limFull; rw [hob, hfb]; rfl
          have HP1 := Lib.hid (show dropsV Y V Y.limbo = decV V Y O by unfold decV; rw [hlf, HBD.out]; rfl)
          have HP2 := Lib.hid (show Y.sweep = decY Y O by unfold decY; rw [hlf, HBD.out]; rfl)
          have HDEC2 := Lib.hid (show decO V Y O = if Y.bound ≤ (Y.sweep.limboN O.t : Int) then O.built.fail 43 else O.built by rw [HDEC.out, hlf]; simp)
          clear hlf
          obtain ⟨fa, fc, la, lc, va, vc, ⟨⟨c0, c1, c2, c3, c4, c5, c6, c7, c8, c9, c10, c11, c12, c13, c14, c15⟩, ⟨b0, b1, b2, b3⟩⟩, ⟨f5, f6, f7, f8, f9, f10, f11, f12, f13, f14, f15⟩, hol, hbl, hlist⟩ := HSB.out.cells
          dsimp only at c0 c1 c2 c3 c4 c5 c6 c7 c8 c9 c10 c11 c12 c13 c14 c15 b0 b1 b2 b3
          obtain ⟨ownB, evB, lwB, hEB, hAB, hYB, hBB, hOB⟩ := HSB.out
          go_wp2_with fail
          refine (Sweep_any hAB hYB (by omega) (by omega) (by omega)).mono ?_
          rintro e wd2 ⟨lw2, own2, rfl, hE2, hA2, hY2⟩
          have HSC := Lib.hid (CPost.both2 hq hEB hBB hOB hE2 hA2 hY2)
          clear hEB hAB hYB hBB hOB hE2 hA2 hY2 HSB
          clear c0 c1 c2 c3 c4 c5 c6 c7 c8 c9 c10 c11 c12 c13 c14 c15 b0 b1 b2 b3 f5 f6 f7 f8 f9 f10 f11 f12 f13 f14 f15 hol hbl hlist
          go_upto_region 21 with fail
          obtain ⟨ownC, evC, lwC, hEC, hAC, hYC, hBC, fvC, lvC, vvC, hXC⟩ := HSC.out.drew
          have HCC := Lib.hid (fun w9 own9 (hE : Ext (fun c => c = ko + 2) wd2.drew w9 ownC own9) => CX.opin hXC hBC hq hE)
          have HYD := Lib.hid (fun w9 (hB : Below wd2.drew.heap.size wd2.drew w9) => hYC.ext (M := fun _ => False) (ext_same ownC hB) (fun h => h))
          have HSD := Lib.hid HSC.out.drew
          have hsl : (Y.sweep.limbo.length : Nat) ≤ 4000000000000 := by have h1 := List.length_filter_le Y.held Y.limbo; have h2 : Y.sweep.limbo.length ≤ Y.limbo.length := h1; omega
          refine wp_region_plan5 [.early 0 [1, 2, 3, 4, 5, 6, 11, 19, 20], .early 1 [2, 3, 4, 5, 6, 11, 19, 20], .early 2 [3, 4, 5, 6, 11, 19, 20], .early 3 [4, 5, 6, 11, 19, 20], .early 4 [5, 6, 11, 19, 20], .early 5 [6, 11, 19, 20], .early 6 [11, 19, 20], .early 7 [8, 9, 10, 11, 19, 20], .early 8 [9, 10, 11, 19, 20], .early 9 [10, 11, 19, 20], .early 10 [11, 19, 20], .early 12 [13, 14, 15, 16, 17, 18, 19, 20], .early 13 [14, 15, 16, 17, 18, 19, 20], .early 14 [15, 16, 17, 18, 19, 20], .early 15 [16, 17, 18, 19, 20], .early 16 [17, 18, 19, 20], .early 17 [18, 19, 20], .early 18 [19, 20], .big 11, .big 19, .early 20 []] 21 (CCells a y b o B { O with next := 5, list := (O.st + 1) :: O.pre } fvC lvC vvC) (by kernel_rfl) (by kernel_rfl) (fun _ _ _ d _ h => by cases d <;> exact h) (⟨hXC.y, hBC.y⟩) ?_
          clear hEC hAC hYC hBC hXC HSC
          generalize wd2.drew = wd3 at *
          iterate 18
            apply plan5_early
            case hi => rfl
            case h =>
              intro w9 hf
              obtain ⟨⟨c0, c1, c2, c3, c4, c5, c6, c7, c8, c9, c10, c11, c12, c13, c14, c15⟩, ⟨b0, b1, b2, b3⟩⟩ := hf
              still_step
              exact wpStill_nil rfl
          refine plan5_big rfl ?_
          go_wp2_with fail
          refine (Limbo_any (HYD.out _ (Below.refl _ _)) hsl O.t).mono ?_
          rintro e w9 ⟨rfl, hB9⟩
          have HB9 := Lib.hid hB9
          clear hB9
          go_wp2_with fail
          refine ⟨fun _ => (HCC.out _ _ (ext_same ownC HB9.out)).cells, ?_⟩
          refine plan5_big rfl ?_
          go_wp2_with fail
          refine ((show Calls Try.prog 45 #[.pointer (some ⟨y, 0, none⟩)] w9 fun e w' => e = .returned (.int .i64 Y.bound) ∧ w' = w9 from CoBound_any (Y := Y.sweep) (HYD.out _ HB9.out))).mono ?_
          rintro e wb3 ⟨rfl, rfl⟩
          go_wp2_with fail
          refine ⟨fun _ => (HCC.out _ _ (ext_same ownC HB9.out)).cells, ?_⟩
          iterate 1
            apply plan5_early
            case hi => rfl
            case h =>
              intro w9 hf
              clear hf
              still_step
              exact wpStill_nil rfl
          refine plan5_nil ?_
          have HSE := Lib.hid (HSD.out.quiet HB9.out)
          clear HCC HYD HSD HB9
          generalize hsn : (Y.sweep.limboN O.t) = sn at *
          clear hsn
          by_cases hf2 : Y.bound ≤ (sn : Int)
          · have HP3 := Lib.hid (show O.built.fail 43 = decO V Y O by rw [HDEC2.out, if_pos hf2])
            have hfb2 : decide (Y.bound ≤ (sn : Int)) = true := by simp [hf2]
            obtain ⟨ownF, evF, lwF, hEF, hAF, hYF, hBF, hOF⟩ := HSE.out
            have HF := Lib.hid (CoFail_any hOF 43)
            have HF2 := Lib.hid (fun w6 hp => (CPost.op2 (o := o) (w2 := w6) hq hEF hAF hYF hBF hp).as HP1.out HP2.out HP3.out)
            clear hEF hAF hYF hBF hOF HSE HDEC2 HP3 hfull hfb2
            go_wp2_with fail
            all_goals try (exfalso; omega)
            refine HF.out.mono ?_
            rintro e w6 ⟨⟨r, rfl⟩, hp⟩
            have HP := Lib.hid (HF2.out w6 hp)
            clear hp HF2 HF
            go_wp2_with fail
            go_end0
            exact ⟨⟨_, rfl⟩, HP.out⟩
          · have HP3 := Lib.hid (show O.built = decO V Y O by rw [HDEC2.out, if_neg hf2])
            have hfb2 : decide (Y.bound ≤ (sn : Int)) = false := by simp [hf2]
            have HP := Lib.hid (HSE.out.as HP1.out HP2.out HP3.out)
            clear HSE HDEC2 HP3 hfull hfb2
            go_wp2_with fail
            all_goals try (exfalso; omega)
            go_end0
            exact ⟨⟨_, rfl⟩, HP.out⟩
        · have hfb : decide (Y.bound ≤ (Y.limboN O.t : Int)) = false := by simp [hfull]
          have hlf : limFull Y O = false := by unfold limFull; rw [hfb]; simp
          have HP1 := Lib.hid (show V = decV V Y O by unfold decV; rw [hlf]; simp)
          have HP2 := Lib.hid (show Y = decY Y O by unfold decY; rw [hlf]; simp)
          have HP3 := Lib.hid (show O.built = decO V Y O by rw [HDEC.out, if_neg (by rw [hlf]; simp)])
          have HP := Lib.hid (HSB.out.as HP1.out HP2.out HP3.out)
          have hlt9 : ((Y.limboN O.t : Nat) : Int) < Y.bound := by omega
          clear hlf hfull HSB HP1 HP2 HP3 hfb
          generalize Y.limboN O.t = sn9 at *
          go_wp2_with fail
          all_goals try (exfalso; omega)
          go_end0
          exact ⟨⟨_, rfl⟩, HP.out⟩
      · have hob : decide (0 < O.old) = false := by simp [hold]
        have hlf : limFull Y O = false := by unfold limFull; rw [hob]; rfl
        have HP1 := Lib.hid (show V = decV V Y O by unfold decV; rw [hlf]; simp)
        have HP2 := Lib.hid (show Y = decY Y O by unfold decY; rw [hlf]; simp)
        have HP3 := Lib.hid (show O.built = decO V Y O by rw [HDEC.out, if_neg (by rw [hlf]; simp)])
        clear hlf
        refine wp_region_plan5 [.early 0 [1, 2, 3, 4, 5, 6, 7, 8, 9, 10, 11, 12, 13, 14, 15, 16, 17, 18, 19, 20, 21, 22, 23, 24, 25, 26, 27], .early 1 [2, 3, 4, 5, 6, 7, 8, 9, 10, 11, 12, 13, 14, 15, 16, 17, 18, 19, 20, 21, 22, 23, 24, 25, 26, 27], .early 2 [3, 4, 5, 6, 7, 8, 9, 10, 11, 12, 13, 14, 15, 16, 17, 18, 19, 20, 21, 22, 23, 24, 25, 26, 27], .early 3 [4, 5, 6, 7, 8, 9, 10, 11, 12, 13, 14, 15, 16, 17, 18, 19, 20, 21, 22, 23, 24, 25, 26, 27], .early 4 [5, 6, 7, 8, 9, 10, 11, 12, 13, 14, 15, 16, 17, 18, 19, 20, 21, 22, 23, 24, 25, 26, 27], .early 5 [6, 7, 8, 9, 10, 11, 12, 13, 14, 15, 16, 17, 18, 19, 20, 21, 22, 23, 24, 25, 26, 27], .early 6 [7, 8, 9, 10, 11, 12, 17, 25, 26, 27], .early 7 [8, 9, 10, 11, 12, 17, 25, 26, 27], .early 8 [9, 10, 11, 12, 17, 25, 26, 27], .early 9 [10, 11, 12, 17, 25, 26, 27], .early 10 [11, 12, 17, 25, 26, 27], .early 11 [12, 17, 25, 26, 27], .early 12 [17, 25, 26, 27], .early 13 [14, 15, 16, 17, 25, 26, 27], .early 14 [15, 16, 17, 25, 26, 27], .early 15 [16, 17, 25, 26, 27], .early 16 [17, 25, 26, 27], .early 18 [19, 20, 21, 22, 23, 24, 25, 26, 27], .early 19 [20, 21, 22, 23, 24, 25, 26, 27], .early 20 [21, 22, 23, 24, 25, 26, 27], .early 21 [22, 23, 24, 25, 26, 27], .early 22 [23, 24, 25, 26, 27], .early 23 [24, 25, 26, 27], .early 24 [25, 26, 27], .big 17, .big 25, .early 26 [27], .early 27 []] 28 (CCells a y b o B { O with next := 5, list := (O.st + 1) :: O.pre } fvA lvA vvA) (by kernel_rfl) (by kernel_rfl) (fun _ _ _ d _ h => by cases d <;> exact h) (⟨hXA.y, hBA.y⟩) ?_
        clear hEA hAA hYA hBA hXA HSA
        generalize wa.drew = wd at *
        iterate 24
          apply plan5_early
          case hi => rfl
          case h =>
            intro w9 hf
            obtain ⟨⟨c0, c1, c2, c3, c4, c5, c6, c7, c8, c9, c10, c11, c12, c13, c14, c15⟩, ⟨b0, b1, b2, b3⟩⟩ := hf
            still_step
            exact wpStill_nil rfl
        refine plan5_big rfl ?_
        go_wp2_with fail
        refine ⟨(HCC.out _ _ Ext.refl).cells, ?_⟩
        refine plan5_big rfl ?_
        go_wp2_with fail
        refine ⟨fun _ => (HCC.out _ _ Ext.refl).cells, ?_⟩
        iterate 2
          apply plan5_early
          case hi => rfl
          case h =>
            intro w9 hf
            clear hf
            still_step
            exact wpStill_nil rfl
        refine plan5_nil ?_
        have HP := Lib.hid (HSD.out.as HP1.out HP2.out HP3.out)
        clear HCC HYD HSD HP1 HP2 HP3
        go_wp2_with fail
        go_end0
        exact ⟨⟨_, rfl⟩, HP.out⟩
    clear hKT
    by_cases hA : O.what = 3
    · have hA1 : (O.what == 3) = true := by simp [hA]
      have HOO := Lib.hid (show { O with next := 10, err := 0, ok := true, stamp := O.st, values := O.now } = decO V Y O by unfold decO; rw [if_pos hA])
      have HVV := Lib.hid (show V = decV V Y O by unfold decV builds; rw [hA]; rfl)
      have HYY := Lib.hid (show Y = decY Y O by unfold decY builds; rw [hA]; rfl)
      obtain ⟨own1, ev1, lw1, hE1, hA1, hY1, hB1, fv1, lv1, vv1, hX1⟩ := HS1.out
      have HST := Lib.hid (CoStamp_any ⟨_, _, _, hX1⟩)
      have HPA := Lib.hid (fun w2 v' hB hr => CPost.putA (w2 := w2) (vv' := v') (vs := O.now) hq hE1 hA1 hY1 hB1 hX1 hB hr 0 true O.st)
      have HCX := Lib.hid (fun w2 (hB : Below w1.heap.size w1 w2) => hX1.ext (M := fun _ => False) (ext_same own1 hB) (fun _ _ _ h => h))
      clear hA hE1 hA1 hY1 hB1 hX1
      go_wp2_with fail
      refine HST.out.mono ?_
      rintro e w3 ⟨rfl, rfl⟩
      go_wp2_with fail
      refine (Clone_any HVW.out (PM.ow own1 w3.heap.size (ko + 3)) (k := ko + 3) (fun b hb => ow_ge hb)).mono ?_
      rintro e w4 ⟨v', rfl, hB4, hr4⟩
      have HP := Lib.hid (((HPA.out w4 v' hB4 hr4).op hq (op_next 10)).as HVV.out HYY.out HOO.out)
      obtain ⟨va', vc', rfl⟩ := hr4.shape
      have hx4 := HCX.out w4 hB4
      obtain ⟨d0, d1, d2, d3, d4, d5, d6, d7, d8, d9, d10, d11, d12, d13, d14, d15⟩ := hx4.y
      obtain ⟨g5, g6, g7, g8, g9, g10, g11, g12, g13, g14, g15⟩ := hx4.f
      dsimp only at d0 d1 d2 d3 d4 d5 d6 d7 d8 d9 d10 d11 d12 d13 d14 d15
      have hol4 := hx4.box.lt
      clear c0 c1 c2 c3 c4 c5 c6 c7 c8 c9 c10 c11 c12 c13 c14 c15 b0 b1 b2 b3 f5 f6 f7 f8 f9 f10 f11 f12 f13 f14 f15 hol hbl hx4 HCX hB4 hr4 HPA HST HVW HS1
      go_wp2_with fail
      refine bodyPost_ret (results_none rfl _ _ _) rfl ?_
      exact ⟨⟨_, rfl⟩, HP.out⟩
    have hA2 : (O.what == 3) = false := by simp [hA]
    by_cases hC : O.what = 2
    · have hC2 : (O.what == 2) = true := by simp [hC]
      by_cases hi : lidx O.now O.value < 0
      · have HOO := Lib.hid (show { O with next := 4 } = decO V Y O by unfold decO; rw [if_neg hA, if_pos ⟨hC, hi⟩])
        have hbd : builds O = false := by unfold builds; rw [if_pos hC]; simp; intro _; omega
        have HVV := Lib.hid (show V = decV V Y O by unfold decV; rw [hbd]; rfl)
        have HYY := Lib.hid (show Y = decY Y O by unfold decY; rw [hbd]; rfl)
        have HIX := Lib.hid (Index_any HVW.out O.value)
        have HP := Lib.hid ((HS1.out.op hq (op_next 4)).as HVV.out HYY.out HOO.out)
        clear hA hC hbd HS1
        generalize lidx O.now O.value = ix at *
        go_wp2_with fail
        refine HIX.out.mono ?_
        rintro e w3 ⟨rfl, rfl⟩
        clear HIX
        go_wp2_with fail
        refine bodyPost_ret (results_none rfl _ _ _) rfl ?_
        exact ⟨⟨_, rfl⟩, HP.out⟩
      · have hi0 : 0 ≤ lidx O.now O.value := by omega
        have hilt := lidx_lt O.now O.value
        obtain ⟨i, hii⟩ := Int.eq_ofNat_of_zero_le hi0
        have hil : i < O.now.length := by omega
        have hbd : builds O = true := by unfold builds; rw [if_pos hC]; simp; exact ⟨hA, hi0⟩
        have hdec : decO V Y O = if limFull Y O ∧ (Y.bound ≤ (Y.sweep.limboN O.t : Int)) then O.built.fail 43 else O.built := by unfold decO; rw [if_neg hA, if_neg (fun h => hi h.2), if_neg (fun h => h.1 hC)]
        have HBD := Lib.hid hbd
        have HDEC := Lib.hid hdec
        have hpre : O.now.eraseIdx i = O.pre := by unfold CO.pre; rw [if_pos hC, hii]; rfl
        have hpn : O.pre.length = O.now.length - 1 := by rw [← hpre, List.length_eraseIdx, if_pos hil]
        have HPRE := Lib.hid hpre
        have HPN := Lib.hid hpn
        have HIX := Lib.hid (show Calls Try.prog 40 #[.slice na O.now.length nc, .int .i64 O.value] w1 fun e w' => e = .returned (.int .i64 (i : Int)) ∧ w' = w1 from by rw [← hii]; exact Index_any HVW.out O.value)
        obtain ⟨own1, ev1, lw1, hE1, hA1, hY1, hB1, fv1, lv1, vv1, hX1⟩ := HS1.out
        have HPL := Lib.hid (fun w2 own2 (hE : Ext (fun c => c = ko + 2) w1 w2 own1 own2) v' hr => CPost.putL (w2 := w2) (lv' := v') (xs := O.pre) hq hE1 hA1 hY1 hB1 hX1 hE hr)
        have HCX := Lib.hid (fun w2 own2 (hE : Ext (fun c => c = ko + 2) w1 w2 own1 own2) => CX.opin hX1 hB1 hq hE)
        clear hA hC hbd hdec hpre hpn hE1 hA1 hY1 hB1 hX1 hi hi0 hilt hii HS1
        go_wp2_with fail
        refine HIX.out.mono ?_
        rintro e w3 ⟨rfl, rfl⟩
        clear HIX
        go_wp2_with fail
        refine (Clone_any HVW.out (PM.ow own1 w3.heap.size (ko + 2)) (k := ko + 2) (fun b hb => ow_ge hb)).mono ?_
        rintro e w4 ⟨v', rfl, hB4, hr4⟩
        have HB4 := Lib.hid hB4
        have HR4 := Lib.hid hr4
        obtain ⟨va', vc', rfl⟩ := hr4.shape
        clear hB4 hr4 HVW
        go_wp2_with fail
        refine (DeleteL_any HR4.out rfl (by omega) hil).mono ?_
        rintro e w6 ⟨v6, rfl, hr6, hE6⟩
        obtain ⟨a6, c6', rfl⟩ := hr6.shape
        have hE16 := (Ext.of_below HB4.out own1 (ko + 2) (M := fun c => c = ko + 2)).trans hE6
        have HS8 := Lib.hid (HPL.out w6 _ hE16 _ (by rw [HPN.out, ← HPRE.out]; exact hr6))
        have HOI := Lib.hid (HCX.out w6 _ hE16)
        clear hr6 hE6 hE16 HPL HCX HB4 HR4
        clear c0 c1 c2 c3 c4 c5 c6 c7 c8 c9 c10 c11 c12 c13 c14 c15 b0 b1 b2 b3 f5 f6 f7 f8 f9 f10 f11 f12 f13 f14 f15 hol hbl
        obtain ⟨⟨⟨c0, c1, c2, c3, c4, c5, c6, c7, c8, c9, c10, c11, c12, c13, c14, c15⟩, ⟨b0, b1, b2, b3⟩⟩, ⟨f5, f6, f7, f8, f9, f10, f11, f12, f13, f14, f15⟩, hol⟩ := HOI.out
        go_wp2_with fail
        exact HT _ _ _ _ _ _ _ _ _ _ _ _ _ _ _ _ _ _ _ _ _ _ _ _ _ _ _ _ _ _ _ _ _ _ _ _ _ _ _ _ _ _ _ _ _ _ _ _ _ _ _ _ _ _ _ _ _ _ _ _ _ _ _ _ _ _ _ _ _ _ _ _ _ _ _ _ _ _ _ _ _ _ _ _ _ _ _ _ _ _ _ _ _ _ _ _ _ _ _ _ _ _ _ _ _ _ _ _ _ _ _ _ _ _ _ _ _ _ _ _ _ _ _ _ _ _ _ _ _ _ _ _ _ _ _ _ _ _ _ _ _ _ _ _ _ _ _ _ _ _ _ _ _ _ _ _ _ _ _ _ HDEC HBD HS8.out
    · have hC2 : (O.what == 2) = false := by simp [hC]
      by_cases hn : 200 ≤ O.now.length
      · have HOO := Lib.hid (show ({ O with next := 5, list := O.now } : CO).fail 3 = decO V Y O by unfold decO; rw [if_neg hA, if_neg (fun h => hC h.1), if_pos ⟨hC, hn⟩])
        have hbd : builds O = false := by unfold builds; rw [if_neg hC]; simp; intro _; omega
        have HVV := Lib.hid (show V = decV V Y O by unfold decV; rw [hbd]; rfl)
        have HYY := Lib.hid (show Y = decY Y O by unfold decY; rw [hbd]; rfl)
        obtain ⟨own1, ev1, lw1, hE1, hA1, hY1, hB1, fv1, lv1, vv1, hX1⟩ := HS1.out
        have HPL := Lib.hid (fun w2 (hB : Below w1.heap.size w1 w2) v' hr => CPost.putL (w2 := w2) (lv' := v') (xs := O.now) hq hE1 hA1 hY1 hB1 hX1 (Ext.of_below hB own1 (ko + 2)) hr)
        have HCX := Lib.hid (fun w2 (hB : Below w1.heap.size w1 w2) => hX1.ext (M := fun _ => False) (ext_same own1 hB) (fun _ _ _ h => h))
        clear hA hC hbd hE1 hA1 hY1 hB1 hX1
        go_wp2_with fail
        refine (Clone_any HVW.out (PM.ow own1 w1.heap.size (ko + 2)) (k := ko + 2) (fun b hb => ow_ge hb)).mono ?_
        rintro e w4 ⟨v', rfl, hB4, hr4⟩
        have HS4 := Lib.hid (HPL.out w4 hB4 v' hr4)
        obtain ⟨va', vc', rfl⟩ := hr4.shape
        have hx4 := HCX.out w4 hB4
        obtain ⟨d0, d1, d2, d3, d4, d5, d6, d7, d8, d9, d10, d11, d12, d13, d14, d15⟩ := hx4.y
        obtain ⟨g5, g6, g7, g8, g9, g10, g11, g12, g13, g14, g15⟩ := hx4.f
        dsimp only at d0 d1 d2 d3 d4 d5 d6 d7 d8 d9 d10 d11 d12 d13 d14 d15
        have hol4 := hx4.box.lt
        obtain ⟨own5, ev5, lw5, hE5, hA5, hY5, hB5, hO5⟩ := HS4.out
        have HF := Lib.hid (CoFail_any hO5 3)
        have HF2 := Lib.hid (fun w6 hp => (CPost.op2 (o := o) (w2 := w6) hq hE5 hA5 hY5 hB5 hp).as HVV.out HYY.out HOO.out)
        clear c0 c1 c2 c3 c4 c5 c6 c7 c8 c9 c10 c11 c12 c13 c14 c15 b0 b1 b2 b3 f5 f6 f7 f8 f9 f10 f11 f12 f13 f14 f15 hol hbl hx4 HCX hB4 hr4 HPL HVW HS1 hE5 hA5 hY5 hB5 hO5 HS4
        go_wp2_with fail
        refine HF.out.mono ?_
        rintro e w6 ⟨⟨r, rfl⟩, hp⟩
        have HP := Lib.hid (HF2.out w6 hp)
        clear hp HF2 HF
        go_wp2_with fail
        refine bodyPost_ret (results_none rfl _ _ _) rfl ?_
        exact ⟨⟨_, rfl⟩, HP.out⟩
      · have hnn : O.now.length < 200 := by omega
        have hbd : builds O = true := by unfold builds; rw [if_neg hC]; simp; exact ⟨hA, hnn⟩
        have hdec : decO V Y O = if limFull Y O ∧ (Y.bound ≤ (Y.sweep.limboN O.t : Int)) then O.built.fail 43 else O.built := by unfold decO; rw [if_neg hA, if_neg (fun h => hC h.1), if_neg (fun h => hn h.2)]
        have HBD := Lib.hid hbd
        have HDEC := Lib.hid hdec
        obtain ⟨own1, ev1, lw1, hE1, hA1, hY1, hB1, fv1, lv1, vv1, hX1⟩ := HS1.out
        have HPL1 := Lib.hid (fun w2 (hB : Below w1.heap.size w1 w2) v' hr => CPost.putL (w2 := w2) (lv' := v') (xs := O.now) hq hE1 hA1 hY1 hB1 hX1 (Ext.of_below hB own1 (ko + 2)) hr)
        have HCX1 := Lib.hid (fun w2 (hB : Below w1.heap.size w1 w2) => hX1.ext (M := fun _ => False) (ext_same own1 hB) (fun _ _ _ h => h))
        clear hbd hdec hE1 hA1 hY1 hB1 hX1
        go_wp2_with fail
        refine (Clone_any HVW.out (PM.ow own1 w1.heap.size (ko + 2)) (k := ko + 2) (fun b hb => ow_ge hb)).mono ?_
        rintro e w4 ⟨v', rfl, hB4, hr4⟩
        have HS5 := Lib.hid (HPL1.out w4 hB4 v' hr4)
        obtain ⟨va', vc', rfl⟩ := hr4.shape
        have hx4 := HCX1.out w4 hB4
        obtain ⟨d0, d1, d2, d3, d4, d5, d6, d7, d8, d9, d10, d11, d12, d13, d14, d15⟩ := hx4.y
        obtain ⟨g5, g6, g7, g8, g9, g10, g11, g12, g13, g14, g15⟩ := hx4.f
        dsimp only at d0 d1 d2 d3 d4 d5 d6 d7 d8 d9 d10 d11 d12 d13 d14 d15
        have hol4 := hx4.box.lt
        clear c0 c1 c2 c3 c4 c5 c6 c7 c8 c9 c10 c11 c12 c13 c14 c15 b0 b1 b2 b3 f5 f6 f7 f8 f9 f10 f11 f12 f13 f14 f15 hol hbl hx4 HCX1 hB4 hr4 HPL1 HVW HS1
        go_upto_region 4 with fail
        clear d0 d1 d2 d3 d4 d5 d6 d7 d8 d9 d10 d11 d12 d13 d14 d15 g5 g6 g7 g8 g9 g10 g11 g12 g13 g14 g15 hol4
        generalize w4.setCell ⟨o, 9, none⟩ (.slice va' O.now.length vc') = w5 at *
        obtain ⟨fa, fc, la, lc, va, vc, ⟨⟨c0, c1, c2, c3, c4, c5, c6, c7, c8, c9, c10, c11, c12, c13, c14, c15⟩, ⟨b0, b1, b2, b3⟩⟩, ⟨f5, f6, f7, f8, f9, f10, f11, f12, f13, f14, f15⟩, hol, hbl, hlist⟩ := HS5.out.cells
        dsimp only at c0 c1 c2 c3 c4 c5 c6 c7 c8 c9 c10 c11 c12 c13 c14 c15 b0 b1 b2 b3
        clear hlist
        have hpre : (if O.what = 1 then O.value :: O.now else O.now ++ [O.value]) = O.pre := by unfold CO.pre; rw [if_neg hC]
        have hpn : O.pre.length = O.now.length + 1 := by rw [← hpre]; split <;> simp
        have HPRE := Lib.hid hpre
        have HPN := Lib.hid hpn
        clear hpre hpn
        go_upto_if 39 with fail
        go_cut [4] (fun s4 wx => s4 = .int .i64 (atOf O) ∧ wx = w5)
        case first =>
          by_cases h1 : O.what = 1
          · have h1b : (O.what == 1) = true := by simp [h1]
            have HAT := Lib.hid (show atOf O = 0 by unfold atOf; rw [if_pos h1])
            clear h1
            go_wp2_with fail
            go_meet
            exact ⟨by rw [HAT.out], rfl⟩
          · have h1b : (O.what == 1) = false := by simp [h1]
            have HAT := Lib.hid (show atOf O = (O.now.length : Int) by unfold atOf; rw [if_neg h1])
            clear h1
            go_wp2_with fail
            go_meet
            exact ⟨by rw [HAT.out], rfl⟩
        case rest =>
          obtain ⟨rfl, rfl⟩ := hcut
          go_upto_region 9 with fail
          obtain ⟨own5, ev5, lw5, hE5, hA5, hY5, hB5, fv5, lv5, vv5, hX5⟩ := HS5.out.drew
          have HCC := Lib.hid (fun w9 own9 (hE : Ext (fun c => c = ko + 2) wc.drew w9 own5 own9) => CX.opin hX5 hB5 hq hE)
          have HIN := Lib.hid (fun z => Insert01_any hX5.list rfl (by show O.now.length ≤ 1000; omega) (O.what = 1) (atOf O) rfl z (rfl : wc.drew.heap.size = wc.drew.heap.size))
          have HPL := Lib.hid (fun w9 own9 lv9 xs (hE : Ext (fun c => c = ko + 2) wc.drew w9 own5 own9) hr => CPost.putL (w2 := w9) (lv' := lv9) (xs := xs) hq hE5 hA5 hY5 hB5 hX5 hE hr)
          clear hE5 hA5 hY5
          generalize atOf O = at4 at *
          refine wp_region_plan5 [.early 0 [12, 13, 14], .early 1 [2, 3, 4, 11, 12, 13, 14], .early 2 [3, 4, 11, 12, 13, 14], .early 3 [4, 11, 12, 13, 14], .early 4 [11, 12, 13, 14], .early 5 [11, 12, 13, 14], .early 6 [7, 8, 9, 10, 11, 12, 13, 14], .early 7 [8, 9, 10, 11, 12, 13, 14], .early 8 [9, 10, 11, 12, 13, 14], .early 9 [10, 11, 12, 13, 14], .big 10, .big 11, .early 12 [13, 14], .early 13 [14], .big 14] 14 (CCells a y b o B { O with next := 5, list := O.now } fv5 lv5 vv5) (by kernel_rfl) (by kernel_rfl) (fun _ _ _ d _ h => by cases d <;> exact h) (⟨hX5.y, hB5.y⟩) ?_
          clear hX5 hB5 HS5
          clear c0 c1 c2 c3 c4 c5 c6 c7 c8 c9 c10 c11 c12 c13 c14 c15 b0 b1 b2 b3 f5 f6 f7 f8 f9 f10 f11 f12 f13 f14 f15 hol hbl
          generalize wc.drew = wd at *
          iterate 10
            apply plan5_early
            case hi => rfl
            case h =>
              intro w9 hf
              obtain ⟨⟨c0, c1, c2, c3, c4, c5, c6, c7, c8, c9, c10, c11, c12, c13, c14, c15⟩, ⟨b0, b1, b2, b3⟩⟩ := hf
              still_step
              exact wpStill_nil rfl
          refine plan5_big rfl ?_
          go_wp2_with fail
          refine ⟨(HCC.out _ _ (Ext.refl.alloc _)).cells, ?_⟩
          refine plan5_big rfl ?_
          go_wp2_with fail
          refine (HIN.out O.value).mono ?_
          rintro e w6 ⟨v6, own6, rfl, hr6, hE6⟩
          have HOI := Lib.hid (HCC.out w6 own6 hE6)
          obtain ⟨a6, c6', rfl⟩ := hr6.shape
          have HS8 := Lib.hid (HPL.out w6 own6 _ O.pre hE6 (by rw [HPN.out, ← HPRE.out]; exact hr6))
          clear hr6 hE6 HPL HIN HCC
          go_wp2_with fail
          refine ⟨fun _ => HOI.out.cells, ?_⟩
          iterate 2
            apply plan5_early
            case hi => rfl
            case h =>
              intro w9 hf
              clear hf
              still_step
              exact wpStill_nil rfl
          refine plan5_big rfl ?_
          obtain ⟨⟨⟨c0, c1, c2, c3, c4, c5, c6, c7, c8, c9, c10, c11, c12, c13, c14, c15⟩, ⟨b0, b1, b2, b3⟩⟩, ⟨f5, f6, f7, f8, f9, f10, f11, f12, f13, f14, f15⟩, hol⟩ := HOI.out
          go_wp2_with fail
          refine plan5_nil ?_
          go_wp2_with fail
          exact HT _ _ _ _ _ _ _ _ _ _ _ _ _ _ _ _ _ _ _ _ _ _ _ _ _ _ _ _ _ _ _ _ _ _ _ _ _ _ _ _ _ _ _ _ _ _ _ _ _ _ _ _ _ _ _ _ _ _ _ _ _ _ _ _ _ _ _ _ _ _ _ _ _ _ _ _ _ _ _ _ _ _ _ _ _ _ _ _ _ _ _ _ _ _ _ _ _ _ _ _ _ _ _ _ _ _ _ _ _ _ _ _ _ _ _ _ _ _ _ _ _ _ _ _ _ _ _ _ _ _ _ _ _ _ _ _ _ _ _ _ _ _ _ _ _ _ _ _ _ _ _ _ _ _ _ _ _ _ _ _ HDEC HBD HS8.out
end
end Go.Proofs.Ytefhngbeodnldaa
