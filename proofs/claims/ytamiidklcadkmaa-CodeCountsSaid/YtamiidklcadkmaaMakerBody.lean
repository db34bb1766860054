/- maker.body: a body's piece of code, put behind what is there. Printed in part by gen_body.py. -/
import Derived.Test.YtamiidklcadkmaaBodyPure2
set_option maxRecDepth 20000
set_option linter.unusedVariables false
set_option linter.unusedSimpArgs false
namespace Go.Proofs.Ytamiidklcadkmaa
open Go.RowKit Go.PM
/-- What stands all along a body's call: the maker, the term, its box, the cut's box. -/
structure BC (w0 w : World) (own0 own : Nat → Nat) (mb : Nat) (p : ByteArray × Int) (vs slots : Int) (is : List In) (t : Tm) (k : Int) (s : ByteArray) (x : Int) (a : Option Addr) (l c : Nat) (cop ca : Int) (q : Nat) : Prop where
  mkr : Mk w own mb p vs slots is
  tv : TmV w (TC own) t (.agg #[.int .i64 k, .string s, .int .i64 x, .slice a l c])
  b4 : Blk w own 0 q (.cells #[.int .i64 k, .string s, .int .i64 x, .slice a l c] 24 (0, 0))
  b5 : Blk w own 0 (q + 1) (.cells #[.int .i64 cop, .int .i64 ca, .int .i64 0, .string noStr, .int .i64 0, .slice none 0 0] 48 (0, 0))
  ext : Ext MM w0 w own0 own
section
variable {w0 w w' : World} {own0 own own' : Nat → Nat} {mb : Nat} {p : ByteArray × Int} {vs slots : Int} {is : List In} {t : Tm} {k : Int} {s : ByteArray} {x : Int} {a : Option Addr} {l c : Nat} {cop ca : Int} {q : Nat}
theorem BC.still (h : BC w0 w own0 own mb p vs slots is t k s x a l c cop ca q) (e : Ext (fun _ => False) w w' own own') : BC w0 w' own0 own' mb p vs slots is t k s x a l c cop ca q :=
  ⟨h.mkr.ext e, TmV.mm h.tv (e.mono fun _ h => h.elim), h.b4.ext e id, h.b5.ext e id, h.ext.trans (e.mono fun _ h => h.elim)⟩
theorem BC.below (h : BC w0 w own0 own mb p vs slots is t k s x a l c cop ca q) (e : Below w.heap.size w w') : BC w0 w' own0 own mb p vs slots is t k s x a l c cop ca q := h.still (Ext_same own e)
theorem BC.post {slots' : Int} {is' : List In} {v : Value} {e : Ending} (h : BC w0 w own0 own mb p vs slots is t k s x a l c cop ca q) (k : MkPost w own mb p vs slots' is' v e w') : MkPost w0 own0 mb p vs slots' is' v e w' := MkPost.from h.ext k
theorem BC.c4 (h : BC w0 w own0 own mb p vs slots is t k s x a l c cop ca q) : w.cell? ⟨q, 0, none⟩ = some (.int .i64 k) ∧ w.cell? ⟨q, 1, none⟩ = some (.string s) ∧ w.cell? ⟨q, 2, none⟩ = some (.int .i64 x) ∧ w.cell? ⟨q, 3, none⟩ = some (.slice a l c) ∧ q < w.heap.size :=
  ⟨h.b4.cell 0, h.b4.cell 1, h.b4.cell 2, h.b4.cell 3, h.b4.lt⟩
theorem BC.c5 (h : BC w0 w own0 own mb p vs slots is t k s x a l c cop ca q) : w.cell? ⟨q + 1, 0, none⟩ = some (.int .i64 cop) ∧ w.cell? ⟨q + 1, 1, none⟩ = some (.int .i64 ca) ∧ w.cell? ⟨q + 1, 2, none⟩ = some (.int .i64 0) ∧ w.cell? ⟨q + 1, 3, none⟩ = some (.string noStr) ∧ w.cell? ⟨q + 1, 4, none⟩ = some (.int .i64 0) ∧ w.cell? ⟨q + 1, 5, none⟩ = some (.slice none 0 0) :=
  ⟨h.b5.cell 0, h.b5.cell 1, h.b5.cell 2, h.b5.cell 3, h.b5.cell 4, h.b5.cell 5⟩
/-- A test by atoms' names. -/
theorem BC.atom (h : BC w0 w own0 own mb p vs slots is t k s x a l c cop ca q) (ns : List ByteArray) (hl : ns.length ≤ 1000) {b : Nat} (hbq : b = w.heap.size) :
    Calls Try.prog 44 #[.agg #[.int .i64 k, .string s, .int .i64 x, .slice a l c], .slice (some ⟨b, 0, none⟩) ns.length ns.length] (w.alloc (.cells (ns.map Value.string).toArray 9)) fun e w' => e = .returned (.bool (Tm.atom t ns)) ∧ BC w0 w' own0 own mb p vs slots is t k s x a l c cop ca q := by
  subst hbq
  have hb : Below w.heap.size w (w.alloc (.cells (ns.map Value.string).toArray 9)) := (Below.refl _ _).alloc (Nat.le_refl _) _
  have hn := Blk.new (own := fun _ => 0) (k := 0) w (.cells (ns.map Value.string).toArray 9) rfl
  refine (atom_any t ns _ (TC own) _ (TmV.below h.tv hb) w.heap.size ns.length (by rw [World.size_alloc]; omega) (fun i hi => ?_) hl).mono ?_
  · rw [hn.cell]
    simp [hi]
  · rintro e w' ⟨he, hB⟩
    exact ⟨he, (h.below hb).below hB⟩
theorem BC.is_ (h : BC w0 w own0 own mb p vs slots is t k s x a l c cop ca q) (nm : ByteArray) :
    Calls Try.prog 45 #[.agg #[.int .i64 k, .string s, .int .i64 x, .slice a l c], .string nm] w fun e w' => e = .returned (.bool (Tm.two t nm)) ∧ BC w0 w' own0 own mb p vs slots is t k s x a l c cop ca q :=
  (is_any t nm w (TC own) _ h.tv).mono fun e w' ⟨he, hB⟩ => ⟨he, h.below hB⟩
end
theorem two_ne {t : Tm} {n1 n2 : ByteArray} (h : Tm.two t n1 = true) (hne : n1 ≠ n2) : Tm.two t n2 = false := by
  unfold Tm.two at h ⊢
  rw [Bool.and_eq_true, Bool.and_eq_true, decide_eq_true_iff, decide_eq_true_iff] at h
  rw [decide_eq_false (fun e => hne (h.2.1.symm.trans e)), Bool.false_and, Bool.and_false]
theorem sNot_list : sNot.toList = [92, 43] := by rw [ByteArray.toList_eq]; rfl
theorem sNot_ne {s : ByteArray} (h : ¬ s = sNot) : ¬ s.toList = [92, 43] := fun e => h (WideShapes.bytes_inj (by rw [← ByteArray.toList_eq, e]; rfl))
theorem failT_dp : Tm.dp failT = 1 := by unfold failT Tm.dp; rw [if_neg (by decide)]
theorem failV (w : World) (C : Nat → Prop) : TmV w C failT (.agg #[.int .i64 3, .string sFail, .int .i64 0, .slice none 0 0]) := by
  refine ⟨_, rfl, ?_, ?_, ?_, ?_⟩
  · unfold rng64; show -9223372036854775808 ≤ (3 : Int) ∧ (3 : Int) ≤ 9223372036854775807; decide
  · show sFail.size ≤ _; decide
  · unfold rng64; show -9223372036854775808 ≤ (0 : Int) ∧ (0 : Int) ≤ 9223372036854775807; decide
  · unfold failT Tm.At; exact .inl ⟨rfl, _, _, rfl⟩
set_option maxHeartbeats 4000000 in
theorem body_succ {n : Nat} (hbody : BodyOk n) : BodyOk (n + 1) := by
  intro t w own mb p vs slots is cop ca k s x a l c hm hv hc4 hc5 hr1 hr2 hd hl hs0 hs
  have hpos := sz_pos t
  have HBDY := Lib.hid hbody
  have HBD := Lib.hid (show bd (n + 1) t (In0 cop ca) slots = _ by rw [bd])
  have hX : Ext MM w ((w.alloc (.cells #[.int .i64 k, .string s, .int .i64 x, .slice a l c] 24)).alloc (.cells #[.int .i64 cop, .int .i64 ca, .int .i64 0, .string noStr, .int .i64 0, .slice none 0 0] 48)) own (ow own w.heap.size 0) := (ext_box 0 _).alloc _
  have h5 := Blk.new (own := ow own w.heap.size 0) (k := 0) (w.alloc (.cells #[.int .i64 k, .string s, .int .i64 x, .slice a l c] 24)) (.cells #[.int .i64 cop, .int .i64 ca, .int .i64 0, .string noStr, .int .i64 0, .slice none 0 0] 48) (ow_ge (by rw [World.size_alloc]; omega))
  rw [World.size_alloc] at h5
  have HBC := Lib.hid (show BC w _ own _ mb p vs slots is t k s x a l c cop ca w.heap.size from ⟨hm.ext ((ext_box 0 _).alloc _), TmV.mm hv hX, (Blk.new (own := ow own w.heap.size 0) (k := 0) w _ (ow_ge (Nat.le_refl _))).alloc _, h5, hX⟩)
  have HZ1 := Lib.hid (show ((w.alloc (.cells #[.int .i64 k, .string s, .int .i64 x, .slice a l c] 24)).alloc (.cells #[.int .i64 cop, .int .i64 ca, .int .i64 0, .string noStr, .int .i64 0, .slice none 0 0] 48)).heap.size = w.heap.size + 1 + 1 by rw [World.size_alloc, World.size_alloc])
  have EL := Lib.hid (at_len (TmV_at hv).2.2.2.2.2.2).1
  have EK := Lib.hid (TmV_at hv).1
  have ES := Lib.hid (TmV_at hv).2.1
  clear hm hv hX h5 hbody
  generalize hbdr : bd (n + 1) t (In0 cop ca) slots = R at *
  clear hbdr
  go_enter Try.func28, Try.ntmps28
  go_wp2_with fail
  generalize ((w.alloc (.cells #[.int .i64 k, .string s, .int .i64 x, .slice a l c] 24)).alloc (.cells #[.int .i64 cop, .int .i64 ca, .int .i64 0, .string noStr, .int .i64 0, .slice none 0 0] 48)) = w1 at *
  generalize ow own w.heap.size 0 = own1 at *
  generalize w.heap.size = q at *
  refine (BC.atom HBC.out [sTrue] (by decide) HZ1.out.symm).mono ?_
  rintro e w2 ⟨rfl, hbc⟩
  have HBC := Lib.hid hbc
  clear hbc
  obtain ⟨b0, b1, b2, b3, hq4⟩ := BC.c4 HBC.out
  by_cases h1 : Tm.atom t [sTrue] = true
  · rw [if_pos h1] at HBD
    rw [h1]
    clear h1
    have HP := Lib.hid (show MkPost w own mb p vs R.2 (is ++ place is.length R.1) (.tuple #[]) (.returned (.tuple #[])) w2 from BC.post HBC.out ⟨_, rfl, by rw [HBD.out, place, List.append_nil]; exact HBC.out.mkr, Ext.refl⟩)
    clear HBD
    go_wp2_with fail
    go_end0
    exact HP.out
  rw [if_neg h1] at HBD
  rw [Bool.not_eq_true] at h1
  rw [h1]
  clear h1
  go_wp2_with fail
  refine (BC.atom HBC.out [sFail, sFalse] (by decide) rfl).mono ?_
  rintro e w2 ⟨rfl, hbc⟩
  have HBC := Lib.hid hbc
  clear hbc
  obtain ⟨b0, b1, b2, b3, hq4⟩ := BC.c4 HBC.out
  by_cases h2 : Tm.atom t [sFail, sFalse] = true
  · rw [if_pos h2] at HBD
    rw [h2]
    clear h2
    go_wp2_with fail
    refine (add0 HBC.out.mkr 8 0 (by omega)).mono ?_
    rintro e w3 ⟨own3, rfl, hm3, hE3⟩
    have HP := Lib.hid (show MkPost w own mb p vs R.2 (is ++ place is.length R.1) (.tuple #[]) (.returned (.tuple #[])) w3 from BC.post HBC.out ⟨own3, rfl, by rw [HBD.out, place_one _ _ _ (by decide) (by decide), place]; exact hm3, hE3⟩)
    clear HBD hm3 hE3
    go_wp2_with fail
    go_end0
    exact HP.out
  rw [if_neg h2] at HBD
  rw [Bool.not_eq_true] at h2
  rw [h2]
  clear h2
  go_wp2_with fail
  refine (BC.atom HBC.out [sBang] (by decide) rfl).mono ?_
  rintro e w2 ⟨rfl, hbc⟩
  have HBC := Lib.hid hbc
  clear hbc
  obtain ⟨b0, b1, b2, b3, hq4⟩ := BC.c4 HBC.out
  by_cases h3 : Tm.atom t [sBang] = true
  · rw [if_pos h3] at HBD
    rw [h3]
    clear h3
    obtain ⟨d0, d1, d2, d3, d4, d5⟩ := BC.c5 HBC.out
    have hq5 : q + 1 < w2.heap.size := HBC.out.b5.lt
    go_wp2_with fail
    refine (add0 HBC.out.mkr cop ca (by omega)).mono ?_
    rintro e w3 ⟨own3, rfl, hm3, hE3⟩
    have HP := Lib.hid (show MkPost w own mb p vs R.2 (is ++ place is.length R.1) (.tuple #[]) (.returned (.tuple #[])) w3 from BC.post HBC.out ⟨own3, rfl, by rw [HBD.out, place_one _ _ _ hc4 hc5, place]; exact hm3, hE3⟩)
    clear HBD hm3 hE3
    go_wp2_with fail
    go_end0
    exact HP.out
  rw [if_neg h3] at HBD
  rw [Bool.not_eq_true] at h3
  rw [h3]
  clear h3
  go_wp2_with fail
  refine (BC.is_ HBC.out sComma).mono ?_
  rintro e w2 ⟨rfl, hbc⟩
  have HBC := Lib.hid hbc
  clear hbc
  obtain ⟨b0, b1, b2, b3, hq4⟩ := BC.c4 HBC.out
  by_cases h4 : Tm.two t sComma = true
  · rw [if_pos h4] at HBD
    rw [h4]
    obtain ⟨hk4, hln, hsz⟩ := two_sz h4
    have hdp0 := arg_dp (i := 0) hk4 (by omega)
    have hdp1 := arg_dp (i := 1) hk4 (by omega)
    have hl2 : l = 2 := by rw [EL.out]; exact hln
    subst hl2
    have hp0 := sz_pos (targ t 0)
    have hp1 := sz_pos (targ t 1)
    clear h4
    obtain ⟨g, o, rfl, hg, hgc, hargs⟩ := arg_cells HBC.out.tv (by omega)
    obtain ⟨a0, l0, c0, x0, x1, x2, x3, ht0⟩ := hargs 0 (by omega)
    simp only [Nat.zero_mul, Nat.add_zero] at x0 x1 x2 x3
    obtain ⟨a1, l1, c1, y0, y1, y2, y3, ht1⟩ := hargs 1 (by omega)
    simp only [Nat.one_mul] at y0 y1 y2 y3
    clear hargs
    obtain ⟨d0, d1, d2, d3, d4, d5⟩ := BC.c5 HBC.out
    have hq5 : q + 1 < w2.heap.size := HBC.out.b5.lt
    generalize Tm.k (targ t 0) = k0 at *
    generalize Tm.s (targ t 0) = s0 at *
    generalize Tm.x (targ t 0) = v0 at *
    generalize Tm.k (targ t 1) = k1 at *
    generalize Tm.s (targ t 1) = s1 at *
    generalize Tm.x (targ t 1) = v1 at *
    have HF : Hid (FactsAt own1 [(⟨q, 3, none⟩, .slice (some ⟨g, o, none⟩) 2 c), (⟨g, o, none⟩, .int .i64 k0), (⟨g, o + 1, none⟩, .string s0), (⟨g, o + 2, none⟩, .int .i64 v0), (⟨g, o + 3, none⟩, .slice a0 l0 c0), (⟨g, o + 4, none⟩, .int .i64 k1), (⟨g, o + 4 + 1, none⟩, .string s1), (⟨g, o + 4 + 2, none⟩, .int .i64 v1), (⟨g, o + 4 + 3, none⟩, .slice a1 l1 c1), (⟨q + 1, 0, none⟩, .int .i64 cop), (⟨q + 1, 1, none⟩, .int .i64 ca), (⟨q + 1, 2, none⟩, .int .i64 0), (⟨q + 1, 3, none⟩, .string noStr), (⟨q + 1, 4, none⟩, .int .i64 0), (⟨q + 1, 5, none⟩, .slice none 0 0)] w2) := Lib.hid ⟨Blk.fact HBC.out.b4 (by decide) b3, ⟨x0, hg, hgc, rfl⟩, ⟨x1, hg, hgc, rfl⟩, ⟨x2, hg, hgc, rfl⟩, ⟨x3, hg, hgc, rfl⟩, ⟨y0, hg, hgc, rfl⟩, ⟨y1, hg, hgc, rfl⟩, ⟨y2, hg, hgc, rfl⟩, ⟨y3, hg, hgc, rfl⟩, Blk.fact HBC.out.b5 (by decide) d0, Blk.fact HBC.out.b5 (by decide) d1, Blk.fact HBC.out.b5 (by decide) d2, Blk.fact HBC.out.b5 (by decide) d3, Blk.fact HBC.out.b5 (by decide) d4, Blk.fact HBC.out.b5 (by decide) d5, trivial⟩
    clear hg hgc x0 x1 x2 x3 y0 y1 y2 y3
    have hD : Ext MM w2 w2.drew own1 own1 := Ext.refl.drew
    have HF := Lib.hid (FactsAt.ext hD HF.out)
    have HBC := Lib.hid (BC.still HBC.out (Ext.refl.drew))
    have HT0 := Lib.hid (TmV.mm ht0 hD)
    have HT1 := Lib.hid (TmV.mm ht1 hD)
    clear ht0 ht1 hD
    clear b0 b1 b2 b3 hq4 d0 d1 d2 d3 d4 d5 hq5
    generalize targ t 0 = t0 at *
    generalize targ t 1 = t1 at *
    have hb1 := bd_le n t0 (In0 cop ca) slots
    go_wp2_with fail
    refine wp_region_plan4 [(true, 0, [6]), (true, 1, [2, 3, 4, 6]), (true, 2, [3, 4, 6]), (true, 3, [4, 6]), (true, 4, [6]), (true, 5, [6]), (false, 6, [])] 6 (Facts _) (by kernel_rfl) (by kernel_rfl) (fun _ _ _ d _ h => by cases d <;> exact h) (FactsAt.facts HF.out) ?_
    generalize w2.drew = w3 at *
    iterate 6
      apply plan4_early
      case hi => rfl
      case h =>
        intro w9 hf
        simp only [Facts] at hf
        obtain ⟨z0, z1, z2, z3, z4, z5, z6, z7, z8, z9, z10, z11, z12, z13, z14, _⟩ := hf
        still_step
        exact wpStill_nil rfl
    have HC := Lib.hid (HBDY.out t0 w3 own1 mb p vs slots is cop ca k0 s0 v0 a0 l0 c0 HBC.out.mkr HT0.out hc4 hc5 hr1 hr2 (by omega) (by omega) hs0 (by omega))
    refine plan4_big rfl ?_
    go_wp2_with fail
    refine HC.out.mono ?_
    rintro e w4 ⟨own4, rfl, hm4, hE4⟩
    have HM4 := Lib.hid hm4
    have HX4 := Lib.hid (HBC.out.ext.trans hE4)
    have hD5 : Ext MM w4 w4.drew own4 own4 := Ext.refl.drew
    have HF5 := Lib.hid (FactsAt.ext hD5 (FactsAt.ext hE4 HF.out))
    have HT15 := Lib.hid (TmV.mm (TmV.mm HT1.out hE4) hD5)
    have HM5 := Lib.hid (HM4.out.ext (Ext.refl.drew))
    have HX5 := Lib.hid (HX4.out.trans hD5)
    clear hm4 hE4 hD5 HC HF HT0 HT1 HBC HM4 HX4
    go_wp2_with fail
    try refine ⟨fun h => absurd rfl h, ?_⟩
    refine plan4_nil ?_
    go_wp2_with fail
    have HF := HF5
    refine wp_region_plan4 [(true, 0, [6]), (true, 1, [2, 3, 4, 6]), (true, 2, [3, 4, 6]), (true, 3, [4, 6]), (true, 4, [6]), (true, 5, [6]), (false, 6, [])] 6 (Facts _) (by kernel_rfl) (by kernel_rfl) (fun _ _ _ d _ h => by cases d <;> exact h) (FactsAt.facts HF.out) ?_
    generalize w4.drew = w5 at *
    iterate 6
      apply plan4_early
      case hi => rfl
      case h =>
        intro w9 hf
        simp only [Facts] at hf
        obtain ⟨z0, z1, z2, z3, z4, z5, z6, z7, z8, z9, z10, z11, z12, z13, z14, _⟩ := hf
        still_step
        exact wpStill_nil rfl
    have hpl := place_len (bd n t0 (In0 cop ca) slots).1 is.length
    have HC := Lib.hid (HBDY.out t1 w5 own4 mb p vs _ _ cop ca k1 s1 v1 a1 l1 c1 HM5.out HT15.out hc4 hc5 hr1 hr2 (by omega) (by rw [List.length_append, hpl]; omega) (by omega) (by omega))
    clear hpl
    refine plan4_big rfl ?_
    go_wp2_with fail
    refine HC.out.mono ?_
    rintro e w6 ⟨own6, rfl, hm6, hE6⟩
    have HP := Lib.hid (show MkPost w own mb p vs R.2 (is ++ place is.length R.1) (.tuple #[]) (.returned (.tuple #[])) w6 from ⟨own6, rfl, by
      rw [HBD.out, place_append, ← List.append_assoc]
      rw [List.length_append, place_len] at hm6
      exact hm6, HX5.out.trans hE6⟩)
    clear HBD hm6 hE6 HC HF HF5 HT15 HM5 HX5
    go_wp2_with fail
    try refine ⟨fun h => absurd rfl h, ?_⟩
    refine plan4_nil ?_
    go_wp2_with fail
    go_end0
    exact HP.out
  rw [if_neg h4] at HBD
  rw [Bool.not_eq_true] at h4
  rw [h4]
  clear h4
  go_wp2_with fail
  refine (BC.is_ HBC.out sSemi).mono ?_
  rintro e w2 ⟨rfl, hbc⟩
  have HBC := Lib.hid hbc
  clear hbc
  obtain ⟨b0, b1, b2, b3, hq4⟩ := BC.c4 HBC.out
  by_cases h5 : Tm.two t sSemi = true
  · rw [h5]
    obtain ⟨hk4, hln, hsz⟩ := two_sz h5
    have hdp0 := arg_dp (i := 0) hk4 (by omega)
    have hdp1 := arg_dp (i := 1) hk4 (by omega)
    have hl2 : l = 2 := by rw [EL.out]; exact hln
    subst hl2
    have hp0 := sz_pos (targ t 0)
    have hp1 := sz_pos (targ t 1)
    obtain ⟨g, o, rfl, hg, hgc, hargs⟩ := arg_cells HBC.out.tv (by omega)
    obtain ⟨a0, l0, c0, x0, x1, x2, x3, ht0⟩ := hargs 0 (by omega)
    simp only [Nat.zero_mul, Nat.add_zero] at x0 x1 x2 x3
    obtain ⟨a1, l1, c1, y0, y1, y2, y3, ht1⟩ := hargs 1 (by omega)
    simp only [Nat.one_mul] at y0 y1 y2 y3
    clear hargs
    generalize Tm.k (targ t 0) = k0 at *
    generalize Tm.s (targ t 0) = s0 at *
    generalize Tm.x (targ t 0) = v0 at *
    generalize Tm.k (targ t 1) = k1 at *
    generalize Tm.s (targ t 1) = s1 at *
    generalize Tm.x (targ t 1) = v1 at *
    obtain ⟨d0, d1, d2, d3, d4, d5⟩ := BC.c5 HBC.out
    have hq5 : q + 1 < w2.heap.size := HBC.out.b5.lt
    have HF : Hid (FactsAt own1 [(⟨q, 3, none⟩, .slice (some ⟨g, o, none⟩) 2 c), (⟨g, o, none⟩, .int .i64 k0), (⟨g, o + 1, none⟩, .string s0), (⟨g, o + 2, none⟩, .int .i64 v0), (⟨g, o + 3, none⟩, .slice a0 l0 c0), (⟨g, o + 4, none⟩, .int .i64 k1), (⟨g, o + 4 + 1, none⟩, .string s1), (⟨g, o + 4 + 2, none⟩, .int .i64 v1), (⟨g, o + 4 + 3, none⟩, .slice a1 l1 c1), (⟨q + 1, 0, none⟩, .int .i64 cop), (⟨q + 1, 1, none⟩, .int .i64 ca), (⟨q + 1, 2, none⟩, .int .i64 0), (⟨q + 1, 3, none⟩, .string noStr), (⟨q + 1, 4, none⟩, .int .i64 0), (⟨q + 1, 5, none⟩, .slice none 0 0)] w2) := Lib.hid ⟨Blk.fact HBC.out.b4 (by decide) b3, ⟨x0, hg, hgc, rfl⟩, ⟨x1, hg, hgc, rfl⟩, ⟨x2, hg, hgc, rfl⟩, ⟨x3, hg, hgc, rfl⟩, ⟨y0, hg, hgc, rfl⟩, ⟨y1, hg, hgc, rfl⟩, ⟨y2, hg, hgc, rfl⟩, ⟨y3, hg, hgc, rfl⟩, Blk.fact HBC.out.b5 (by decide) d0, Blk.fact HBC.out.b5 (by decide) d1, Blk.fact HBC.out.b5 (by decide) d2, Blk.fact HBC.out.b5 (by decide) d3, Blk.fact HBC.out.b5 (by decide) d4, Blk.fact HBC.out.b5 (by decide) d5, trivial⟩
    have HT0 := Lib.hid ht0
    have HT1 := Lib.hid ht1
    clear hg hgc ht0 ht1
    have HTT := Lib.hid (show Tm.ite t = Tm.two (targ t 0) sArrow by unfold Tm.ite; rw [h5, Bool.true_and])
    generalize targ t 0 = t0 at *
    generalize targ t 1 = t1 at *
    go_wp2_with fail
    refine (is_any t0 sArrow w2 (TC own1) _ HT0.out).mono ?_
    clear x0 x1 x2 x3 y0 y1 y2 y3 d0 d1 d2 d3 d4 d5 b0 b1 b2 b3 hq4 hq5
    rintro e w2 ⟨rfl, hB⟩
    have HBC := Lib.hid (BC.below HBC.out hB)
    have HF := Lib.hid (FactsAt.ext (Ext_same own1 hB) HF.out)
    have HT0 := Lib.hid (TmV.below HT0.out hB)
    have HT1 := Lib.hid (TmV.below HT1.out hB)
    clear hB
    obtain ⟨b0, b1, b2, b3, hq4⟩ := BC.c4 HBC.out
    rw [HTT.out] at HBD
    by_cases h5b : Tm.two t0 sArrow = true
    · rw [if_pos h5b] at HBD
      rw [h5b]
      have hff := FactsAt.facts HF.out
      simp only [Facts] at hff
      obtain ⟨z0, x0, x1, x2, x3, y0, y1, y2, y3, d0, d1, d2, d3, d4, d5, _⟩ := hff
      obtain ⟨hku, hlnu, hszu⟩ := two_sz h5b
      have hdu0 := arg_dp (i := 0) hku (by omega)
      have hdu1 := arg_dp (i := 1) hku (by omega)
      have hlu2 : l0 = 2 := by rw [(at_len (TmV_at HT0.out).2.2.2.2.2.2).1]; exact hlnu
      subst hlu2
      have hpu0 := sz_pos (targ t0 0)
      have hpu1 := sz_pos (targ t0 1)
      clear h5b
      go_wp2_with fail
      obtain ⟨gu, ou, rfl, hgu, hgcu, hargs⟩ := arg_cells HT0.out (by omega)
      obtain ⟨au0, lu0, cu0, xu0, xu1, xu2, xu3, htu0⟩ := hargs 0 (by omega)
      simp only [Nat.zero_mul, Nat.add_zero] at xu0 xu1 xu2 xu3
      obtain ⟨au1, lu1, cu1, yu0, yu1, yu2, yu3, htu1⟩ := hargs 1 (by omega)
      simp only [Nat.one_mul] at yu0 yu1 yu2 yu3
      clear hargs
      generalize Tm.k (targ t0 0) = ku0 at *
      generalize Tm.s (targ t0 0) = su0 at *
      generalize Tm.x (targ t0 0) = vu0 at *
      generalize Tm.k (targ t0 1) = ku1 at *
      generalize Tm.s (targ t0 1) = su1 at *
      generalize Tm.x (targ t0 1) = vu1 at *
      have hN : Ext MM w2 (w2.alloc (.cells #[.int .i64 k0, .string s0, .int .i64 v0, .slice (some ⟨gu, ou, none⟩) 2 c0] 24)) own1 (ow own1 w2.heap.size 0) := ext_box 0 _
      have hB6 := Blk.new (own := ow own1 w2.heap.size 0) (k := 0) w2 (.cells #[.int .i64 k0, .string s0, .int .i64 v0, .slice (some ⟨gu, ou, none⟩) 2 c0] 24) (ow_ge (Nat.le_refl _))
      have hff2 : FactsAt own1 [(⟨gu, ou, none⟩, .int .i64 ku0), (⟨gu, ou + 1, none⟩, .string su0), (⟨gu, ou + 2, none⟩, .int .i64 vu0), (⟨gu, ou + 3, none⟩, .slice au0 lu0 cu0), (⟨gu, ou + 4, none⟩, .int .i64 ku1), (⟨gu, ou + 4 + 1, none⟩, .string su1), (⟨gu, ou + 4 + 2, none⟩, .int .i64 vu1), (⟨gu, ou + 4 + 3, none⟩, .slice au1 lu1 cu1)] w2 := ⟨⟨xu0, hgu, hgcu, rfl⟩, ⟨xu1, hgu, hgcu, rfl⟩, ⟨xu2, hgu, hgcu, rfl⟩, ⟨xu3, hgu, hgcu, rfl⟩, ⟨yu0, hgu, hgcu, rfl⟩, ⟨yu1, hgu, hgcu, rfl⟩, ⟨yu2, hgu, hgcu, rfl⟩, ⟨yu3, hgu, hgcu, rfl⟩, trivial⟩
      obtain ⟨u0f, u1f, u2f, u3f, w0f, w1f, w2f, w3f, -⟩ := FactsAt.ext (hN.drew) hff2
      have hff3 := FactsAt.ext (hN.drew) HF.out
      obtain ⟨e0f, -, -, -, -, e5f, e6f, e7f, e8f, e9f, e10f, e11f, e12f, e13f, e14f, -⟩ := hff3
      have HF : Hid (FactsAt (ow own1 w2.heap.size 0) [(⟨w2.heap.size, 3, none⟩, .slice (some ⟨gu, ou, none⟩) 2 c0), (⟨gu, ou, none⟩, .int .i64 ku0), (⟨gu, ou + 1, none⟩, .string su0), (⟨gu, ou + 2, none⟩, .int .i64 vu0), (⟨gu, ou + 3, none⟩, .slice au0 lu0 cu0), (⟨gu, ou + 4, none⟩, .int .i64 ku1), (⟨gu, ou + 4 + 1, none⟩, .string su1), (⟨gu, ou + 4 + 2, none⟩, .int .i64 vu1), (⟨gu, ou + 4 + 3, none⟩, .slice au1 lu1 cu1), (⟨q, 3, none⟩, .slice (some ⟨g, o, none⟩) 2 c), (⟨g, o + 4, none⟩, .int .i64 k1), (⟨g, o + 4 + 1, none⟩, .string s1), (⟨g, o + 4 + 2, none⟩, .int .i64 v1), (⟨g, o + 4 + 3, none⟩, .slice a1 l1 c1), (⟨q + 1, 0, none⟩, .int .i64 cop), (⟨q + 1, 1, none⟩, .int .i64 ca), (⟨q + 1, 2, none⟩, .int .i64 0), (⟨q + 1, 3, none⟩, .string noStr), (⟨q + 1, 4, none⟩, .int .i64 0), (⟨q + 1, 5, none⟩, .slice none 0 0)] (w2.alloc (.cells #[.int .i64 k0, .string s0, .int .i64 v0, .slice (some ⟨gu, ou, none⟩) 2 c0] 24)).drew) :=
        Lib.hid ⟨Blk.fact hB6.drew (by decide) (hB6.drew.cell 3), u0f, u1f, u2f, u3f, w0f, w1f, w2f, w3f, e0f, e5f, e6f, e7f, e8f, e9f, e10f, e11f, e12f, e13f, e14f, trivial⟩
      have HU0 := Lib.hid (TmV.mm htu0 hN.drew)
      have HU1 := Lib.hid (TmV.mm htu1 hN.drew)
      have HT1 := Lib.hid (TmV.mm HT1.out hN.drew)
      have HBC := Lib.hid (BC.still HBC.out ((ext_box 0 (.cells #[.int .i64 k0, .string s0, .int .i64 v0, .slice (some ⟨gu, ou, none⟩) 2 c0] 24)).drew))
      clear hgu hgcu xu0 xu1 xu2 xu3 yu0 yu1 yu2 yu3 htu0 htu1 hN hB6 hff2 u0f u1f u2f u3f w0f w1f w2f w3f e0f e5f e6f e7f e8f e9f e10f e11f e12f e13f e14f
      generalize targ t0 0 = u0 at *
      generalize targ t0 1 = u1 at *
      have hd00 := dp_pos u0
      refine wp_region_plan4 [(true, 0, [16]), (true, 1, [6, 16]), (true, 2, [3, 4, 5, 6, 16]), (true, 3, [4, 5, 6, 16]), (true, 4, [5, 6, 16]), (true, 5, [6, 16]), (true, 7, [8, 9, 10, 16]), (true, 8, [9, 10, 16]), (true, 9, [10, 16]), (true, 10, [16]), (true, 11, [12, 13, 14, 16]), (true, 12, [13, 14, 16]), (true, 13, [14, 16]), (true, 14, [16]), (true, 15, [16]), (false, 6, []), (false, 16, [])] 16 (Facts _) (by kernel_rfl) (by kernel_rfl) (fun _ _ _ d _ h => by cases d <;> exact h) (FactsAt.facts HF.out) ?_
      clear z0 x0 x1 x2 x3 y0 y1 y2 y3 d0 d1 d2 d3 d4 d5 b0 b1 b2 b3 hq4
      generalize (w2.alloc (.cells #[.int .i64 k0, .string s0, .int .i64 v0, .slice (some ⟨gu, ou, none⟩) 2 c0] 24)).drew = w3 at *
      generalize ow own1 w2.heap.size 0 = own2 at *
      generalize w2.heap.size = r at *
      iterate 15
        apply plan4_early
        case hi => rfl
        case h =>
          intro w9 hf
          simp only [Facts] at hf
          obtain ⟨z0, z1, z2, z3, z4, z5, z6, z7, z8, z9, z10, z11, z12, z13, z14, z15, z16, z17, z18, z19, _⟩ := hf
          still_step
          exact wpStill_nil rfl
      have HC := Lib.hid (condition_any HBDY.out u0 w3 own2 mb p vs slots is ku0 su0 vu0 au0 lu0 cu0 HBC.out.mkr HU0.out (by omega) (by omega) hs0 (by omega))
      refine plan4_big rfl ?_
      go_wp2_with fail
      refine HC.out.mono ?_
      rintro e w4 ⟨own4, rfl, hm4, hE4⟩
      have HM4 := Lib.hid hm4
      have HX4 := Lib.hid (HBC.out.ext.trans hE4)
      have HF5 := Lib.hid (FactsAt.ext hE4 HF.out)
      have HU15 := Lib.hid (TmV.mm HU1.out hE4)
      have HT15 := Lib.hid (TmV.mm HT1.out hE4)
      clear hm4 hE4 HC HF HU0 HU1 HT1 HBC
      go_wp2_with fail
      first | refine ⟨fun _ => FactsAt.facts HF5.out, ?_⟩ | refine ⟨FactsAt.facts HF5.out, ?_⟩
      have hl1 : (is ++ [In0 6 slots] ++ [In0 4 0] ++ [In0 6 (slots + 1)] ++ place (is.length + 3) (bd n u0 (In0 7 (slots + 1)) (slots + 2)).1 ++ [In0 7 slots]).length = is.length + 4 + (bd n u0 (In0 7 (slots + 1)) (slots + 2)).1.length := by simp [place_len]; omega
      have hfs := failT_sz
      have hx := bd_le n u0 (In0 7 (slots + 1)) (slots + 2)
      have hy := bd_le n u1 (In0 cop ca) (bd n u0 (In0 7 (slots + 1)) (slots + 2)).2
      have HC := Lib.hid (choose_any HBDY.out u1 t1 w4 own4 mb p vs (bd n u0 (In0 7 (slots + 1)) (slots + 2)).2 (is ++ [In0 6 slots] ++ [In0 4 0] ++ [In0 6 (slots + 1)] ++ place (is.length + 3) (bd n u0 (In0 7 (slots + 1)) (slots + 2)).1 ++ [In0 7 slots]) (is.length + 1) cop ca ku1 su1 vu1 au1 lu1 cu1 k1 s1 v1 a1 l1 c1 HM4.out (by rw [hl1]; omega) HU15.out HT15.out hc4 hc5 hr1 hr2 (by omega) (by omega) (by rw [hl1]; omega) (by omega) (by omega)
        (bd n u1 (In0 cop ca) (bd n u0 (In0 7 (slots + 1)) (slots + 2)).2).1 (bd n t1 (In0 cop ca) (bd n u1 (In0 cop ca) (bd n u0 (In0 7 (slots + 1)) (slots + 2)).2).2).1 (bd n u1 (In0 cop ca) (bd n u0 (In0 7 (slots + 1)) (slots + 2)).2).2 (bd n t1 (In0 cop ca) (bd n u1 (In0 cop ca) (bd n u0 (In0 7 (slots + 1)) (slots + 2)).2).2).2 rfl rfl _ _ _ rfl rfl (either_place is (bd n u0 (In0 7 (slots + 1)) (slots + 2)).1 (bd n u1 (In0 cop ca) (bd n u0 (In0 7 (slots + 1)) (slots + 2)).2).1 (bd n t1 (In0 cop ca) (bd n u1 (In0 cop ca) (bd n u0 (In0 7 (slots + 1)) (slots + 2)).2).2).1 slots _ _ _ rfl rfl rfl))
      clear hl1 hx hy hfs
      refine plan4_big rfl ?_
      go_wp2_with fail
      refine HC.out.mono ?_
      rintro e w6 hpost
      have HP := Lib.hid (show MkPost w own mb p vs R.2 (is ++ place is.length R.1) (.tuple #[]) e w6 from by
        rw [HBD.out]
        exact MkPost.from HX4.out hpost)
      obtain ⟨own6, rfl, -, -⟩ := hpost
      clear HBD HC HF5 HM4 HX4
      go_wp2_with fail
      try refine ⟨fun h => absurd rfl h, ?_⟩
      refine plan4_nil ?_
      go_wp2_with fail
      go_end0
      exact HP.out
    rw [if_neg h5b, if_neg (by rw [two_ne h5 (by decide)]; simp), if_pos h5] at HBD
    rw [Bool.not_eq_true] at h5b
    rw [h5b]
    clear h5b HTT
    go_wp2_with fail
    refine (is_any t sArrow w2 (TC own1) _ HBC.out.tv).mono ?_
    clear b0 b1 b2 b3 hq4
    rintro e w2 ⟨rfl, hB⟩
    have HBC := Lib.hid (BC.below HBC.out hB)
    have HF := Lib.hid (FactsAt.ext (Ext_same own1 hB) HF.out)
    have HT0 := Lib.hid (TmV.below HT0.out hB)
    have HT1 := Lib.hid (TmV.below HT1.out hB)
    clear hB
    obtain ⟨b0, b1, b2, b3, hq4⟩ := BC.c4 HBC.out
    rw [two_ne h5 (by decide)]
    go_wp2_with fail
    refine (is_any t sSemi w2 (TC own1) _ HBC.out.tv).mono ?_
    clear b0 b1 b2 b3 hq4
    rintro e w2 ⟨rfl, hB⟩
    have HBC := Lib.hid (BC.below HBC.out hB)
    have HF := Lib.hid (FactsAt.ext (Ext_same own1 hB) HF.out)
    have HT0 := Lib.hid (TmV.below HT0.out hB)
    have HT1 := Lib.hid (TmV.below HT1.out hB)
    clear hB
    obtain ⟨b0, b1, b2, b3, hq4⟩ := BC.c4 HBC.out
    rw [h5]
    clear b0 b1 b2 b3 hq4
    have HF := Lib.hid (FactsAt.ext (Ext.refl.drew) HF.out)
    have HBC := Lib.hid (BC.still HBC.out (Ext.refl.drew))
    have HT0 := Lib.hid (TmV.mm HT0.out (Ext.refl.drew))
    have HT1 := Lib.hid (TmV.mm HT1.out (Ext.refl.drew))
    clear h5
    go_wp2_with fail
    refine wp_region_plan4 [(true, 0, [13]), (true, 1, [3, 13]), (true, 2, [3, 13]), (true, 4, [5, 6, 7, 13]), (true, 5, [6, 7, 13]), (true, 6, [7, 13]), (true, 7, [13]), (true, 8, [9, 10, 11, 13]), (true, 9, [10, 11, 13]), (true, 10, [11, 13]), (true, 11, [13]), (true, 12, [13]), (false, 3, []), (false, 13, [])] 13 (Facts _) (by kernel_rfl) (by kernel_rfl) (fun _ _ _ d _ h => by cases d <;> exact h) (FactsAt.facts HF.out) ?_
    generalize w2.drew = w3 at *
    iterate 12
      apply plan4_early
      case hi => rfl
      case h =>
        intro w9 hf
        simp only [Facts] at hf
        obtain ⟨z0, z1, z2, z3, z4, z5, z6, z7, z8, z9, z10, z11, z12, z13, z14, _⟩ := hf
        still_step
        exact wpStill_nil rfl
    have HC := Lib.hid (add0 HBC.out.mkr 4 0 (by omega))
    refine plan4_big rfl ?_
    go_wp2_with fail
    refine HC.out.mono ?_
    rintro e w4 ⟨own4, rfl, hm4, hE4⟩
    have HM4 := Lib.hid hm4
    have HX4 := Lib.hid (HBC.out.ext.trans hE4)
    have HF5 := Lib.hid (FactsAt.ext hE4 HF.out)
    have HT05 := Lib.hid (TmV.mm HT0.out hE4)
    have HT15 := Lib.hid (TmV.mm HT1.out hE4)
    clear hm4 hE4 HC HF HT0 HT1 HBC
    go_wp2_with fail
    first | refine ⟨fun _ => FactsAt.facts HF5.out, ?_⟩ | refine ⟨FactsAt.facts HF5.out, ?_⟩
    have hy := bd_le n t0 (In0 cop ca) slots
    have HC := Lib.hid (choose_any HBDY.out t0 t1 w4 own4 mb p vs slots (is ++ [In0 4 0]) is.length cop ca k0 s0 v0 a0 l0 c0 k1 s1 v1 a1 l1 c1 HM4.out (by simp) HT05.out HT15.out hc4 hc5 hr1 hr2 (by omega) (by omega) (by simp only [List.length_append, List.length_singleton]; omega) hs0 (by omega)
      (bd n t0 (In0 cop ca) slots).1 (bd n t1 (In0 cop ca) (bd n t0 (In0 cop ca) slots).2).1 (bd n t0 (In0 cop ca) slots).2 (bd n t1 (In0 cop ca) (bd n t0 (In0 cop ca) slots).2).2 rfl rfl _ _ _ rfl rfl (semi_place is (bd n t0 (In0 cop ca) slots).1 (bd n t1 (In0 cop ca) (bd n t0 (In0 cop ca) slots).2).1 _ _ _ rfl rfl rfl))
    clear hy
    refine plan4_big rfl ?_
    go_wp2_with fail
    refine HC.out.mono ?_
    rintro e w6 hpost
    have HP := Lib.hid (show MkPost w own mb p vs R.2 (is ++ place is.length R.1) (.tuple #[]) e w6 from by
      rw [HBD.out]
      exact MkPost.from HX4.out hpost)
    obtain ⟨own6, rfl, -, -⟩ := hpost
    clear HBD HC HF5 HM4 HX4
    go_wp2_with fail
    try refine ⟨fun h => absurd rfl h, ?_⟩
    refine plan4_nil ?_
    go_wp2_with fail
    go_end0
    exact HP.out
  rw [Bool.not_eq_true] at h5
  have h5b : ¬ Tm.ite t = true := by unfold Tm.ite; rw [h5]; simp
  rw [if_neg h5b] at HBD
  rw [h5]
  clear h5b
  go_wp2_with fail
  refine (BC.is_ HBC.out sArrow).mono ?_
  rintro e w2 ⟨rfl, hbc⟩
  have HBC := Lib.hid hbc
  clear hbc
  obtain ⟨b0, b1, b2, b3, hq4⟩ := BC.c4 HBC.out
  by_cases h6 : Tm.two t sArrow = true
  · rw [if_pos h6] at HBD
    rw [h6]
    obtain ⟨hk4, hln, hsz⟩ := two_sz h6
    have hdp0 := arg_dp (i := 0) hk4 (by omega)
    have hdp1 := arg_dp (i := 1) hk4 (by omega)
    have hl2 : l = 2 := by rw [EL.out]; exact hln
    subst hl2
    have hp0 := sz_pos (targ t 0)
    have hp1 := sz_pos (targ t 1)
    obtain ⟨g, o, rfl, hg, hgc, hargs⟩ := arg_cells HBC.out.tv (by omega)
    obtain ⟨a0, l0, c0, x0, x1, x2, x3, ht0⟩ := hargs 0 (by omega)
    simp only [Nat.zero_mul, Nat.add_zero] at x0 x1 x2 x3
    obtain ⟨a1, l1, c1, y0, y1, y2, y3, ht1⟩ := hargs 1 (by omega)
    simp only [Nat.one_mul] at y0 y1 y2 y3
    clear hargs
    generalize Tm.k (targ t 0) = k0 at *
    generalize Tm.s (targ t 0) = s0 at *
    generalize Tm.x (targ t 0) = v0 at *
    generalize Tm.k (targ t 1) = k1 at *
    generalize Tm.s (targ t 1) = s1 at *
    generalize Tm.x (targ t 1) = v1 at *
    clear h6
    obtain ⟨d0, d1, d2, d3, d4, d5⟩ := BC.c5 HBC.out
    have hq5 : q + 1 < w2.heap.size := HBC.out.b5.lt
    have HF : Hid (FactsAt own1 [(⟨q, 3, none⟩, .slice (some ⟨g, o, none⟩) 2 c), (⟨g, o, none⟩, .int .i64 k0), (⟨g, o + 1, none⟩, .string s0), (⟨g, o + 2, none⟩, .int .i64 v0), (⟨g, o + 3, none⟩, .slice a0 l0 c0), (⟨g, o + 4, none⟩, .int .i64 k1), (⟨g, o + 4 + 1, none⟩, .string s1), (⟨g, o + 4 + 2, none⟩, .int .i64 v1), (⟨g, o + 4 + 3, none⟩, .slice a1 l1 c1), (⟨q + 1, 0, none⟩, .int .i64 cop), (⟨q + 1, 1, none⟩, .int .i64 ca), (⟨q + 1, 2, none⟩, .int .i64 0), (⟨q + 1, 3, none⟩, .string noStr), (⟨q + 1, 4, none⟩, .int .i64 0), (⟨q + 1, 5, none⟩, .slice none 0 0)] w2) := Lib.hid ⟨Blk.fact HBC.out.b4 (by decide) b3, ⟨x0, hg, hgc, rfl⟩, ⟨x1, hg, hgc, rfl⟩, ⟨x2, hg, hgc, rfl⟩, ⟨x3, hg, hgc, rfl⟩, ⟨y0, hg, hgc, rfl⟩, ⟨y1, hg, hgc, rfl⟩, ⟨y2, hg, hgc, rfl⟩, ⟨y3, hg, hgc, rfl⟩, Blk.fact HBC.out.b5 (by decide) d0, Blk.fact HBC.out.b5 (by decide) d1, Blk.fact HBC.out.b5 (by decide) d2, Blk.fact HBC.out.b5 (by decide) d3, Blk.fact HBC.out.b5 (by decide) d4, Blk.fact HBC.out.b5 (by decide) d5, trivial⟩
    clear hg hgc x0 x1 x2 x3 y0 y1 y2 y3
    have hD : Ext MM w2 w2.drew own1 own1 := Ext.refl.drew
    have HF := Lib.hid (FactsAt.ext hD HF.out)
    have HBC := Lib.hid (BC.still HBC.out (Ext.refl.drew))
    have HT0 := Lib.hid (TmV.mm ht0 hD)
    have HT1 := Lib.hid (TmV.mm ht1 hD)
    clear ht0 ht1 hD
    clear b0 b1 b2 b3 hq4 d0 d1 d2 d3 d4 d5 hq5
    generalize targ t 0 = t0 at *
    generalize targ t 1 = t1 at *
    have hd00 := dp_pos t0
    go_wp2_with fail
    refine wp_region_plan4 [(true, 0, [13]), (true, 1, [6, 13]), (true, 2, [3, 4, 5, 6, 13]), (true, 3, [4, 5, 6, 13]), (true, 4, [5, 6, 13]), (true, 5, [6, 13]), (true, 7, [8, 9, 10, 13]), (true, 8, [9, 10, 13]), (true, 9, [10, 13]), (true, 10, [13]), (true, 11, [13]), (true, 12, [13]), (false, 6, []), (false, 13, [])] 13 (Facts _) (by kernel_rfl) (by kernel_rfl) (fun _ _ _ d _ h => by cases d <;> exact h) (FactsAt.facts HF.out) ?_
    generalize w2.drew = w3 at *
    iterate 12
      apply plan4_early
      case hi => rfl
      case h =>
        intro w9 hf
        simp only [Facts] at hf
        obtain ⟨z0, z1, z2, z3, z4, z5, z6, z7, z8, z9, z10, z11, z12, z13, z14, _⟩ := hf
        still_step
        exact wpStill_nil rfl
    have HC := Lib.hid (condition_any HBDY.out t0 w3 own1 mb p vs slots is k0 s0 v0 a0 l0 c0 HBC.out.mkr HT0.out (by omega) (by omega) hs0 (by omega))
    refine plan4_big rfl ?_
    go_wp2_with fail
    refine HC.out.mono ?_
    rintro e w4 ⟨own4, rfl, hm4, hE4⟩
    have HM4 := Lib.hid hm4
    have HX4 := Lib.hid (HBC.out.ext.trans hE4)
    have HF5 := Lib.hid (FactsAt.ext hE4 HF.out)
    have HT15 := Lib.hid (TmV.mm HT1.out hE4)
    clear hm4 hE4 HC HF HT0 HT1 HBC
    go_wp2_with fail
    first | refine ⟨fun _ => FactsAt.facts HF5.out, ?_⟩ | refine ⟨FactsAt.facts HF5.out, ?_⟩
    have hl1 : (is ++ [In0 6 slots] ++ [In0 4 0] ++ [In0 6 (slots + 1)] ++ place (is.length + 3) (bd n t0 (In0 7 (slots + 1)) (slots + 2)).1 ++ [In0 7 slots]).length = is.length + 4 + (bd n t0 (In0 7 (slots + 1)) (slots + 2)).1.length := by simp [place_len]; omega
    have hfs := failT_sz
    have hx := bd_le n t0 (In0 7 (slots + 1)) (slots + 2)
    have hy := bd_le n t1 (In0 cop ca) (bd n t0 (In0 7 (slots + 1)) (slots + 2)).2
    have HC := Lib.hid (choose_any HBDY.out t1 failT w4 own4 mb p vs (bd n t0 (In0 7 (slots + 1)) (slots + 2)).2 (is ++ [In0 6 slots] ++ [In0 4 0] ++ [In0 6 (slots + 1)] ++ place (is.length + 3) (bd n t0 (In0 7 (slots + 1)) (slots + 2)).1 ++ [In0 7 slots]) (is.length + 1) cop ca k1 s1 v1 a1 l1 c1 3 sFail 0 none 0 0 HM4.out (by rw [hl1]; omega) HT15.out (failV _ _) hc4 hc5 hr1 hr2 (by omega) (by rw [failT_dp]; omega) (by rw [hl1]; omega) (by omega) (by omega)
      (bd n t1 (In0 cop ca) (bd n t0 (In0 7 (slots + 1)) (slots + 2)).2).1 (bd n failT (In0 cop ca) (bd n t1 (In0 cop ca) (bd n t0 (In0 7 (slots + 1)) (slots + 2)).2).2).1 (bd n t1 (In0 cop ca) (bd n t0 (In0 7 (slots + 1)) (slots + 2)).2).2 (bd n failT (In0 cop ca) (bd n t1 (In0 cop ca) (bd n t0 (In0 7 (slots + 1)) (slots + 2)).2).2).2 rfl rfl _ _ _ rfl rfl (either_place is (bd n t0 (In0 7 (slots + 1)) (slots + 2)).1 (bd n t1 (In0 cop ca) (bd n t0 (In0 7 (slots + 1)) (slots + 2)).2).1 (bd n failT (In0 cop ca) (bd n t1 (In0 cop ca) (bd n t0 (In0 7 (slots + 1)) (slots + 2)).2).2).1 slots _ _ _ rfl rfl rfl))
    clear hl1 hx hy hfs
    refine plan4_big rfl ?_
    go_wp2_with fail
    refine HC.out.mono ?_
    rintro e w6 hpost
    have HP := Lib.hid (show MkPost w own mb p vs R.2 (is ++ place is.length R.1) (.tuple #[]) e w6 from by
      rw [HBD.out]
      exact MkPost.from HX4.out hpost)
    obtain ⟨own6, rfl, -, -⟩ := hpost
    clear HBD HC HF5 HM4 HX4
    go_wp2_with fail
    try refine ⟨fun h => absurd rfl h, ?_⟩
    refine plan4_nil ?_
    go_wp2_with fail
    go_end0
    exact HP.out
  rw [if_neg h6, if_neg (by rw [h5]; simp)] at HBD
  rw [Bool.not_eq_true] at h6
  rw [h6]
  clear h6
  go_wp2_with fail
  refine (BC.is_ HBC.out sSemi).mono ?_
  rintro e w2 ⟨rfl, hbc⟩
  have HBC := Lib.hid hbc
  clear hbc
  obtain ⟨b0, b1, b2, b3, hq4⟩ := BC.c4 HBC.out
  rw [h5]
  clear h5
  by_cases hk : k = 4
  · by_cases hsn : s = sNot
    · by_cases hln : l = 1
      · have h8 : Tm.one1 t sNot = true := by
          unfold Tm.one1
          rw [← EK.out, ← ES.out, ← EL.out]
          simp [hk, hsn, hln]
        rw [if_pos h8] at HBD
        subst hk
        subst hsn
        subst hln
        have hsl := sNot_list
        obtain ⟨hk4, hln, hsz⟩ := one_sz h8
        have hdp0 := arg_dp (i := 0) hk4 (by omega)
        have hp0 := sz_pos (targ t 0)
        obtain ⟨g, o, rfl, hg, hgc, hargs⟩ := arg_cells HBC.out.tv (by omega)
        obtain ⟨a0, l0, c0, x0, x1, x2, x3, ht0⟩ := hargs 0 (by omega)
        simp only [Nat.zero_mul, Nat.add_zero] at x0 x1 x2 x3
        clear hargs
        generalize Tm.k (targ t 0) = k0 at *
        generalize Tm.s (targ t 0) = s0 at *
        generalize Tm.x (targ t 0) = v0 at *
        generalize targ t 0 = t0 at *
        go_wp2_with fail
        have HC := Lib.hid (condition_any HBDY.out t0 w2 own1 mb p vs slots is k0 s0 v0 a0 l0 c0 HBC.out.mkr ht0 (by omega) (by omega) hs0 (by omega))
        refine HC.out.mono ?_
        rintro e w4 ⟨own4, rfl, hm4, hE4⟩
        obtain ⟨is1, his1⟩ : ∃ y, y = is ++ [In0 6 slots] ++ [In0 4 0] ++ [In0 6 (slots + 1)] ++ place (is.length + 3) (bd n t0 (In0 7 (slots + 1)) (slots + 2)).1 ++ [In0 7 slots] := ⟨_, rfl⟩
        rw [← his1] at hm4
        have hlen1 : is1.length = is.length + 4 + (bd n t0 (In0 7 (slots + 1)) (slots + 2)).1.length := by rw [his1]; simp [place_len]; omega
        have hbl := bd_le n t0 (In0 7 (slots + 1)) (slots + 2)
        have hl1a : is.length + 4 ≤ is1.length := by omega
        have hl1b : is1.length ≤ 1000000 := by omega
        have HIS := Lib.hid his1
        have HM4 := Lib.hid hm4
        have HX4 := Lib.hid (HBC.out.ext.trans hE4)
        clear hm4 hE4 HC his1 hlen1 hbl ht0 x0 x1 x2 x3 b0 b1 b2 b3 hq4 hg hgc
        go_wp2_with fail
        refine (add0 HM4.out 8 0 (by omega)).mono ?_
        rintro e w5 ⟨own5, rfl, hm5, hE5⟩
        have HX5 := Lib.hid (HX4.out.trans hE5)
        obtain ⟨rv, hb5, hr5⟩ := hm5
        have hlr : (is1 ++ [In0 8 0]).length = is1.length + 1 := by simp
        obtain ⟨g5, cc5, yy5, rfl, hg5, hcg5, hfz5, hcl5, hset5⟩ := hr5.at_ (f := is.length + 1) (by omega)
        have hset5 := hset5 ((is1.length : Int) + 1)
        rw [hlr] at hb5 hset5
        rw [not_place is _ slots is1 HIS.out] at hset5
        have cm5 : w5.cell? ⟨mb, 4, none⟩ = some (.slice (some ⟨g5, 0, none⟩) (is1.length + 1) cc5) := hb5.cell 4
        have HBK5 := Lib.hid hb5
        have HS5 := Lib.hid hset5
        have hmbl := hb5.lt
        have hj2 : (is.length : Int) + 1 < is1.length + 1 := by omega
        have hj3 : is.length + 1 < is1.length + 1 := by omega
        clear hE5 hb5 hr5 hset5 HM4 HX4 hlr
        go_wp2_with fail
        have HP := Lib.hid (show MkPost w own mb p vs R.2 (is ++ place is.length R.1) (.tuple #[]) (.returned (.tuple #[])) (w5.setCell ⟨g5, (is.length + 1) * 6 + 1, none⟩ (.int .i64 ((is1.length : Int) + 1))) from ⟨own5, rfl, by
          rw [HBD.out]
          exact Mk.set HBK5.out hcg5 HS5.out, HX5.out.trans (Ext.refl.setCell (fun _ => .inr hcg5) _)⟩)
        clear HBD HBK5 HS5 HX5
        go_end0
        exact HP.out
      · have h8 : ¬ Tm.one1 t sNot = true := by
          unfold Tm.one1
          rw [← EL.out]
          simp [hln]
        have hb : ((l : Int) == 1) = false := by rw [beq_eq_false_iff_ne]; omega
        rw [if_neg h8] at HBD
        subst hk
        subst hsn
        have hsl := sNot_list
        clear hln h8
        go_wp2_with fail
        refine (add_any HBC.out.mkr ⟨2, 0, t⟩ _ HBC.out.tv 4 sNot x a l c rfl (by omega)).mono ?_
        rintro e w3 ⟨own3, rfl, hm3, hE3⟩
        have HP := Lib.hid (show MkPost w own mb p vs R.2 (is ++ place is.length R.1) (.tuple #[]) (.returned (.tuple #[])) w3 from BC.post HBC.out ⟨own3, rfl, by
          rw [HBD.out, place, if_neg (show ¬ ((2 : Int) = 4 ∨ (2 : Int) = 5) by decide), place]
          exact hm3, hE3⟩)
        clear HBD hm3 hE3
        go_wp2_with fail
        go_end0
        exact HP.out
    · have h8 : ¬ Tm.one1 t sNot = true := by
        unfold Tm.one1
        rw [← ES.out]
        simp [hsn]
      have hb := sNot_ne hsn
      rw [if_neg h8] at HBD
      subst hk
      clear hsn h8
      go_wp2_with fail
      refine (add_any HBC.out.mkr ⟨2, 0, t⟩ _ HBC.out.tv 4 s x a l c rfl (by omega)).mono ?_
      rintro e w3 ⟨own3, rfl, hm3, hE3⟩
      have HP := Lib.hid (show MkPost w own mb p vs R.2 (is ++ place is.length R.1) (.tuple #[]) (.returned (.tuple #[])) w3 from BC.post HBC.out ⟨own3, rfl, by
        rw [HBD.out, place, if_neg (show ¬ ((2 : Int) = 4 ∨ (2 : Int) = 5) by decide), place]
        exact hm3, hE3⟩)
      clear HBD hm3 hE3
      go_wp2_with fail
      go_end0
      exact HP.out
  · have h8 : ¬ Tm.one1 t sNot = true := by
      unfold Tm.one1
      rw [← EK.out]
      simp [hk]
    have hb : (k == 4) = false := by simp [hk]
    rw [if_neg h8] at HBD
    clear hk h8
    go_wp2_with fail
    refine (add_any HBC.out.mkr ⟨2, 0, t⟩ _ HBC.out.tv k s x a l c rfl (by omega)).mono ?_
    rintro e w3 ⟨own3, rfl, hm3, hE3⟩
    have HP := Lib.hid (show MkPost w own mb p vs R.2 (is ++ place is.length R.1) (.tuple #[]) (.returned (.tuple #[])) w3 from BC.post HBC.out ⟨own3, rfl, by
      rw [HBD.out, place, if_neg (show ¬ ((2 : Int) = 4 ∨ (2 : Int) = 5) by decide), place]
      exact hm3, hE3⟩)
    clear HBD hm3 hE3
    go_wp2_with fail
    go_end0
    exact HP.out
theorem body_all : ∀ n, BodyOk n
  | 0 => fun t w own mb p vs slots is cop ca k s x a l c _ _ _ _ _ _ hd => by have := dp_pos t; omega
  | n + 1 => body_succ (body_all n)
end Go.Proofs.Ytamiidklcadkmaa
