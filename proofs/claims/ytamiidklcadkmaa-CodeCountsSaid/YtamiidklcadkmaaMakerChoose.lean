/- maker.choose, given what maker.body does. -/
import Derived.Test.YtamiidklcadkmaaMakerCond
set_option maxRecDepth 20000
set_option linter.unusedVariables false
set_option linter.unusedSimpArgs false
namespace Go.Proofs.Ytamiidklcadkmaa
open Go.RowKit Go.PM
/-- An instruction's a, in the row. -/
theorem IRow.at_ {w : World} {own : Nat → Nat} {v : Value} {is : List In} (h : IRow w own v is) {f : Nat} (hf : f < is.length) :
    ∃ g c y, v = .slice (some ⟨g, 0, none⟩) is.length c ∧ g < w.heap.size ∧ own g = 2 ∧ w.frozen? ⟨g, f * 6 + 1, none⟩ = false ∧ w.cell? ⟨g, f * 6 + 1, none⟩ = some (.int .i64 y) ∧ ∀ x : Int, IRow (w.setCell ⟨g, f * 6 + 1, none⟩ (.int .i64 x)) own v (setA is f x) := by
  obtain ⟨xs, h1, h2⟩ := h
  obtain ⟨g, cap, cur, rfl, hb, hn, hcs, htake, hcell⟩ := h1.cells (by omega)
  obtain ⟨q0, q1, _⟩ := ICells.get h2 hf
  refine ⟨g, cap, is[f].a, rfl, hb.lt, hb.col, hb.free _, by rw [hcell _ (by omega)]; exact q1, fun x => ⟨xs.set (f * 6 + 1) (.int .i64 x), ?_, ?_⟩⟩
  · have hlen : (setA is f x).length = is.length := by simp [setA]
    rw [hlen]
    obtain ⟨e1, hh⟩ := h1
    refine ⟨by rw [List.length_set]; exact e1, .inr ⟨g, cap, cur.setIfInBounds (f * 6 + 1) (.int .i64 x), rfl, hb.setCell _ _, hn, ?_, by rw [Array.size_setIfInBounds]; exact hcs, ?_⟩⟩
    · rcases hh with ⟨hh, _⟩ | ⟨g', cap', cur', he, _, _, hm, _⟩
      · cases hh
      · injection he with _ _ he
        subst he
        exact hm
    · rw [Array.toList_setIfInBounds, List.take_set, htake]
  · have hE : Ext (fun c => c = 2) w (w.setCell ⟨g, f * 6 + 1, none⟩ (.int .i64 x)) own own := Ext.refl.setCell (fun _ => hb.col) _
    exact (ICells.set x h2 f hf).carry hE.size fun g' hg hc => ⟨hE.same g' hg hc.2.1, hc⟩
theorem Mk.set {w : World} {own : Nat → Nat} {mb : Nat} {p : ByteArray × Int} {vs slots : Int} {rv : Value} (hb : Blk w own 1 mb (.cells #[.string p.1, .int .i64 p.2, .int .i64 vs, .int .i64 slots, rv] 70 (0, 0))) {g i : Nat} (hg : own g = 2) {x : Value} {is' : List In} (hr : IRow (w.setCell ⟨g, i, none⟩ x) own rv is') : Mk (w.setCell ⟨g, i, none⟩ x) own mb p vs slots is' :=
  ⟨rv, hb.setCell_other (fun e => by have := hb.col; rw [e] at this; rw [this] at hg; cases hg) _, hr⟩
def ChI (mb : Nat) (rv : Value) (w : World) : Prop := w.cell? ⟨mb, 4, none⟩ = some rv ∧ True
theorem setA_at (xs ys : List In) (i : In) (x : Int) : setA (xs ++ i :: ys) xs.length x = xs ++ { i with a := x } :: ys := by
  induction xs with
  | nil => rfl
  | cons y xs ih => simpa [setA] using ih
set_option maxHeartbeats 2000000 in
theorem choose_any {n : Nat} (hbody : BodyOk n) (t u : Tm) (w : World) (own : Nat → Nat) (mb : Nat) (p : ByteArray × Int) (vs slots : Int) (is : List In) (f : Nat) (cop ca : Int) (k : Int) (s : ByteArray) (x : Int) (a : Option Addr) (l c : Nat) (k2 : Int) (s2 : ByteArray) (x2 : Int) (a2 : Option Addr) (l2 c2 : Nat)
    (hm : Mk w own mb p vs slots is) (hf : f < is.length) (hv : TmV w (TC own) t (.agg #[.int .i64 k, .string s, .int .i64 x, .slice a l c])) (hv2 : TmV w (TC own) u (.agg #[.int .i64 k2, .string s2, .int .i64 x2, .slice a2 l2 c2])) (hc4 : cop ≠ 4) (hc5 : cop ≠ 5) (hr1 : rng64 cop) (hr2 : rng64 ca) (hd : Tm.dp t ≤ n) (hd2 : Tm.dp u ≤ n) (hl : is.length + 6 * Tm.sz t + 6 * Tm.sz u + 1 + 10 * n ≤ 1000000) (hs0 : 0 ≤ slots) (hs : slots + 2 * Tm.sz t + 2 * Tm.sz u + 10 * n ≤ 1000000)
    (y z : List In) (fy fz : Int) (hy : bd n t (In0 cop ca) slots = (y, fy)) (hz : bd n u (In0 cop ca) fy = (z, fz)) (is2 is4 : List In) (J : Nat) (hJ : J = is.length + y.length) (h2 : setA (is ++ place is.length y ++ [In0 5 0]) f (J + 1 : Nat) = is2) (h4 : setA (is2 ++ place (J + 1) z) J (J + 1 + z.length : Nat) = is4) :
    Calls Try.prog 46 #[.pointer (some ⟨mb, 0, none⟩), .int .i64 f, .agg #[.int .i64 k, .string s, .int .i64 x, .slice a l c], .agg #[.int .i64 k2, .string s2, .int .i64 x2, .slice a2 l2 c2], .agg #[.int .i64 cop, .int .i64 ca, .int .i64 0, .string noStr, .int .i64 0, .slice none 0 0]] w
      (MkPost w own mb p vs fz is4 (.tuple #[])) := by
  have hp := sz_pos t
  have hp2 := sz_pos u
  have hbl := bd_le n t (In0 cop ca) slots
  rw [hy] at hbl
  have hbl2 := bd_le n u (In0 cop ca) fy
  rw [hz] at hbl2
  simp only at hbl hbl2
  have hlen2 : is2.length = J + 1 := by
    rw [← h2, hJ]
    simp [setA, place_len]
    omega
  have hJ1 : J ≤ is.length + y.length := by omega
  have hJ3 : is.length + y.length ≤ J := by omega
  have HJ := Lib.hid hJ
  clear hJ
  have hX0 : ∀ M, Ext M w (((w.alloc (.cells #[.int .i64 k, .string s, .int .i64 x, .slice a l c] 24)).alloc (.cells #[.int .i64 k2, .string s2, .int .i64 x2, .slice a2 l2 c2] 24)).alloc (.cells #[.int .i64 cop, .int .i64 ca, .int .i64 0, .string noStr, .int .i64 0, .slice none 0 0] 48)) own (ow own w.heap.size 0) := fun M => ((ext_box 0 _).alloc _).alloc _
  have HM1 := Lib.hid (hm.ext (hX0 (fun _ => False)))
  have HV1 := Lib.hid (TmV.mm hv (hX0 MM))
  have HU1 := Lib.hid (TmV.mm hv2 (hX0 MM))
  have HA1 := Lib.hid (((Blk.new (own := ow own w.heap.size 0) (k := 0) w (.cells #[.int .i64 k, .string s, .int .i64 x, .slice a l c] 24) (ow_ge (Nat.le_refl _))).alloc (.cells #[.int .i64 k2, .string s2, .int .i64 x2, .slice a2 l2 c2] 24)).alloc (.cells #[.int .i64 cop, .int .i64 ca, .int .i64 0, .string noStr, .int .i64 0, .slice none 0 0] 48))
  have hb1 := ((Blk.new (own := ow own w.heap.size 0) (k := 0) (w.alloc (.cells #[.int .i64 k, .string s, .int .i64 x, .slice a l c] 24)) (.cells #[.int .i64 k2, .string s2, .int .i64 x2, .slice a2 l2 c2] 24) (ow_ge (by rw [World.size_alloc]; omega))).alloc (.cells #[.int .i64 cop, .int .i64 ca, .int .i64 0, .string noStr, .int .i64 0, .slice none 0 0] 48))
  have hc1 := (Blk.new (own := ow own w.heap.size 0) (k := 0) ((w.alloc (.cells #[.int .i64 k, .string s, .int .i64 x, .slice a l c] 24)).alloc (.cells #[.int .i64 k2, .string s2, .int .i64 x2, .slice a2 l2 c2] 24)) (.cells #[.int .i64 cop, .int .i64 ca, .int .i64 0, .string noStr, .int .i64 0, .slice none 0 0] 48) (ow_ge (by rw [World.size_alloc, World.size_alloc]; omega)))
  rw [World.size_alloc] at hb1
  rw [World.size_alloc, World.size_alloc] at hc1
  have HB1 := Lib.hid hb1
  have HC1 := Lib.hid hc1
  have HX1 := Lib.hid (hX0 MM)
  clear hm hv hv2 hX0 hb1 hc1
  go_enter Try.func46, Try.ntmps46
  go_wp2_with fail
  generalize ((w.alloc (.cells #[.int .i64 k, .string s, .int .i64 x, .slice a l c] 24)).alloc (.cells #[.int .i64 k2, .string s2, .int .i64 x2, .slice a2 l2 c2] 24)).alloc (.cells #[.int .i64 cop, .int .i64 ca, .int .i64 0, .string noStr, .int .i64 0, .slice none 0 0] 48) = w1 at *
  generalize ow own w.heap.size 0 = own1 at *
  have HBD := Lib.hid (hbody t w1 own1 mb p vs slots is cop ca k s x a l c HM1.out HV1.out hc4 hc5 hr1 hr2 hd (by omega) (by omega) (by omega))
  rw [hy] at HBD
  refine HBD.out.mono ?_
  rintro e w2 ⟨own2, rfl, hm2, hE2⟩
  have HM2 := Lib.hid hm2
  have HU2 := Lib.hid (TmV.mm HU1.out hE2)
  have HB2 := Lib.hid (HB1.out.ext hE2 (by unfold MM; omega))
  have HC2 := Lib.hid (HC1.out.ext hE2 (by unfold MM; omega))
  have HX2 := Lib.hid (HX1.out.trans hE2)
  clear hm2 hE2 HM1 HV1 HU1 HA1 HB1 HC1 HX1 HBD
  have hpl := place_len y is.length
  have hlen3 : (is ++ place is.length y).length ≤ 1000000000 := by
    simp only [List.length_append]
    omega
  go_wp2_with fail
  refine (add0 HM2.out 5 0 hlen3).mono ?_
  rintro e w3 ⟨own3, rfl, hm3, hE3⟩
  rw [show (is ++ place is.length y).length = J by rw [List.length_append, hpl, HJ.out]]
  have HU3 := Lib.hid (TmV.mm HU2.out hE3)
  have HB3 := Lib.hid (HB2.out.ext hE3 (by unfold MM; omega))
  have HC3 := Lib.hid (HC2.out.ext hE3 (by unfold MM; omega))
  have HX3 := Lib.hid (HX2.out.trans hE3)
  obtain ⟨rv, hb3, hr3⟩ := hm3
  have hlr : (is ++ place is.length y ++ [In0 5 0]).length = J + 1 := by simp [place_len]; omega
  obtain ⟨g, cc, yy, rfl, hg3, hcg3, hfz3, hcl3, hset3⟩ := hr3.at_ (f := f) (by omega)
  have hset3 := hset3 ((J + 1 : Nat) : Int)
  rw [hlr] at hb3 hset3
  rw [h2, show ((J + 1 : Nat) : Int) = (J : Int) + 1 from rfl] at hset3
  have cm4 : w3.cell? ⟨mb, 4, none⟩ = some (.slice (some ⟨g, 0, none⟩) (J + 1) cc) := hb3.cell 4
  have HBK3 := Lib.hid hb3
  have HS3 := Lib.hid hset3
  have hmbl := hb3.lt
  have hf2 : (f : Int) < J + 1 := by omega
  have hf3 : f < J + 1 := by omega
  have hJ2 : J ≤ 1000000 := by omega
  clear hE3 HM2 HU2 HB2 HC2 HX2 hpl hlen3 hb3 hr3 hset3
  go_wp2_with fail
  go_region
  have hE4 : Ext MM w3 (w3.setCell ⟨g, f * 6 + 1, none⟩ (.int .i64 ((J : Int) + 1))).drew own3 own3 := (Ext.refl.setCell (fun _ => .inr hcg3) _).drew
  have hm4 : Mk (w3.setCell ⟨g, f * 6 + 1, none⟩ (.int .i64 ((J : Int) + 1))).drew own3 mb p vs fy is2 := (Mk.set HBK3.out hcg3 HS3.out).ext Ext.refl.drew
  have HM4 := Lib.hid hm4
  have HU4 := Lib.hid (TmV.mm HU3.out hE4)
  have hb4 := HB3.out.ext hE4 (by unfold MM; omega)
  have hc4' := HC3.out.ext hE4 (by unfold MM; omega)
  have HX4 := Lib.hid (HX3.out.trans hE4)
  clear hm4 hE4 HBK3 HS3 HX3 HB3 HC3 HU3 cm4 hcl3 hfz3 hmbl hg3
  generalize (w3.setCell ⟨g, f * 6 + 1, none⟩ (.int .i64 ((J : Int) + 1))).drew = w4 at *
  have b0 : w4.cell? ⟨w.heap.size + 1, 0, none⟩ = some (.int .i64 k2) := hb4.cell 0
  have b1 : w4.cell? ⟨w.heap.size + 1, 1, none⟩ = some (.string s2) := hb4.cell 1
  have b2 : w4.cell? ⟨w.heap.size + 1, 2, none⟩ = some (.int .i64 x2) := hb4.cell 2
  have b3 : w4.cell? ⟨w.heap.size + 1, 3, none⟩ = some (.slice a2 l2 c2) := hb4.cell 3
  have d0 : w4.cell? ⟨w.heap.size + 1 + 1, 0, none⟩ = some (.int .i64 cop) := hc4'.cell 0
  have d1 : w4.cell? ⟨w.heap.size + 1 + 1, 1, none⟩ = some (.int .i64 ca) := hc4'.cell 1
  have d2 : w4.cell? ⟨w.heap.size + 1 + 1, 2, none⟩ = some (.int .i64 0) := hc4'.cell 2
  have d3 : w4.cell? ⟨w.heap.size + 1 + 1, 3, none⟩ = some (.string noStr) := hc4'.cell 3
  have d4 : w4.cell? ⟨w.heap.size + 1 + 1, 4, none⟩ = some (.int .i64 0) := hc4'.cell 4
  have d5 : w4.cell? ⟨w.heap.size + 1 + 1, 5, none⟩ = some (.slice none 0 0) := hc4'.cell 5
  have lb4 := hb4.lt
  have lc4 := hc4'.lt
  have HBD2 := Lib.hid (hbody u w4 own3 mb p vs fy is2 cop ca k2 s2 x2 a2 l2 c2 HM4.out HU4.out hc4 hc5 hr1 hr2 hd2 (by omega) (by omega) (by omega))
  rw [hz, hlen2] at HBD2
  clear hb4 hc4'
  go_wp2_with fail
  refine HBD2.out.mono ?_
  rintro e w5 ⟨own5, rfl, hm5, hE5⟩
  obtain ⟨rv5, hb5, hr5⟩ := hm5
  have hl5 : (is2 ++ place (J + 1) z).length = J + 1 + z.length := by rw [List.length_append, place_len, hlen2]
  obtain ⟨g5, cc5, yy5, rfl, hg5, hcg5, hfz5, hcl5, hset5⟩ := hr5.at_ (f := J) (by omega)
  have hset5 := hset5 ((J + 1 + z.length : Nat) : Int)
  rw [hl5] at hb5 hset5
  rw [h4, show ((J + 1 + z.length : Nat) : Int) = (J : Int) + 1 + z.length from rfl] at hset5
  have cm6 : w5.cell? ⟨mb, 4, none⟩ = some (.slice (some ⟨g5, 0, none⟩) (J + 1 + z.length) cc5) := hb5.cell 4
  have HBK5 := Lib.hid hb5
  have HS5 := Lib.hid hset5
  have HX5 := Lib.hid (HX4.out.trans hE5)
  have hmbl := hb5.lt
  have hj2 : (J : Int) < J + 1 + z.length := by omega
  have hj3 : J < J + 1 + z.length := by omega
  clear hE5 hb5 hr5 hset5 b0 b1 b2 b3 d0 d1 d2 d3 d4 d5 lb4 lc4 HBD2 HM4 HU4 HX4
  go_wp2_with fail
  go_region
  have hE6 : Ext MM w5 (w5.setCell ⟨g5, J * 6 + 1, none⟩ (.int .i64 ((J : Int) + 1 + z.length))).drew own5 own5 := (Ext.refl.setCell (fun _ => .inr hcg5) _).drew
  have hm6 : Mk (w5.setCell ⟨g5, J * 6 + 1, none⟩ (.int .i64 ((J : Int) + 1 + z.length))).drew own5 mb p vs fz is4 := (Mk.set HBK5.out hcg5 HS5.out).ext Ext.refl.drew
  have HP := Lib.hid (show MkPost w own mb p vs fz is4 (.tuple #[]) (.returned (.tuple #[])) (w5.setCell ⟨g5, J * 6 + 1, none⟩ (.int .i64 ((J : Int) + 1 + z.length))).drew from ⟨own5, rfl, hm6, HX5.out.trans hE6⟩)
  clear hE6 hm6
  go_wp2_with fail
  go_end0
  exact HP.out
end Go.Proofs.Ytamiidklcadkmaa
