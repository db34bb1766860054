/- maker.condition and maker.choose, given what maker.body does; facts about cells that a drawn region reads. -/
import Derived.Test.YtamiidklcadkmaaBodyPure
set_option maxRecDepth 20000
set_option linter.unusedVariables false
set_option linter.unusedSimpArgs false
namespace Go.Proofs.Ytamiidklcadkmaa
open Go.RowKit Go.PM
/-- Cells that stand. -/
def Facts : List (Addr × Value) → World → Prop
  | [], _ => True
  | p :: L, w => w.cell? p.1 = some p.2 ∧ Facts L w
/-- Cells that stand, in blocks that the maker leaves alone. -/
def FactsAt (own : Nat → Nat) : List (Addr × Value) → World → Prop
  | [], _ => True
  | p :: L, w => (w.cell? p.1 = some p.2 ∧ p.1.block < w.heap.size ∧ TC own p.1.block ∧ p.1.spot = none) ∧ FactsAt own L w
theorem FactsAt.facts {own : Nat → Nat} {w : World} : ∀ {L : List (Addr × Value)}, FactsAt own L w → Facts L w
  | [], _ => trivial
  | p :: L, h => ⟨h.1.1, FactsAt.facts h.2⟩
theorem FactsAt.ext {w w' : World} {own own' : Nat → Nat} (e : Ext MM w w' own own') : ∀ {L : List (Addr × Value)}, FactsAt own L w → FactsAt own' L w'
  | [], _ => trivial
  | p :: L, h => by
    obtain ⟨⟨h1, h2, h3, h4⟩, h5⟩ := h
    refine ⟨⟨?_, by have := e.size; omega, ?_, h4⟩, FactsAt.ext e h5⟩
    · have hb := e.same p.1.block h2 (fun h => by rcases h with h | h; exact h3.1 h; exact h3.2.1 h)
      rw [← h1]
      unfold World.cell?
      rw [hb]
    · show own' _ ≠ 1 ∧ own' _ ≠ 2 ∧ own' _ ≠ 3
      rw [e.col _ h2]
      exact h3
theorem Blk.fact {w : World} {own : Nat → Nat} {k b : Nat} {o : Obj} (h : Blk w own k b o) (hk : k ≠ 1 ∧ k ≠ 2 ∧ k ≠ 3) {i : Nat} {v : Value} (hc : w.cell? ⟨b, i, none⟩ = some v) : w.cell? ⟨b, i, none⟩ = some v ∧ b < w.heap.size ∧ TC own b ∧ (⟨b, i, none⟩ : Addr).spot = none :=
  ⟨hc, h.lt, by show own b ≠ 1 ∧ own b ≠ 2 ∧ own b ≠ 3; rw [h.col]; exact hk, rfl⟩
/-- An argument of a term. -/
theorem arg_cells {w : World} {C : Nat → Prop} {t : Tm} {k : Int} {s : ByteArray} {x : Int} {a : Option Addr} {l c : Nat} (hv : TmV w C t (.agg #[.int .i64 k, .string s, .int .i64 x, .slice a l c])) (h0 : 0 < t.ls.length) :
    ∃ g off, a = some ⟨g, off, none⟩ ∧ g < w.heap.size ∧ C g ∧ ∀ i, i < t.ls.length → ∃ a2 l2 c2, w.cell? ⟨g, off + i * 4, none⟩ = some (.int .i64 (targ t i).k) ∧ w.cell? ⟨g, off + i * 4 + 1, none⟩ = some (.string (targ t i).s) ∧ w.cell? ⟨g, off + i * 4 + 2, none⟩ = some (.int .i64 (targ t i).x) ∧ w.cell? ⟨g, off + i * 4 + 3, none⟩ = some (.slice a2 l2 c2) ∧
      TmV w C (targ t i) (.agg #[.int .i64 (targ t i).k, .string (targ t i).s, .int .i64 (targ t i).x, .slice a2 l2 c2]) := by
  obtain ⟨_, _, _, _, _, _, hat⟩ := TmV_at hv
  match t, h0, hat with
  | .mk k s x ls, h0, hat =>
    unfold Tm.At at hat
    rcases hat with ⟨hl, _⟩ | ⟨hl, g, off, c', he, hg, hc, hts⟩
    · subst hl
      simp [Tm.ls] at h0
    · injection he with he
      refine ⟨g, off, he, hg, hc, fun i hi => ?_⟩
      have hi : i < ls.length := hi
      have e : targ (.mk k s x ls) i = ls[i] := by
        unfold targ
        show ls.getD i zeroT = _
        rw [List.getD_eq_getElem?_getD, List.getElem?_eq_getElem hi]
        rfl
      rw [e]
      obtain ⟨q0, q1, q2, w0, w1', w2, sl2, q3, ha2⟩ := Tms.at_get hts hi
      obtain ⟨a2, l2, c2, rfl⟩ := Tm.at_shape ha2
      exact ⟨a2, l2, c2, q0, q1, q2, q3, _, rfl, w0, w1', w2, ha2⟩
/-- What body does. -/
def BodyOk (n : Nat) : Prop := ∀ (t : Tm) (w : World) (own : Nat → Nat) (mb : Nat) (p : ByteArray × Int) (vs slots : Int) (is : List In) (cop ca : Int) (k : Int) (s : ByteArray) (x : Int) (a : Option Addr) (l c : Nat),
  Mk w own mb p vs slots is → TmV w (TC own) t (.agg #[.int .i64 k, .string s, .int .i64 x, .slice a l c]) → cop ≠ 4 → cop ≠ 5 → rng64 cop → rng64 ca → Tm.dp t ≤ n → is.length + 6 * Tm.sz t + 10 * n ≤ 1000000 → 0 ≤ slots → slots + 2 * Tm.sz t + 10 * n ≤ 1000000 →
  Calls Try.prog 28 #[.pointer (some ⟨mb, 0, none⟩), .agg #[.int .i64 k, .string s, .int .i64 x, .slice a l c], .agg #[.int .i64 cop, .int .i64 ca, .int .i64 0, .string noStr, .int .i64 0, .slice none 0 0]] w
    (MkPost w own mb p vs (bd n t (In0 cop ca) slots).2 (is ++ place is.length (bd n t (In0 cop ca) slots).1) (.tuple #[]))
theorem zeroV (w : World) (C : Nat → Prop) : TmV w C zeroT (.agg #[.int .i64 0, .string noStr, .int .i64 0, .slice none 0 0]) := tm_zero w C
theorem add0 {w : World} {own : Nat → Nat} {mb : Nat} {p : ByteArray × Int} {vs slots : Int} {is : List In} (hm : Mk w own mb p vs slots is) (op a : Int) (hn : is.length ≤ 1000000000) :
    Calls Try.prog 27 #[.pointer (some ⟨mb, 0, none⟩), .agg #[.int .i64 op, .int .i64 a, .int .i64 0, .string noStr, .int .i64 0, .slice none 0 0]] w (MkPost w own mb p vs slots (is ++ [In0 op a]) (.int .i64 is.length)) :=
  add_any hm (In0 op a) _ (zeroV _ _) 0 noStr 0 none 0 0 rfl hn
theorem MkPost.from {w0 w w' : World} {own0 own : Nat → Nat} {mb : Nat} {p : ByteArray × Int} {vs slots : Int} {is : List In} {v : Value} {e : Ending} (hE : Ext MM w0 w own0 own) (h : MkPost w own mb p vs slots is v e w') : MkPost w0 own0 mb p vs slots is v e w' := by
  obtain ⟨own', h1, h2, h3⟩ := h
  exact ⟨own', h1, h2, hE.trans h3⟩
set_option maxHeartbeats 1000000 in
theorem condition_any {n : Nat} (hbody : BodyOk n) (t : Tm) (w : World) (own : Nat → Nat) (mb : Nat) (p : ByteArray × Int) (vs slots : Int) (is : List In) (k : Int) (s : ByteArray) (x : Int) (a : Option Addr) (l c : Nat)
    (hm : Mk w own mb p vs slots is) (hv : TmV w (TC own) t (.agg #[.int .i64 k, .string s, .int .i64 x, .slice a l c])) (hd : Tm.dp t ≤ n) (hl : is.length + 6 * Tm.sz t + 4 + 10 * n ≤ 1000000) (hs0 : 0 ≤ slots) (hs : slots + 2 * Tm.sz t + 2 + 10 * n ≤ 1000000) :
    Calls Try.prog 47 #[.pointer (some ⟨mb, 0, none⟩), .agg #[.int .i64 k, .string s, .int .i64 x, .slice a l c]] w
      (MkPost w own mb p vs (bd n t (In0 7 (slots + 1)) (slots + 2)).2 (((is ++ [In0 6 slots]) ++ [In0 4 0]) ++ [In0 6 (slots + 1)] ++ place (is.length + 3) (bd n t (In0 7 (slots + 1)) (slots + 2)).1 ++ [In0 7 slots]) (.int .i64 (is.length + 1 : Nat))) := by
  have hp := sz_pos t
  have hbl := bd_le n t (In0 7 (slots + 1)) (slots + 2)
  have hX0 := ext_box (M := MM) (w := w) (own := own) 0 (.cells #[.int .i64 k, .string s, .int .i64 x, .slice a l c] 24)
  have HM1 := Lib.hid (hm.ext (ext_box (M := fun _ => False) (w := w) (own := own) 0 (.cells #[.int .i64 k, .string s, .int .i64 x, .slice a l c] 24)))
  have HV1 := Lib.hid (TmV.mm hv hX0)
  have HB1 := Lib.hid (Blk.new (own := ow own w.heap.size 0) (k := 0) w (.cells #[.int .i64 k, .string s, .int .i64 x, .slice a l c] 24) (ow_ge (Nat.le_refl _)))
  have HX1 := Lib.hid hX0
  clear hm hv hX0
  generalize hw1 : w.alloc (.cells #[.int .i64 k, .string s, .int .i64 x, .slice a l c] 24) = w1 at *
  generalize ow own w.heap.size 0 = own1 at *
  go_enter Try.func47, Try.ntmps47
  go_wp2_with fail
  refine (slot_any HM1.out (by omega) (by omega)).mono ?_
  rintro e w2 ⟨own2, rfl, hm2, hE2⟩
  have HM2 := Lib.hid hm2
  have HV2 := Lib.hid (TmV.mm HV1.out hE2)
  have HB2 := Lib.hid (HB1.out.ext hE2 (by unfold MM; omega))
  have HX2 := Lib.hid (HX1.out.trans hE2)
  clear hm2 hE2 HM1 HV1 HB1 HX1
  go_wp2_with fail
  refine (add0 HM2.out 6 slots (by omega)).mono ?_
  rintro e w3 ⟨own3, rfl, hm3, hE3⟩
  have HM3 := Lib.hid hm3
  have HV3 := Lib.hid (TmV.mm HV2.out hE3)
  have HB3 := Lib.hid (HB2.out.ext hE3 (by unfold MM; omega))
  have HX3 := Lib.hid (HX2.out.trans hE3)
  clear hm3 hE3 HM2 HV2 HB2 HX2
  go_wp2_with fail
  refine (add0 HM3.out 4 0 (by simp only [List.length_append, List.length_singleton]; omega)).mono ?_
  rintro e w4 ⟨own4, rfl, hm4, hE4⟩
  have HM4 := Lib.hid hm4
  have HV4 := Lib.hid (TmV.mm HV3.out hE4)
  have HB4 := Lib.hid (HB3.out.ext hE4 (by unfold MM; omega))
  have HX4 := Lib.hid (HX3.out.trans hE4)
  clear hm4 hE4 HM3 HV3 HB3 HX3
  go_wp2_with fail
  refine (slot_any HM4.out (by omega) (by omega)).mono ?_
  rintro e w5 ⟨own5, rfl, hm5, hE5⟩
  have HM5 := Lib.hid hm5
  have HV5 := Lib.hid (TmV.mm HV4.out hE5)
  have HB5 := Lib.hid (HB4.out.ext hE5 (by unfold MM; omega))
  have HX5 := Lib.hid (HX4.out.trans hE5)
  clear hm5 hE5 HM4 HV4 HB4 HX4
  go_wp2_with fail
  refine (add0 HM5.out 6 (slots + 1) (by simp only [List.length_append, List.length_singleton]; omega)).mono ?_
  rintro e w6 ⟨own6, rfl, hm6, hE6⟩
  have HM6 := Lib.hid hm6
  have HV6 := Lib.hid (TmV.mm HV5.out hE6)
  have HB6 := Lib.hid (HB5.out.ext hE6 (by unfold MM; omega))
  have HX6 := Lib.hid (HX5.out.trans hE6)
  clear hm6 hE6 HM5 HV5 HB5 HX5
  have b0 := HB6.out.cell 0
  have b1 := HB6.out.cell 1
  have b2 := HB6.out.cell 2
  have b3 := HB6.out.cell 3
  simp at b0 b1 b2 b3
  have hbl6 := HB6.out.lt
  go_wp2_with fail
  have HBD := Lib.hid (hbody t w6 own6 mb p vs (slots + 1 + 1) (is ++ [In0 6 slots] ++ [In0 4 0] ++ [In0 6 (slots + 1)]) 7 (slots + 1) k s x a l c HM6.out HV6.out (by decide) (by decide) (by unfold rng64; omega) (by unfold rng64; omega) hd (by simp only [List.length_append, List.length_singleton]; omega) (by omega) (by omega))
  rw [show slots + 1 + 1 = slots + 2 by omega, show (is ++ [In0 6 slots] ++ [In0 4 0] ++ [In0 6 (slots + 1)]).length = is.length + 3 by simp] at HBD
  refine HBD.out.mono ?_
  rintro e w7 ⟨own7, rfl, hm7, hE7⟩
  have HM7 := Lib.hid hm7
  have HX7 := Lib.hid (HX6.out.trans hE7)
  have hpl := place_len (bd n t (In0 7 (slots + 1)) (slots + 2)).1 (is.length + 3)
  have hlen7 : (is ++ [In0 6 slots] ++ [In0 4 0] ++ [In0 6 (slots + 1)] ++ place (is.length + 3) (bd n t (In0 7 (slots + 1)) (slots + 2)).1).length ≤ 1000000000 := by
    simp only [List.length_append, List.length_singleton]
    omega
  clear hm7 hE7 HM6 HV6 HB6 HX6 HBD b0 b1 b2 b3 hpl
  go_wp2_with fail
  refine (add0 HM7.out 7 slots hlen7).mono ?_
  rintro e w8 ⟨own8, rfl, hm8, hE8⟩
  have HM8 := Lib.hid hm8
  have HX8 := Lib.hid (HX7.out.trans hE8)
  clear hm8 hE8 HM7 HX7 hlen7
  go_wp2_with fail
  go_ret
  exact ⟨own8, by simp, HM8.out, HX8.out⟩
end Go.Proofs.Ytamiidklcadkmaa
