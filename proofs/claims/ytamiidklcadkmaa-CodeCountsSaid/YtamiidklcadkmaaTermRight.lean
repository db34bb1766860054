/- term.right, term.Check, term.bare, base.Of: what they answer, over plain terms. -/
import Derived.Test.YtamiidklcadkmaaTermMeasure
set_option maxRecDepth 20000
set_option linter.unusedVariables false
set_option linter.unusedSimpArgs false
namespace Go.Proofs.Ytamiidklcadkmaa
open Go.RowKit Go.PM
theorem fresh_lt {n b : Nat} (h : b < n) : fresh n b ≠ 1 := by
  unfold fresh
  rw [ow_lt h]
  decide
theorem fresh_ge {n b : Nat} (h : n ≤ b) : fresh n b = 1 := by
  unfold fresh
  rw [ow_ge h]
/-- measure, its count in a block that was just made. -/
theorem measure_new (t : Tm) (w : World) (C : Nat → Prop) (q : Nat) (v : Value) (hv : TmV w C t v) (hC : ∀ g, g < w.heap.size → C g → g < q) (hq : w.heap[q]? = some (.cells #[.int .i64 0] 3 (0, 0))) :
    Calls Try.prog 58 #[v, .int .i64 1, .pointer (some ⟨q, 0, none⟩)] w fun e w' => ∃ d, e = .returned (.tuple #[.int .i64 d, .bool (Tm.rightN t)]) ∧ Below q w w' := by
  have hlt : q < w.heap.size := (Array.getElem?_eq_some_iff.1 hq).1
  refine (measure_any t w (fresh q) 1 q v 1 0 (hv.carry (Nat.le_refl _) fun g hg hc => ⟨rfl, fresh_lt (hC g hg hc)⟩) ⟨hq, fresh_ge (Nat.le_refl _)⟩ (by decide) (by decide) (by decide) (by decide)).mono ?_
  rintro e w' ⟨own', he, hE, _⟩
  exact ⟨_, by rw [he, meas_right], hE.freshBelow (by omega)⟩
def RtInv (w0 : World) (ts : List Tm) (b : Bool) (g : Nat) (iv : Value) (w : World) : Prop :=
  ∃ i : Nat, iv = .int .i64 i ∧ i + g = ts.length ∧ (ts.drop i).all Tm.rightN = b ∧ Below w0.heap.size w0 w
theorem Below.trans' {w0 w1 w2 : World} {n : Nat} (h : Below w0.heap.size w0 w1) (k : Below n w1 w2) (hn : w0.heap.size ≤ n) : Below w0.heap.size w0 w2 := h.trans (k.mono hn)
set_option maxHeartbeats 2000000 in
theorem right_any (ts : List Tm) (w : World) (C : Nat → Prop) (g off c : Nat) (hts : Tms.At w C ts g off) (hg : g < w.heap.size) (hl : ts.length ≤ 9223372036854775807) :
    Calls Try.prog 41 #[.slice (some ⟨g, off, none⟩) ts.length c] w fun e w' => e = .returned (.bool (ts.all Tm.rightN)) ∧ Below w.heap.size w w' := by
  have HTS := Lib.hid hts
  generalize hbb : ts.all Tm.rightN = b
  have HB := Lib.hid hbb
  clear hts hbb
  go_enter Try.func41, Try.ntmps41
  go_wp2_with fail
  go_loopg [10] ts.length (fun g iv wr => RtInv w ts b g iv wr)
  case atStart => exact ⟨0, rfl, by omega, HB.out, Below.refl _ _⟩
  case round =>
    obtain ⟨i, rfl, hi, hr, hBl⟩ := hrel
    have HBL := Lib.hid hBl
    have hsz := hBl.size
    clear hBl
    by_cases hlt : i < ts.length
    · have hlt2 : (i : Int) < ts.length := by omega
      rw [List.drop_eq_getElem_cons hlt, List.all_cons] at hr
      have HR := Lib.hid hr
      obtain ⟨sl2, q0, q1, q2, q3, htv⟩ := elem_facts HTS.out hg HBL.out hlt
      obtain ⟨a2, l2, c2, rfl⟩ : ∃ a2 l2 c2, sl2 = .slice a2 l2 c2 := by
        obtain ⟨sl, he, _, _, _, ha⟩ := htv
        obtain ⟨a, n, c, rfl⟩ := Tm.at_shape ha
        injection he with he
        have := congrArg (fun a => a[3]?) he
        exact ⟨a, n, c, by simpa using this⟩
      have HI := Lib.hid (measure_new ts[i] ((wr.alloc (.cells #[.int .i64 ts[i].k, .string ts[i].s, .int .i64 ts[i].x, .slice a2 l2 c2] 24)).alloc (.cells #[.int .i64 0] 3)) (fun g => C g ∧ g < wr.heap.size) (wr.heap.size + 1) _
        (htv.carry (by rw [World.size_alloc, World.size_alloc]; omega) fun g hg hc => ⟨by rw [heap_alloc_old _ _ (by rw [World.size_alloc]; omega), heap_alloc_old _ _ hg], hc, hg⟩)
        (fun g _ hc => by have := hc.2; omega) (by rw [show wr.heap.size + 1 = (wr.alloc (.cells #[.int .i64 ts[i].k, .string ts[i].s, .int .i64 ts[i].x, .slice a2 l2 c2] 24)).heap.size by rw [World.size_alloc]]; exact heap_alloc_new _ _))
      clear hr htv
      generalize Tm.k ts[i] = k1 at *
      generalize Tm.s ts[i] = s1 at *
      generalize Tm.x ts[i] = x1 at *
      generalize hbi : Tm.rightN ts[i] = bi at *
      clear hbi
      go_wp2_with fail
      refine HI.out.mono ?_
      rintro e w5 ⟨d, rfl, hB5⟩
      have HB5 := Lib.hid (Below.trans' (((HBL.out.alloc HBL.out.size _).alloc (by rw [World.size_alloc]; omega) _)) hB5 (by omega))
      clear hB5 HI q0 q1 q2 q3 HBL
      cases bi with
      | false =>
        have hb : b = false := by rw [← HR.out]; rfl
        subst hb
        go_wp2_with fail
        go_ret
        exact ⟨rfl, HB5.out⟩
      | true =>
        have HR2 : Hid ((ts.drop (i + 1)).all Tm.rightN = b) := Lib.hid (by rw [← HR.out]; rfl)
        clear HR
        go_wp2_with fail
        go_roundg (ts.length - (i + 1))
        case measure => omega
        case rel => exact ⟨i + 1, by go_num, by omega, HR2.out, HB5.out⟩
    · obtain rfl : i = ts.length := by omega
      have hb : b = true := by rw [← hr, List.drop_length]; rfl
      subst hb
      clear hr
      go_wp2_with fail
      go_ret
      exact ⟨rfl, HBL.out⟩
/-- One term, in the box that a variadic call makes. -/
theorem right_one (t : Tm) (w : World) (C : Nat → Prop) (k : Int) (s : ByteArray) (x : Int) (a2 : Option Addr) (l2 c2 : Nat) (hv : TmV w C t (.agg #[.int .i64 k, .string s, .int .i64 x, .slice a2 l2 c2])) :
    Calls Try.prog 41 #[.slice (some ⟨w.heap.size, 0, none⟩) 1 1] (w.alloc (.cells #[.int .i64 k, .string s, .int .i64 x, .slice a2 l2 c2] 24)) fun e w' => e = .returned (.bool (Tm.rightN t)) ∧ Below w.heap.size w w' := by
  have hE : (w.alloc (.cells #[.int .i64 k, .string s, .int .i64 x, .slice a2 l2 c2] 24)).heap[w.heap.size]? = some (.cells #[.int .i64 k, .string s, .int .i64 x, .slice a2 l2 c2] 24) := heap_alloc_new _ _
  have hb : Blk (w.alloc (.cells #[.int .i64 k, .string s, .int .i64 x, .slice a2 l2 c2] 24)) (fun _ => 0) 0 w.heap.size (.cells #[.int .i64 k, .string s, .int .i64 x, .slice a2 l2 c2] 24 (0, 0)) := ⟨hE, rfl⟩
  have hv2 := hv.carry (w' := w.alloc (.cells #[.int .i64 k, .string s, .int .i64 x, .slice a2 l2 c2] 24)) (C' := C) (by rw [World.size_alloc]; omega) fun g hg hc => ⟨heap_alloc_old _ _ hg, hc⟩
  obtain ⟨sl, he, h1, h2, h3, h4⟩ := hv2
  injection he with he
  have e0 := congrArg (fun a => a[0]?) he
  have e1 := congrArg (fun a => a[1]?) he
  have e2 := congrArg (fun a => a[2]?) he
  have e3 := congrArg (fun a => a[3]?) he
  simp at e0 e1 e2 e3
  subst e3
  refine (right_any [t] _ C w.heap.size 0 1 ⟨⟨?_, ?_, ?_, h1, h2, h3, _, ?_, h4⟩, trivial⟩ (by rw [World.size_alloc]; omega) (by simp)).mono ?_
  · rw [hb.cell, ← e0]; rfl
  · rw [hb.cell, ← e1]; rfl
  · rw [hb.cell, ← e2]; rfl
  · rw [hb.cell]; rfl
  · rintro e w' ⟨rfl, hB⟩
    exact ⟨by simp, ((Below.refl w.heap.size w).alloc (Nat.le_refl _) _).trans (hB.mono (by rw [World.size_alloc]; omega))⟩
end Go.Proofs.Ytamiidklcadkmaa
