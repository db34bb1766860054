/- The document's vars, Vars, and term.Vars: what they answer, over plain terms. -/
import Derived.Test.YtamiidklcadkmaaTermVars2
set_option maxRecDepth 20000
set_option linter.unusedVariables false
set_option linter.unusedSimpArgs false
namespace Go.Proofs.Ytamiidklcadkmaa
open Go.RowKit Go.PM
set_option maxHeartbeats 4000000 in
theorem rvars_any : ∀ (t : Tm) (w : World) (own : Nat → Nat) (K : Nat) (v ov : Value) (xs : List Int), TmV w (fun g => own g ≠ K) t v → Row w own K 2 1 ov xs.length (irow xs) → xs.length + Tm.sz t ≤ 1000000 →
    Calls Try.prog 38 #[v, ov] w (VrPost K w own (Tm.vars t xs)) := by
  refine Tm.ind fun k s x ls ih w own K v ov xs hv hrow hlen => ?_
  obtain ⟨a2, l2, c2, rfl, wk, ws, wx, hat⟩ := TmV_open hv
  have HAT := Lib.hid hat
  have IH := Lib.hid ih
  have HROW := Lib.hid hrow
  have HR := Lib.hid (show Tm.vars (.mk k s x ls) xs = _ by unfold Tm.vars; rfl)
  have hk1 : Tm.k (.mk k s x ls) = k := rfl
  have hs1 : Tm.s (.mk k s x ls) = s := rfl
  have hx1 : Tm.x (.mk k s x ls) = x := rfl
  rw [hk1, hs1, hx1]
  obtain ⟨ao, co, rfl⟩ := hrow.shape
  have hpos := sz_pos (.mk k s x ls)
  have HBX := Lib.hid (ext_box (M := fun c => c = K) (w := w) (own := own) (K + 1) (.cells #[.int .i64 k, .string s, .int .i64 x, .slice a2 l2 c2] 24))
  clear hat ih hk1 hs1 hx1 wk ws wx hv hrow
  by_cases k1 : k = 1
  · subst k1
    rw [if_pos rfl] at HR
    have HC := Lib.hid (HasLong_any xs x (w.alloc (.cells #[.int .i64 1, .string s, .int .i64 x, .slice a2 l2 c2] 24)) own K _ (HROW.out.alloc _) (by omega))
    by_cases hm : x ∈ xs
    · rw [if_pos hm] at HR
      rw [decide_eq_true hm] at HC
      rw [HR.out]
      clear hm HAT
      go_enter Try.func38, Try.ntmps38
      go_wp2_with fail
      refine HC.out.mono ?_
      rintro e w' ⟨rfl, rfl⟩
      go_wp2_with fail
      go_ret
      exact ⟨_, _, rfl, (Row_ow HROW.out (K + 1)).alloc _, HBX.out⟩
    · rw [if_neg hm] at HR
      rw [decide_eq_false hm] at HC
      rw [HR.out]
      clear hm HAT
      go_enter Try.func38, Try.ntmps38
      go_wp2_with fail
      refine HC.out.mono ?_
      rintro e w' ⟨rfl, rfl⟩
      have hrow2 : Row (w.alloc (.cells #[.int .i64 1, .string s, .int .i64 x, .slice a2 l2 c2] 24)) (ow own w.heap.size (K + 1)) K 2 1 (.slice ao xs.length co) xs.length (irow xs) := (Row_ow HROW.out (K + 1)).alloc _
      have HROW2 := Lib.hid hrow2
      clear hrow2
      go_wp2_with (at_builtin; refine wpList_append_lrow rfl _ _ rfl x rfl HROW2.out (by omega) rfl (by rw [World.size_alloc]) ?_; intro v' w' own' h1 h2; have H1 := Lib.hid h1; have H2 := Lib.hid h2; have b0 : w'.cell? ⟨w.heap.size, 0, none⟩ = some (.int .i64 1) := (Blk.ext (Blk.new w _ (ow_ge (Nat.le_refl _))) h2 (by omega)).cell 0; clear h1 h2)
      go_ret
      have h1l : (xs ++ [x]).length = xs.length + 1 := by simp
      exact ⟨_, _, rfl, by rw [h1l]; exact H1.out, HBX.out.trans H2.out⟩
  rw [if_neg k1] at HR
  by_cases k4 : k = 4
  · subst k4
    rw [if_pos rfl] at HR
    rw [HR.out]
    unfold Tm.sz at hlen
    rw [if_pos rfl] at hlen
    unfold Tm.At at HAT
    rcases HAT.out with ⟨hl, a, c, he⟩ | ⟨hl, g, off, c, he, hg, hc, hts⟩
    · subst hl
      injection he with he1 he2 he3
      subst he1
      subst he2
      subst he3
      clear HAT HR
      go_enter Try.func38, Try.ntmps38
      go_wp2_with fail
      go_loopg [1, 5] 0 (fun g ov iv wr => iv = .int .i64 0 ∧ ov = .slice ao xs.length co ∧ wr = w.alloc (.cells #[.int .i64 4, .string s, .int .i64 x, .slice a2 0 c2] 24))
      case atStart => exact ⟨rfl, rfl, rfl⟩
      case round =>
        obtain ⟨rfl, rfl, rfl⟩ := hrel
        go_wp2_with fail
        go_ret
        exact ⟨_, _, rfl, by unfold Tms.vars; exact (Row_ow HROW.out (K + 1)).alloc _, HBX.out⟩
    · injection he with he1 he2 he3
      subst he1
      subst he2
      subst he3
      have HTS := Lib.hid hts
      generalize hrr : Tms.vars ls xs = r
      have HRR := Lib.hid hrr
      have HROW2 := Lib.hid (show Row (w.alloc (.cells #[.int .i64 4, .string s, .int .i64 x, .slice (some ⟨g, off, none⟩) ls.length c2] 24)) (ow own w.heap.size (K + 1)) K 2 1 (.slice ao xs.length co) xs.length (irow xs) from (Row_ow HROW.out (K + 1)).alloc _)
      clear hts hrr HAT HR HROW
      go_enter Try.func38, Try.ntmps38
      go_wp2_with fail
      have hbx : Blk (w.alloc (.cells #[.int .i64 4, .string s, .int .i64 x, .slice (some ⟨g, off, none⟩) ls.length c2] 24)) (ow own w.heap.size (K + 1)) (K + 1) w.heap.size (.cells #[.int .i64 4, .string s, .int .i64 x, .slice (some ⟨g, off, none⟩) ls.length c2] 24 (0, 0)) := Blk.new _ _ (ow_ge (Nat.le_refl _))
      have HBK := Lib.hid hbx
      clear hbx
      generalize hw2 : w.alloc (.cells #[.int .i64 4, .string s, .int .i64 x, .slice (some ⟨g, off, none⟩) ls.length c2] 24) = w2 at *
      generalize ow own w.heap.size (K + 1) = own1 at *
      clear hw2
      go_loopg [1, 5] ls.length (fun g ov iv wr => VrInv w2 own1 K ls r g ov iv wr)
      case atStart => exact ⟨own1, 0, xs, rfl, by omega, HROW2.out, HRR.out, by show (xs.length : Int) + Tms.sz ls ≤ _; omega, Ext.refl⟩
      case round =>
        obtain ⟨ownr, i, ys, rfl, hi, hrow, hr, hlen2, hEr⟩ := hrel
        have HER := Lib.hid (HBX.out.trans hEr)
        have HEW := Lib.hid hEr
        obtain ⟨ao3, co3, rfl⟩ := hrow.shape
        have HRW := Lib.hid hrow
        have b3 : wr.cell? ⟨w.heap.size, 3, none⟩ = some (.slice (some ⟨g, off, none⟩) ls.length c2) := (HBK.out.ext hEr (by omega)).cell 3
        clear hEr hrow
        by_cases hlt : i < ls.length
        · have hlt2 : (i : Int) < ls.length := by omega
          rw [List.drop_eq_getElem_cons hlt] at hr hlen2
          unfold Tms.vars at hr
          unfold Tms.sz at hlen2
          have HR2 := Lib.hid hr
          obtain ⟨a3, l3, c3, q0, q1, q2, q3, htv⟩ := elem_ext HTS.out hg hc HER.out hlt
          have hp1 := sz_pos ls[i]
          have hp2 := szs_pos (ls.drop (i + 1))
          have hv1 := vars_len ls[i] ys
          have HI := Lib.hid (IH.out ls[i] (List.getElem_mem hlt) wr ownr K _ _ ys
            htv HRW.out (by omega))
          clear hr htv
          generalize Tm.k ls[i] = k1 at *
          generalize Tm.s ls[i] = s1 at *
          generalize Tm.x ls[i] = x1 at *
          generalize Tm.vars ls[i] ys = zs at *
          have hlen3 : (zs.length : Int) + Tms.sz (ls.drop (i + 1)) ≤ 1000000 := by omega
          clear hlen2 hv1 hp1 hp2
          go_wp2_with fail
          refine HI.out.mono ?_
          rintro e w5 ⟨own5, ov5, rfl, hrow5, hE5⟩
          have HRW5 := Lib.hid hrow5
          have HEV := Lib.hid (HEW.out.trans hE5)
          clear hE5 hrow5 HI q0 q1 q2 q3 HER HEW HRW
          go_wp2_with fail
          go_roundg (ls.length - (i + 1))
          case measure => omega
          case rel => exact ⟨own5, i + 1, zs, by go_num, by omega, HRW5.out, HR2.out, hlen3, HEV.out⟩
        · obtain rfl : i = ls.length := by omega
          rw [List.drop_length] at hr
          unfold Tms.vars at hr
          subst hr
          go_wp2_with fail
          go_ret
          exact ⟨_, _, rfl, HRW.out, HER.out⟩
  · rw [if_neg k4] at HR
    rw [HR.out]
    have hb1 : (k == 1) = false := by simp [k1]
    have hb4 : (k == 4) = false := by simp [k4]
    clear HAT
    go_enter Try.func38, Try.ntmps38
    go_wp2_with fail
    go_ret
    exact ⟨_, _, rfl, (Row_ow HROW.out (K + 1)).alloc _, HBX.out⟩
/-- Behind a call that makes a row of its own. -/
theorem Row.toFresh {w0 w w' : World} {own own' : Nat → Nat} {E : TypeId} {size n : Nat} {v : Value} {xs : List Value} (h : Row w' own' 1 E size v n xs) (hE : Ext (fun c => c = 1) w w' own own') (h0 : ∀ b, b < w0.heap.size → own b ≠ 1) (hs : w0.heap.size ≤ w.heap.size) : Row w' (fresh w0.heap.size) 1 E size v n xs :=
  h.recol fun b hb hc => fresh_ge (by
    by_cases hlt : b < w0.heap.size
    · rw [hE.col b (by omega)] at hc
      exact absurd hc (h0 b hlt)
    · omega)
theorem Ext.below1 {w w' : World} {own own' : Nat → Nat} (hE : Ext (fun c => c = 1) w w' own own') (h0 : ∀ b, own b ≠ 1) : Below w.heap.size w w' := hE.below fun b hb => h0 b
def lvars (t : Tm) : List Int := bif Tm.rightN t then Tm.vars t [] else []
theorem sz_right {t : Tm} (h : Tm.rightN t = true) : Tm.sz t ≤ 2000 := ((rightN_iff t).1 h).1
theorem vars_any0 (t : Tm) (w0 w : World) (C : Nat → Prop) (v : Value) (hv : TmV w C t v) (hsz : Tm.sz t ≤ 1000000) (hs : w0.heap.size ≤ w.heap.size) :
    Calls Try.prog 42 #[v, .slice none 0 0] w fun e w' => ∃ v', e = .returned v' ∧ Row w' (fresh w0.heap.size) 1 2 1 v' (Tm.vars t []).length (irow (Tm.vars t [])) ∧ Below w.heap.size w w' := by
  refine (vars_any t w (fun _ => 0) 1 v _ [] (hv.carry (Nat.le_refl _) fun g _ _ => ⟨rfl, by simp⟩) (Row.nil _ _ _ _ _) (by simpa using hsz)).mono ?_
  rintro e w' ⟨own', v', rfl, hr, hE⟩
  exact ⟨v', rfl, Row.toFresh hr hE (fun _ _ => by simp) hs, Ext.below1 hE (fun _ => by simp)⟩
theorem Vars_any (t : Tm) (w : World) (C : Nat → Prop) (v : Value) (hv : TmV w C t v) :
    Calls Try.prog 52 #[v] w fun e w' => ∃ v', e = .returned v' ∧ Row w' (fresh w.heap.size) 1 2 1 v' (lvars t).length (irow (lvars t)) ∧ Below w.heap.size w w' := by
  have HV := Lib.hid hv
  obtain ⟨a2, l2, c2, rfl, -, -, -, -⟩ := TmV_open hv
  have HI := right_one t (w.alloc (.cells #[.int .i64 t.k, .string t.s, .int .i64 t.x, .slice a2 l2 c2] 24)) C _ _ _ a2 l2 c2 (TmV.below HV.out ((Below.refl _ _).alloc (Nat.le_refl _) _))
  have HJ := Lib.hid (fun w2 (hb : Below w.heap.size w w2) (hz : Tm.sz t ≤ 1000000) => vars_any0 t w w2 C _ (TmV.below HV.out hb) hz hb.size)
  have HBX := Lib.hid (fun wr => @box_facts w t.k t.s t.x (.slice a2 l2 c2) wr)
  have HZ := Lib.hid (@sz_right t)
  simp only [World.size_alloc] at HI
  have HI := Lib.hid HI
  clear HV hv
  unfold lvars
  generalize Tm.k t = k1 at *
  generalize Tm.s t = s1 at *
  generalize Tm.x t = x1 at *
  generalize Tm.rightN t = b at *
  go_enter Try.func52, Try.ntmps52
  go_wp2_with fail
  refine HI.out.mono ?_
  rintro e w5 ⟨rfl, hB5⟩
  obtain ⟨b0, b1, b2, b3, b4⟩ := HBX.out _ (by rw [World.size_alloc]; exact hB5)
  have HB := Lib.hid b4
  clear HI hB5 b4
  cases b
  · go_wp2_with fail
    go_ret
    exact ⟨_, rfl, Row.nil _ _ _ _ _, HB.out⟩
  · go_wp2_with fail
    refine (HJ.out _ HB.out (by have := HZ.out trivial; omega)).mono ?_
    rintro e w6 ⟨v', rfl, hr, hB⟩
    have HR := Lib.hid hr
    have HB6 := Lib.hid (HB.out.trans (hB.mono HB.out.size))
    clear hr hB
    go_wp2_with fail
    go_ret
    exact ⟨_, rfl, HR.out, HB6.out⟩
/-- The document's. -/
theorem rVars_any (t : Tm) (w : World) (C : Nat → Prop) (v : Value) (hv : TmV w C t v) (hsz : Tm.sz t ≤ 1000000) :
    Calls Try.prog 19 #[v] w fun e w' => ∃ v', e = .returned v' ∧ Row w' (fresh w.heap.size) 1 2 1 v' (Tm.vars t []).length (irow (Tm.vars t [])) ∧ Below w.heap.size w w' := by
  obtain ⟨a2, l2, c2, rfl, -, -, -, -⟩ := TmV_open hv
  have HI := rvars_any t ((w.alloc (.cells #[.int .i64 t.k, .string t.s, .int .i64 t.x, .slice a2 l2 c2] 24)).alloc (.cells #[] 2)) (fresh w.heap.size) 1 _ (.slice (some ⟨w.heap.size + 1, 0, none⟩) 0 0) [] (hv.carry (by simp only [World.size_alloc]; omega) fun g hg hc => ⟨by rw [heap_alloc_old _ _ (by rw [World.size_alloc]; omega), heap_alloc_old _ _ hg], fresh_lt hg⟩)
    (Row.start ⟨by rw [show w.heap.size + 1 = (w.alloc (.cells #[.int .i64 t.k, .string t.s, .int .i64 t.x, .slice a2 l2 c2] 24)).heap.size by rw [World.size_alloc]]; exact heap_alloc_new _ _, fresh_ge (by omega)⟩) (by simpa using hsz)
  have HB := Lib.hid (((Below.refl w.heap.size w).alloc (Nat.le_refl _) (.cells #[.int .i64 t.k, .string t.s, .int .i64 t.x, .slice a2 l2 c2] 24)).alloc (by rw [World.size_alloc]; omega) (.cells #[] 2))
  have HI := Lib.hid HI
  clear hv
  generalize Tm.k t = k1 at *
  generalize Tm.s t = s1 at *
  generalize Tm.x t = x1 at *
  generalize Tm.vars t [] = r at *
  go_enter Try.func19, Try.ntmps19
  go_wp2_with fail
  refine HI.out.mono ?_
  rintro e w6 ⟨own', v', rfl, hr, hE⟩
  have HR := Lib.hid (Row.toFresh (w0 := w) hr hE (fun b hb => fresh_lt hb) (by simp only [World.size_alloc]; omega))
  have HB6 := Lib.hid (HB.out.trans (hE.freshBelow (by simp only [World.size_alloc]; omega)))
  clear hr hE
  go_wp2_with fail
  go_ret
  exact ⟨_, rfl, HR.out, HB6.out⟩
end Go.Proofs.Ytamiidklcadkmaa
