/- term.vars, term.Vars, and the document's vars, Vars: what they answer, over plain terms. -/
import Derived.Test.YtamiidklcadkmaaTermVars
set_option maxRecDepth 20000
set_option linter.unusedVariables false
set_option linter.unusedSimpArgs false
namespace Go.Proofs.Ytamiidklcadkmaa
open Go.RowKit Go.PM
mutual
/-- A term's variables, behind some. -/
def Tm.vars : Tm → List Int → List Int
  | .mk k _ x ls, out => if k = 1 then (if x ∈ out then out else out ++ [x]) else if k = 4 then Tms.vars ls out else out
def Tms.vars : List Tm → List Int → List Int
  | [], out => out
  | t :: ts, out => Tms.vars ts (Tm.vars t out)
end
theorem vars_len : ∀ (t : Tm) (out : List Int), ((Tm.vars t out).length : Int) ≤ out.length + Tm.sz t := by
  refine Tm.ind fun k s x ls ih out => ?_
  have key : ∀ l : List Tm, (∀ t ∈ l, ∀ out : List Int, ((Tm.vars t out).length : Int) ≤ out.length + Tm.sz t) → ∀ out : List Int, ((Tms.vars l out).length : Int) ≤ out.length + Tms.sz l := by
    intro l
    induction l with
    | nil => intro _ out; unfold Tms.vars Tms.sz; omega
    | cons t ts iht =>
      intro h out
      unfold Tms.vars Tms.sz
      have h1 := h t (by simp) out
      have h2 := iht (fun u hu => h u (List.mem_cons_of_mem _ hu)) (Tm.vars t out)
      omega
  have h2 := key ls ih out
  have p2 := szs_pos ls
  unfold Tm.vars Tm.sz
  by_cases k1 : k = 1
  · rw [if_pos k1, if_neg (show ¬ k = 4 by omega)]
    split
    · omega
    · rw [List.length_append]; simp
  rw [if_neg k1]
  by_cases k4 : k = 4
  · rw [if_pos k4, if_pos k4]
    omega
  · rw [if_neg k4, if_neg k4]
    omega
def VrPost (K : Nat) (w : World) (own : Nat → Nat) (r : List Int) (e : Ending) (w' : World) : Prop :=
  ∃ own' v', e = .returned v' ∧ Row w' own' K 2 1 v' r.length (irow r) ∧ Ext (fun c => c = K) w w' own own'
def VrInv (w0 : World) (own0 : Nat → Nat) (K : Nat) (ls : List Tm) (r : List Int) (g : Nat) (ov iv : Value) (w : World) : Prop :=
  ∃ (own : Nat → Nat) (i : Nat) (ys : List Int), iv = .int .i64 i ∧ i + g = ls.length ∧ Row w own K 2 1 ov ys.length (irow ys) ∧ Tms.vars (ls.drop i) ys = r ∧ ys.length + Tms.sz (ls.drop i) ≤ 1000000 ∧ Ext (fun c => c = K) w0 w own0 own
theorem Row_ow {w : World} {own : Nat → Nat} {k : Nat} {E : TypeId} {size n : Nat} {v : Value} {xs : List Value} (h : Row w own k E size v n xs) (L : Nat) : Row w (PM.ow own w.heap.size L) k E size v n xs := h.recol fun b hb hc => by rw [ow_lt hb]; exact hc
theorem ext_box {M : Nat → Prop} {w : World} {own : Nat → Nat} (L : Nat) (o : Obj) : Ext M w (w.alloc o) own (ow own w.heap.size L) := (Ext.refl.ow L).alloc o
theorem TmV.ext2 {w w' : World} {own own' : Nat → Nat} {K : Nat} {t : Tm} {v : Value} (h : TmV w (fun g => own g ≠ K) t v) (e : Ext (fun c => c = K) w w' own own') : TmV w' (fun g => own' g ≠ K) t v := TmV.ext h e
set_option maxHeartbeats 4000000 in
theorem vars_any : ∀ (t : Tm) (w : World) (own : Nat → Nat) (K : Nat) (v ov : Value) (xs : List Int), TmV w (fun g => own g ≠ K) t v → Row w own K 2 1 ov xs.length (irow xs) → xs.length + Tm.sz t ≤ 1000000 →
    Calls Try.prog 42 #[v, ov] w (VrPost K w own (Tm.vars t xs)) := by
  refine Tm.ind fun k s x ls ih w own K v ov xs hv hrow hlen => ?_
  obtain ⟨a2, l2, c2, rfl, wk, ws, wx, hat⟩ := TmV_open hv
  have HAT := Lib.hid hat
  have IH := Lib.hid ih
  have HROW := Lib.hid hrow
  have HR := Lib.hid (show Tm.vars (.mk k s x ls) xs = _ by unfold Tm.vars; rfl)
  have hk1 : Tm.k (.mk k s x ls) = k := rfl
  have hs1 : Tm.s (.mk k s x ls) = s := rfl
  have hx1 : Tm.x (.mk k s x ls) = x := rfl
  rw [hk1, hs1, hx1]
  obtain ⟨ao, co, rfl⟩ := hrow.shape
  have hpos := sz_pos (.mk k s x ls)
  have HBX := Lib.hid (ext_box (M := fun c => c = K) (w := w) (own := own) (K + 1) (.cells #[.int .i64 k, .string s, .int .i64 x, .slice a2 l2 c2] 24))
  clear hat ih hk1 hs1 hx1 wk ws wx hv hrow
  by_cases k1 : k = 1
  · subst k1
    rw [if_pos rfl] at HR
    have HC := Lib.hid (Contains_any xs x (w.alloc (.cells #[.int .i64 1, .string s, .int .i64 x, .slice a2 l2 c2] 24)) own K _ (HROW.out.alloc _) (by omega))
    by_cases hm : x ∈ xs
    · rw [if_pos hm] at HR
      rw [decide_eq_true hm] at HC
      rw [HR.out]
      clear hm HAT
      go_enter Try.func42, Try.ntmps42
      go_wp2_with fail
      refine HC.out.mono ?_
      rintro e w' ⟨rfl, rfl⟩
      go_wp2_with fail
      go_ret
      exact ⟨_, _, rfl, (Row_ow HROW.out (K + 1)).alloc _, HBX.out⟩
    · rw [if_neg hm] at HR
      rw [decide_eq_false hm] at HC
      rw [HR.out]
      clear hm HAT
      go_enter Try.func42, Try.ntmps42
      go_wp2_with fail
      refine HC.out.mono ?_
      rintro e w' ⟨rfl, rfl⟩
      have hrow2 : Row (w.alloc (.cells #[.int .i64 1, .string s, .int .i64 x, .slice a2 l2 c2] 24)) (ow own w.heap.size (K + 1)) K 2 1 (.slice ao xs.length co) xs.length (irow xs) := (Row_ow HROW.out (K + 1)).alloc _
      have HROW2 := Lib.hid hrow2
      clear hrow2
      go_wp2_with (at_builtin; refine wpList_append_lrow rfl _ _ rfl x rfl HROW2.out (by omega) rfl (by rw [World.size_alloc]) ?_; intro v' w' own' h1 h2)
      go_ret
      have h1l : (xs ++ [x]).length = xs.length + 1 := by simp
      exact ⟨_, _, rfl, by rw [h1l]; exact h1, HBX.out.trans h2⟩
  rw [if_neg k1] at HR
  by_cases k4 : k = 4
  · subst k4
    rw [if_pos rfl] at HR
    rw [HR.out]
    unfold Tm.sz at hlen
    rw [if_pos rfl] at hlen
    unfold Tm.At at HAT
    rcases HAT.out with ⟨hl, a, c, he⟩ | ⟨hl, g, off, c, he, hg, hc, hts⟩
    · subst hl
      injection he with he1 he2 he3
      subst he1
      subst he2
      subst he3
      clear HAT HR
      go_enter Try.func42, Try.ntmps42
      go_wp2_with fail
      go_loopg [1, 6, 28] 0 (fun g ov u6 iv wr => iv = .int .i64 0 ∧ ov = .slice ao xs.length co ∧ wr = w.alloc (.cells #[.int .i64 4, .string s, .int .i64 x, .slice a2 0 c2] 24))
      case atStart => exact ⟨rfl, rfl, rfl⟩
      case round =>
        obtain ⟨rfl, rfl, rfl⟩ := hrel
        go_wp2_with fail
        go_ret
        exact ⟨_, _, rfl, by unfold Tms.vars; exact (Row_ow HROW.out (K + 1)).alloc _, HBX.out⟩
    · injection he with he1 he2 he3
      subst he1
      subst he2
      subst he3
      have HTS := Lib.hid hts
      generalize hrr : Tms.vars ls xs = r
      have HRR := Lib.hid hrr
      have HROW2 := Lib.hid (show Row (w.alloc (.cells #[.int .i64 4, .string s, .int .i64 x, .slice (some ⟨g, off, none⟩) ls.length c2] 24)) (ow own w.heap.size (K + 1)) K 2 1 (.slice ao xs.length co) xs.length (irow xs) from (Row_ow HROW.out (K + 1)).alloc _)
      clear hts hrr HAT HR HROW
      go_enter Try.func42, Try.ntmps42
      go_wp2_with fail
      generalize hw2 : w.alloc (.cells #[.int .i64 4, .string s, .int .i64 x, .slice (some ⟨g, off, none⟩) ls.length c2] 24) = w2 at *
      generalize ow own w.heap.size (K + 1) = own1 at *
      clear hw2
      go_loopg [1, 6, 28] ls.length (fun g ov u6 iv wr => VrInv w2 own1 K ls r g ov iv wr)
      case atStart => exact ⟨own1, 0, xs, rfl, by omega, HROW2.out, HRR.out, by show (xs.length : Int) + Tms.sz ls ≤ _; omega, Ext.refl⟩
      case round =>
        obtain ⟨ownr, i, ys, rfl, hi, hrow, hr, hlen2, hEr⟩ := hrel
        have HER := Lib.hid (HBX.out.trans hEr)
        have HEW := Lib.hid hEr
        obtain ⟨ao3, co3, rfl⟩ := hrow.shape
        have HRW := Lib.hid hrow
        clear hEr hrow
        by_cases hlt : i < ls.length
        · have hlt2 : (i : Int) < ls.length := by omega
          rw [List.drop_eq_getElem_cons hlt] at hr hlen2
          unfold Tms.vars at hr
          unfold Tms.sz at hlen2
          have HR2 := Lib.hid hr
          obtain ⟨a3, l3, c3, q0, q1, q2, q3, htv⟩ := elem_ext HTS.out hg hc HER.out hlt
          have hp1 := sz_pos ls[i]
          have hp2 := szs_pos (ls.drop (i + 1))
          have hv1 := vars_len ls[i] ys
          have HI := Lib.hid (IH.out ls[i] (List.getElem_mem hlt) (wr.alloc (.cells #[.int .i64 ls[i].k, .string ls[i].s, .int .i64 ls[i].x, .slice a3 l3 c3] 24)) (ow ownr wr.heap.size (K + 1)) K _ _ ys
            (TmV.ext htv (ext_box (K + 1) _)) ((Row_ow HRW.out (K + 1)).alloc _) (by omega))
          clear hr htv
          generalize Tm.k ls[i] = k1 at *
          generalize Tm.s ls[i] = s1 at *
          generalize Tm.x ls[i] = x1 at *
          generalize Tm.vars ls[i] ys = zs at *
          have hlen3 : (zs.length : Int) + Tms.sz (ls.drop (i + 1)) ≤ 1000000 := by omega
          clear hlen2 hv1 hp1 hp2
          go_wp2_with fail
          refine HI.out.mono ?_
          rintro e w5 ⟨own5, ov5, rfl, hrow5, hE5⟩
          have HRW5 := Lib.hid hrow5
          have HEV := Lib.hid (HEW.out.trans ((ext_box (K + 1) (.cells #[.int .i64 k1, .string s1, .int .i64 x1, .slice a3 l3 c3] 24)).trans hE5))
          clear hE5 hrow5 HI q0 q1 q2 q3 HER HEW HRW
          go_wp2_with fail
          go_roundg (ls.length - (i + 1))
          case measure => omega
          case rel => exact ⟨own5, i + 1, zs, by go_num, by omega, HRW5.out, HR2.out, hlen3, HEV.out⟩
        · obtain rfl : i = ls.length := by omega
          rw [List.drop_length] at hr
          unfold Tms.vars at hr
          subst hr
          go_wp2_with fail
          go_ret
          exact ⟨_, _, rfl, HRW.out, HER.out⟩
  · rw [if_neg k4] at HR
    rw [HR.out]
    have hb1 : (k == 1) = false := by simp [k1]
    have hb4 : (k == 4) = false := by simp [k4]
    clear HAT
    go_enter Try.func42, Try.ntmps42
    go_wp2_with fail
    go_ret
    exact ⟨_, _, rfl, (Row_ow HROW.out (K + 1)).alloc _, HBX.out⟩
end Go.Proofs.Ytamiidklcadkmaa
