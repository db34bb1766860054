/- code.Compile: what it answers, over plain terms. -/
import Derived.Test.YtamiidklcadkmaaMakerBody
import Derived.Test.YtamiidklcadkmaaRenPure
set_option maxRecDepth 20000
set_option linter.unusedVariables false
set_option linter.unusedSimpArgs false
namespace Go.Proofs.Ytamiidklcadkmaa
open Go.RowKit Go.PM
/-- Code. -/
structure Cd where
  p : ByteArray × Int
  vs : Int
  slots : Int
  is : List In
def zeroCd : Cd := ⟨(noStr, 0), 0, 0, []⟩
/-- v is this code. -/
def CdV (w : World) (own : Nat → Nat) (v : Value) (c : Cd) : Prop := ∃ rv, v = .agg #[.string c.p.1, .int .i64 c.p.2, .int .i64 c.vs, .int .i64 c.slots, rv] ∧ IRow w own rv c.is
theorem CdV.below {w w' : World} {own : Nat → Nat} {v : Value} {c : Cd} (h : CdV w own v c) (e : Below w.heap.size w w') : CdV w' own v c := by
  obtain ⟨rv, h1, h2⟩ := h
  exact ⟨rv, h1, h2.ext (Ext_same (M := fun _ => False) own e) fun c h => h.elim⟩
def getsOf : List Tm → Int → List In
  | [], _ => []
  | t :: ts, n => ⟨1, n, t⟩ :: getsOf ts (n + 1)
theorem getsOf_len : ∀ (ts : List Tm) (n : Int), (getsOf ts n).length = ts.length
  | [], _ => rfl
  | t :: ts, n => by rw [getsOf, List.length_cons, List.length_cons, getsOf_len ts]
theorem getsOf_snoc : ∀ (ts : List Tm) (t : Tm) (n : Int), getsOf (ts ++ [t]) n = getsOf ts n ++ [⟨1, n + ts.length, t⟩]
  | [], t, n => by simp [getsOf]
  | u :: ts, t, n => by
    rw [List.cons_append, getsOf, getsOf_snoc ts t (n + 1), getsOf, List.cons_append, List.length_cons]
    congr 4
    omega
/-- The code of heads, a body, and Done. -/
def codeOf (gets : List Tm) (b : Tm) (p : ByteArray × Int) (vs : Int) : Cd :=
  ⟨p, vs, (bd 100 b (In0 3 0) 0).2, getsOf gets 1 ++ place gets.length (bd 100 b (In0 3 0) 0).1 ++ [In0 9 0]⟩
def compOk (h b : Tm) : Bool := Tm.rightN (whole h b) && (Tm.isHead h && !(decide (b.k = 2)))
def clM (h b : Tm) : List (Int × Int) := renM (Tm.vars (whole h b) []) 1
def compM (h b : Tm) : Cd := codeOf (Tm.ren (clM h b) h).ls (Tm.ren (clM h b) b) (Tm.predS h, (Tm.predN h : Int)) ((Tm.vars (whole h b) []).length : Nat)
theorem ren_ls (m : List (Int × Int)) (t : Tm) : (Tm.ren m t).ls = if t.k = 4 then Tms.ren m t.ls else [] := by
  match t with
  | .mk k s x ls =>
    show (Tm.ren m (.mk k s x ls)).ls = if k = 4 then Tms.ren m ls else []
    rw [Tm.ren]
    by_cases k1 : k = 1
    · subst k1; rw [if_pos rfl, if_neg (by decide)]; rfl
    · rw [if_neg k1]
      by_cases k4 : k = 4
      · rw [if_pos k4, if_pos k4]; rfl
      · rw [if_neg k4, if_neg k4]; rfl
theorem ren_len8 (m : List (Int × Int)) (t : Tm) (hp : Tm.pl t) : (Tm.ren m t).ls.length ≤ 8 := by
  rw [ren_ls]
  match t with
  | .mk k s x ls =>
    show (if k = 4 then Tms.ren m ls else []).length ≤ 8
    by_cases k4 : k = 4
    · subst k4
      rw [if_pos rfl, rens_len]
      exact (pl_4.1 hp).2.2.1
    · rw [if_neg k4]; simp
/-! ### callees, right or wrong -/
def TmRetT (w : World) (t : Tm) (e : Ending) (w' : World) : Prop := ∃ v', e = .returned v' ∧ TmV w' (fun _ => True) t v' ∧ Below w.heap.size w w'
theorem Term_any (h b : Tm) (w : World) (C : Nat → Prop) (k1 : Int) (s1 : ByteArray) (x1 : Int) (a1 : Option Addr) (l1 c1 : Nat) (k2 : Int) (s2 : ByteArray) (x2 : Int) (a2 : Option Addr) (l2 c2 : Nat)
    (hh : TmV w C h (.agg #[.int .i64 k1, .string s1, .int .i64 x1, .slice a1 l1 c1])) (hb : TmV w C b (.agg #[.int .i64 k2, .string s2, .int .i64 x2, .slice a2 l2 c2])) :
    Calls Try.prog 24 #[.agg #[.int .i64 k1, .string s1, .int .i64 x1, .slice a1 l1 c1, .int .i64 k2, .string s2, .int .i64 x2, .slice a2 l2 c2]] w (TmRetT w (wholeT h b)) := by
  cases hr1 : Tm.rightN h
  · have e : wholeT h b = whole h b := by unfold wholeT; rw [hr1]; rfl
    rw [e]
    refine (Term_wrong h b w C k1 s1 x1 a1 l1 c1 k2 s2 x2 a2 l2 c2 hh hb (.inl hr1)).mono ?_
    rintro e w' ⟨v', h1, h2, h3⟩
    exact ⟨v', h1, h2, h3⟩
  · cases hr2 : Tm.rightN b
    · have e : wholeT h b = whole h b := by unfold wholeT; rw [hr1, hr2]; rfl
      rw [e]
      refine (Term_wrong h b w C k1 s1 x1 a1 l1 c1 k2 s2 x2 a2 l2 c2 hh hb (.inr hr2)).mono ?_
      rintro e w' ⟨v', h1, h2, h3⟩
      exact ⟨v', h1, h2, h3⟩
    · have e : wholeT h b = whole (Tm.ren [] h) (Tm.ren [] b) := by unfold wholeT; rw [hr1, hr2]; rfl
      rw [e]
      refine (Term_right h b w C k1 s1 x1 a1 l1 c1 k2 s2 x2 a2 l2 c2 hh hb hr1 hr2).mono ?_
      rintro e w' ⟨v', h1, h2, h3⟩
      exact ⟨v', h1, h2.carry (Nat.le_refl _) fun g hg hc => ⟨rfl, trivial⟩, h3⟩
def ren1 (t : Tm) : Tm := Tm.ren (renM (Tm.vars t []) 1) t
theorem Rename1_any (t : Tm) (w : World) (C : Nat → Prop) (v : Value) (hv : TmV w C t v) :
    Calls Try.prog 26 #[v, .int .i64 1] w (TmRet w (bif Tm.rightN t then ren1 t else .mk 0 noStr 0 []) [.int .i64 (bif Tm.rightN t then 1 + (Tm.vars t []).length else 0), .int .i64 (bif Tm.rightN t then 0 else 70)]) := by
  cases hr : Tm.rightN t
  · exact Rename_wrong t w C v 1 hv hr
  · exact Rename_right t w C v 1 hv hr (by decide) (by decide)
theorem elem_mm {w wr : World} {own own' : Nat → Nat} {t : Tm} {k : Int} {s : ByteArray} {x : Int} {a : Option Addr} {l c : Nat} (hv : TmV w (TC own) t (.agg #[.int .i64 k, .string s, .int .i64 x, .slice a l c])) (hE : Ext MM w wr own own') {i : Nat} (hi : i < t.ls.length) :
    ∃ g off a2 l2 c2, a = some ⟨g, off, none⟩ ∧ wr.cell? ⟨g, off + i * 4, none⟩ = some (.int .i64 (targ t i).k) ∧ wr.cell? ⟨g, off + i * 4 + 1, none⟩ = some (.string (targ t i).s) ∧ wr.cell? ⟨g, off + i * 4 + 2, none⟩ = some (.int .i64 (targ t i).x) ∧ wr.cell? ⟨g, off + i * 4 + 3, none⟩ = some (.slice a2 l2 c2) ∧
      TmV wr (TC own') (targ t i) (.agg #[.int .i64 (targ t i).k, .string (targ t i).s, .int .i64 (targ t i).x, .slice a2 l2 c2]) := by
  obtain ⟨g, off, rfl, hg, hc, hargs⟩ := arg_cells (TmV.mm hv hE) (by omega)
  obtain ⟨a2, l2, c2, h⟩ := hargs i hi
  exact ⟨g, off, a2, l2, c2, rfl, h⟩
theorem targ_get {t : Tm} {i : Nat} (hi : i < t.ls.length) : targ t i = t.ls[i] := by
  unfold targ
  rw [List.getD_eq_getElem?_getD, List.getElem?_eq_getElem hi]
  rfl
def CpPost (w : World) (c : Cd) (er : Int) (e : Ending) (w' : World) : Prop := ∃ own' v, e = .returned (.tuple #[v, .int .i64 er]) ∧ CdV w' own' v c ∧ Below w.heap.size w w'
theorem cp_zero {w w4 : World} {own : Nat → Nat} {J b : Nat} (hb : Blk w4 own J b (.cells #[.string noStr, .int .i64 0, .int .i64 0, .int .i64 0, .slice none 0 0] 32 (0, 0))) (hB : Below w.heap.size w w4) (hbw : w.heap.size ≤ b) (o : Obj) (er : Int) :
    CpPost w zeroCd er (.returned (.tuple #[.agg #[.string noStr, .int .i64 0, .int .i64 0, .int .i64 0, .slice none 0 0], .int .i64 er])) ((putCells w4 b 0 [.string noStr, .int .i64 0, .int .i64 0, .int .i64 0, .slice none 0 0]).alloc o) :=
  ⟨fun _ => 0, _, rfl, ⟨_, rfl, ⟨[], Row.nil _ _ _ _ _, rfl⟩⟩, (below_put hB hbw _).alloc (below_put hB hbw _).size _⟩
/-- As CpPost; and its rows are new. -/
def CpPostF (w : World) (c : Cd) (er : Int) (e : Ending) (w' : World) : Prop := ∃ own' v, e = .returned (.tuple #[v, .int .i64 er]) ∧ CdV w' own' v c ∧ Below w.heap.size w w' ∧ ∀ b, b < w.heap.size → own' b ≠ 2
theorem CpPostF.to {w : World} {c : Cd} {er : Int} {e : Ending} {w' : World} (h : CpPostF w c er e w') : CpPost w c er e w' := by
  obtain ⟨own', v, h1, h2, h3, _⟩ := h
  exact ⟨own', v, h1, h2, h3⟩
theorem cp_zeroF {w w4 : World} {own : Nat → Nat} {J b : Nat} (hb : Blk w4 own J b (.cells #[.string noStr, .int .i64 0, .int .i64 0, .int .i64 0, .slice none 0 0] 32 (0, 0))) (hB : Below w.heap.size w w4) (hbw : w.heap.size ≤ b) (o : Obj) (er : Int) :
    CpPostF w zeroCd er (.returned (.tuple #[.agg #[.string noStr, .int .i64 0, .int .i64 0, .int .i64 0, .slice none 0 0], .int .i64 er])) ((putCells w4 b 0 [.string noStr, .int .i64 0, .int .i64 0, .int .i64 0, .slice none 0 0]).alloc o) :=
  ⟨fun _ => 0, _, rfl, ⟨_, rfl, ⟨[], Row.nil _ _ _ _ _, rfl⟩⟩, (below_put hB hbw _).alloc (below_put hB hbw _).size _, fun _ _ => by show (0 : Nat) ≠ 2; decide⟩
def CpInv (w6 : World) (own6 : Nat → Nat) (mb : Nat) (p : ByteArray × Int) (vs : Int) (ls : List Tm) (g : Nat) (iv : Value) (w : World) : Prop :=
  ∃ (own : Nat → Nat) (i : Nat), iv = .int .i64 i ∧ i + g = ls.length ∧ Mk w own mb p vs 0 (getsOf (ls.take i) 1) ∧ Ext MM w6 w own6 own
theorem below_ext {M : Nat → Prop} {n : Nat} {w w5 w8 : World} {own5 own8 : Nat → Nat} (h : Below n w w5) (e : Ext M w5 w8 own5 own8) (hn : n ≤ w5.heap.size) (ho : ∀ b, b < n → ¬ M (own5 b)) : Below n w w8 :=
  h.trans ⟨e.os, e.tape, e.output, e.size, fun b hb => e.same b (by omega) (ho b hb)⟩
theorem cp_end {w w8 : World} {own8 : Nat → Nat} {b : Nat} {p : ByteArray × Int} {vs slots : Int} {is : List In} {c : Cd} {a : Option Addr} {l cc : Nat} (hm : IRow w8 own8 (.slice a l cc) is) (hb : Blk w8 own8 3 b (.cells #[.string noStr, .int .i64 0, .int .i64 0, .int .i64 0, .slice none 0 0] 32 (0, 0))) (hB : Below w.heap.size w w8) (hbw : w.heap.size ≤ b) (hc : c = ⟨p, vs, slots, is⟩) :
    CpPost w c 0 (.returned (.tuple #[.agg #[.string p.1, .int .i64 p.2, .int .i64 vs, .int .i64 slots, .slice a l cc], .int .i64 0])) (putCells w8 b 0 [.string p.1, .int .i64 p.2, .int .i64 vs, .int .i64 slots, .slice a l cc]) := by
  subst hc
  have hE : Ext (fun c => c = 3) w8 (putCells w8 b 0 [.string p.1, .int .i64 p.2, .int .i64 vs, .int .i64 slots, .slice a l cc]) own8 own8 := Ext.putCells (M := fun c => c = 3) (fun _ => hb.col) _ _ _ Ext.refl
  exact ⟨own8, _, rfl, ⟨_, rfl, hm.ext hE fun c h => .inr h⟩, below_put hB hbw _⟩
theorem cp_endF {w w8 : World} {own8 : Nat → Nat} {b : Nat} {p : ByteArray × Int} {vs slots : Int} {is : List In} {c : Cd} {a : Option Addr} {l cc : Nat} (hm : IRow w8 own8 (.slice a l cc) is) (hb : Blk w8 own8 3 b (.cells #[.string noStr, .int .i64 0, .int .i64 0, .int .i64 0, .slice none 0 0] 32 (0, 0))) (hB : Below w.heap.size w w8) (hbw : w.heap.size ≤ b) (hc : c = ⟨p, vs, slots, is⟩) (hf : ∀ b, b < w.heap.size → own8 b ≠ 2) :
    CpPostF w c 0 (.returned (.tuple #[.agg #[.string p.1, .int .i64 p.2, .int .i64 vs, .int .i64 slots, .slice a l cc], .int .i64 0])) (putCells w8 b 0 [.string p.1, .int .i64 p.2, .int .i64 vs, .int .i64 slots, .slice a l cc]) := by
  subst hc
  have hE : Ext (fun c => c = 3) w8 (putCells w8 b 0 [.string p.1, .int .i64 p.2, .int .i64 vs, .int .i64 slots, .slice a l cc]) own8 own8 := Ext.putCells (M := fun c => c = 3) (fun _ => hb.col) _ _ _ Ext.refl
  exact ⟨own8, _, rfl, ⟨_, rfl, hm.ext hE fun c h => .inr h⟩, below_put hB hbw _, hf⟩
set_option maxHeartbeats 4000000 in
theorem Compile_anyF (h b : Tm) (w : World) (C : Nat → Prop) (k1 : Int) (s1 : ByteArray) (x1 : Int) (a1 : Option Addr) (l1 c1 : Nat) (k2 : Int) (s2 : ByteArray) (x2 : Int) (a2 : Option Addr) (l2 c2 : Nat)
    (hh : TmV w C h (.agg #[.int .i64 k1, .string s1, .int .i64 x1, .slice a1 l1 c1])) (hb : TmV w C b (.agg #[.int .i64 k2, .string s2, .int .i64 x2, .slice a2 l2 c2])) :
    Calls Try.prog 8 #[.agg #[.int .i64 k1, .string s1, .int .i64 x1, .slice a1 l1 c1, .int .i64 k2, .string s2, .int .i64 x2, .slice a2 l2 c2]] w (CpPostF w (bif compOk h b then compM h b else zeroCd) (bif compOk h b then 0 else 160)) := by
  obtain ⟨hb0, hb1, hB0, hz0⟩ := two_new w (.cells #[.int .i64 k1, .string s1, .int .i64 x1, .slice a1 l1 c1, .int .i64 k2, .string s2, .int .i64 x2, .slice a2 l2 c2] 26) (.cells #[.string noStr, .int .i64 0, .int .i64 0, .int .i64 0, .slice none 0 0] 32)
  have HT := Lib.hid (fun w2 (hB : Below w.heap.size w w2) => Term_any h b w2 C _ _ _ _ _ _ _ _ _ _ _ _ (TmV.below hh hB) (TmV.below hb hB))
  have HOF := Lib.hid (fun w2 (hB : Below w.heap.size w w2) => Of_any h w2 C _ (TmV.below hh hB))
  have EKB := Lib.hid (TmV_at hb).1
  have H0 := Lib.hid hb0
  have H1 := Lib.hid hb1
  have HB0 := Lib.hid hB0
  have HZ0 := Lib.hid hz0
  have HOK := Lib.hid (show compOk h b = (Tm.rightN (wholeT h b) && (Tm.isHead h && !(decide (b.k = 2)))) by rw [wholeT_right]; rfl)
  have HCM := Lib.hid (fun (hr : Tm.rightN (wholeT h b) = true) => (show compM h b = codeOf (targ (ren1 (wholeT h b)) 0).ls (targ (ren1 (wholeT h b)) 1) (Tm.predS h, (Tm.predN h : Int)) ((Tm.vars (wholeT h b) []).length : Nat) ∧ (ren1 (wholeT h b)).ls.length = 2 ∧ (targ (ren1 (wholeT h b)) 0).ls.length ≤ 8 ∧ Tm.sz (targ (ren1 (wholeT h b)) 1) ≤ 2000 ∧ Tm.dp (targ (ren1 (wholeT h b)) 1) ≤ 100 ∧ (Tm.vars (wholeT h b) []).length ≤ 2000 by
    rw [wholeT_right] at hr
    have e := (wholeT_ren hr (clM h b)).1
    have e2 := (wholeT_ren hr (clM h b)).2
    have e3 : ren1 (wholeT h b) = whole (Tm.ren (clM h b) h) (Tm.ren (clM h b) b) := by unfold ren1; rw [e2]; exact e
    rw [e3, e2]
    obtain ⟨q1, q2, q3, q4⟩ := (rightN_whole h b).1 hr
    have p1 := sz_pos h
    have p2 := dp_pos h
    refine ⟨rfl, rfl, ?_, ?_, ?_, ?_⟩
    · exact ren_len8 (clM h b) h q3
    · show Tm.sz (Tm.ren (clM h b) b) ≤ 2000
      rw [ren_sz]; omega
    · show Tm.dp (Tm.ren (clM h b) b) ≤ 100
      rw [ren_dp]; omega
    · have hv := vars_len (whole h b) []
      have := sz_right hr
      simp at hv
      omega))
  clear hb0 hb1 hB0 hz0 hh hb
  generalize hok : compOk h b = ok at *
  generalize hcm : compM h b = cm at *
  generalize Tm.predS h = ps at *
  generalize Tm.predN h = pn at *
  generalize Tm.isHead h = ih at *
  generalize hbk : b.k = bk at *
  clear hok hcm hbk
  go_enter Try.func8, Try.ntmps8
  go_wp2_with fail
  refine (HT.out _ HB0.out).mono ?_
  rintro e w2 ⟨v2, rfl, hv2, hB2⟩
  have H02 := Lib.hid (Blk_same H0.out hB2)
  have H12 := Lib.hid (Blk_same H1.out hB2)
  have HB2 := Lib.hid (HB0.out.trans (hB2.mono HB0.out.size))
  have hz2 : w.heap.size + 1 + 1 ≤ w2.heap.size := by have := hB2.size; have := HZ0.out; omega
  have HV2 := Lib.hid hv2
  obtain ⟨a3, l3, c3, rfl, -, -, -, -⟩ := TmV_open hv2
  have b0 := H02.out.cell 0
  have b1 := H02.out.cell 1
  have b2 := H02.out.cell 2
  have b3 := H02.out.cell 3
  simp at b0 b1 b2 b3
  have l0 := H02.out.lt
  clear hB2 hv2 H0 H1 HT
  generalize hwt : wholeT h b = wt at *
  clear hwt
  generalize Tm.k wt = k3 at *
  generalize Tm.s wt = s3 at *
  generalize Tm.x wt = x3 at *
  go_wp2_with fail
  refine (HOF.out _ (HB2.out.alloc HB2.out.size (.cells #[.int .i64 k3, .string s3, .int .i64 x3, .slice a3 l3 c3] 24))).mono ?_
  rintro e w3 ⟨rfl, hB3⟩
  have H43 := Lib.hid (Blk_same (Blk.new (own := fun _ => 0) (k := 0) w2 (.cells #[.int .i64 k3, .string s3, .int .i64 x3, .slice a3 l3 c3] 24) rfl) hB3)
  have H03 := Lib.hid (Blk_same (H02.out.alloc (.cells #[.int .i64 k3, .string s3, .int .i64 x3, .slice a3 l3 c3] 24)) hB3)
  have H13 := Lib.hid (Blk_same (H12.out.alloc (.cells #[.int .i64 k3, .string s3, .int .i64 x3, .slice a3 l3 c3] 24)) hB3)
  have HB3 := Lib.hid ((HB2.out.alloc HB2.out.size (.cells #[.int .i64 k3, .string s3, .int .i64 x3, .slice a3 l3 c3] 24)).trans (hB3.mono (by rw [World.size_alloc]; omega)))
  have HV3 := Lib.hid (TmV.below (TmV.below HV2.out ((Below.refl _ _).alloc (Nat.le_refl _) (.cells #[.int .i64 k3, .string s3, .int .i64 x3, .slice a3 l3 c3] 24))) hB3)
  have hz3 : w2.heap.size + 1 ≤ w3.heap.size := by have := hB3.size; rw [World.size_alloc] at this; exact this
  have m0 := H43.out.cell 0
  have m1 := H43.out.cell 1
  have m2 := H43.out.cell 2
  have m3 := H43.out.cell 3
  simp at m0 m1 m2 m3
  have l4 := H43.out.lt
  clear hB3 b0 b1 b2 b3 l0 H02 H12 HOF HB2 HV2
  go_wp2_with fail
  obtain ⟨rt, nx, er, HRN, hcase⟩ : ∃ rt nx er, Hid (Calls Try.prog 26 #[.agg #[.int .i64 k3, .string s3, .int .i64 x3, .slice a3 l3 c3], .int .i64 1] (w3.alloc (.cells #[.string ps, .int .i64 pn] 29)) (TmRet (w3.alloc (.cells #[.string ps, .int .i64 pn] 29)) rt [.int .i64 nx, .int .i64 er])) ∧ ((Tm.rightN wt = true ∧ rt = ren1 wt ∧ nx = 1 + (Tm.vars wt []).length ∧ er = 0) ∨ (Tm.rightN wt = false ∧ er = 70)) := by
    refine ⟨_, _, _, Lib.hid (Rename1_any wt (w3.alloc (.cells #[.string ps, .int .i64 pn] 29)) _ _ (TmV.below HV3.out ((Below.refl _ _).alloc (Nat.le_refl _) _))), ?_⟩
    cases Tm.rightN wt
    · exact .inr ⟨rfl, rfl⟩
    · exact .inl ⟨rfl, rfl, rfl, rfl⟩
  refine HRN.out.mono ?_
  rintro e w4 ⟨v4, rfl, hv4, hB4⟩
  have H04 := Lib.hid (Blk_same (H03.out.alloc (.cells #[.string ps, .int .i64 pn] 29)) hB4)
  have H14 := Lib.hid (Blk_same (H13.out.alloc (.cells #[.string ps, .int .i64 pn] 29)) hB4)
  have H54 := Lib.hid (Blk_same (Blk.new (own := fun _ => 0) (k := 0) w3 (.cells #[.string ps, .int .i64 pn] 29) rfl) hB4)
  have HB4 := Lib.hid ((HB3.out.alloc HB3.out.size (.cells #[.string ps, .int .i64 pn] 29)).trans (hB4.mono (by rw [World.size_alloc]; omega)))
  have hz4 : w3.heap.size + 1 ≤ w4.heap.size := by have := hB4.size; rw [World.size_alloc] at this; exact this
  have HV4 := Lib.hid hv4
  obtain ⟨a4, l4', c4, rfl, -, -, -, -⟩ := TmV_open hv4
  have b4 := H04.out.cell 4
  simp at b4
  have l0 := H04.out.lt
  have f0 := H14.out.free 0
  have f1 := H14.out.free 1
  have f2 := H14.out.free 2
  have f3 := H14.out.free 3
  have f4 := H14.out.free 4
  have l1' := H14.out.lt
  have d0 : w4.cell? ⟨w.heap.size + 1, 0, none⟩ = some (.string noStr) := H14.out.cell 0
  have d1 : w4.cell? ⟨w.heap.size + 1, 1, none⟩ = some (.int .i64 0) := H14.out.cell 1
  have d2 : w4.cell? ⟨w.heap.size + 1, 2, none⟩ = some (.int .i64 0) := H14.out.cell 2
  have d3 : w4.cell? ⟨w.heap.size + 1, 3, none⟩ = some (.int .i64 0) := H14.out.cell 3
  have d4 : w4.cell? ⟨w.heap.size + 1, 4, none⟩ = some (.slice none 0 0) := H14.out.cell 4
  have p0 := H54.out.cell 0
  have p1 := H54.out.cell 1
  simp at p0 p1
  have l5 := H54.out.lt
  clear hB4 m0 m1 m2 m3 l4 H03 H13 H43 HB3 HV3 hv4
  generalize Tm.k rt = k4 at *
  generalize Tm.s rt = s4 at *
  generalize Tm.x rt = x4 at *
  clear HRN
  rcases hcase with ⟨hrt, hrt2, hnx, rfl⟩ | ⟨hrt, rfl⟩
  · rw [hrt] at HOK
    rw [Bool.true_and] at HOK
    obtain ⟨hcm, hl2, hl8, hszb, hdpb, hvl⟩ := HCM.out hrt
    rw [← hrt2] at hcm hl2 hl8 hszb hdpb
    have HCMM := Lib.hid hcm
    clear HCM hrt hrt2 hcm
    cases ih with
    | false =>
      have ho : ok = false := by rw [HOK.out]; rfl
      subst ho
      clear HOK
      go_wp2_with fail
      have hend := (Blk.putCells (cs := [.string noStr, .int .i64 0, .int .i64 0, .int .i64 0, .slice none 0 0]) (vs := [.string noStr, .int .i64 0, .int .i64 0, .int .i64 0, .slice none 0 0]) H14.out rfl).alloc (.cells #[.int .i64 k4, .string s4, .int .i64 x4, .slice a4 l4' c4] 24)
      have hp := cp_zeroF H14.out HB4.out (by omega) (.cells #[.int .i64 k4, .string s4, .int .i64 x4, .slice a4 l4' c4] 24) 160
      simp only [putCells, Nat.reduceAdd] at hend hp
      ((try simp only [Exit.inBlock, Exit.then]); refine bodyPost_ret (results_ct rfl _ _ ((w.heap.size + 1)) 32 _ _ _ rfl (hend.at_) Try.underlying32 rfl (by kernel_rfl)) rfl ?_)
      exact hp
    | true =>
      by_cases hk2 : k2 = 2
      · have ho : ok = false := by rw [HOK.out, ← EKB.out, hk2]; rfl
        subst ho
        subst hk2
        clear HOK
        go_wp2_with fail
        have hend := (Blk.putCells (cs := [.string noStr, .int .i64 0, .int .i64 0, .int .i64 0, .slice none 0 0]) (vs := [.string noStr, .int .i64 0, .int .i64 0, .int .i64 0, .slice none 0 0]) H14.out rfl).alloc (.cells #[.int .i64 k4, .string s4, .int .i64 x4, .slice a4 l4' c4] 24)
        have hp := cp_zeroF H14.out HB4.out (by omega) (.cells #[.int .i64 k4, .string s4, .int .i64 x4, .slice a4 l4' c4] 24) 160
        simp only [putCells, Nat.reduceAdd] at hend hp
        ((try simp only [Exit.inBlock, Exit.then]); refine bodyPost_ret (results_ct rfl _ _ ((w.heap.size + 1)) 32 _ _ _ rfl (hend.at_) Try.underlying32 rfl (by kernel_rfl)) rfl ?_)
        exact hp
      · have ho : ok = true := by rw [HOK.out, ← EKB.out, decide_eq_false hk2]; rfl
        subst ho
        have hbk : (k2 == 2) = false := by simp [hk2]
        clear HOK hk2
        generalize (Tm.vars wt []).length = L at *
        have hsub : (1 : Int) + (L : Int) - 1 = L := by omega
        subst hnx
        have hl4 : l4' = 2 := by rw [(at_len (TmV_at HV4.out).2.2.2.2.2.2).1]; exact hl2
        subst hl4
        obtain ⟨g, off, rfl, hg, hgc, hargs⟩ := arg_cells HV4.out (by omega)
        obtain ⟨a5, l5', c5, x0, x1, x2, x3, ht0⟩ := hargs 0 (by omega)
        simp only [Nat.zero_mul, Nat.add_zero] at x0 x1 x2 x3
        obtain ⟨a6, l6, c6, y0, y1, y2, y3, ht1⟩ := hargs 1 (by omega)
        simp only [Nat.one_mul] at y0 y1 y2 y3
        have hg1 : g < w4.heap.size + 1 := by omega
        have hl5 := (at_len (TmV_at ht0).2.2.2.2.2.2).1
        subst hl5
        clear hargs hl2
        generalize targ rt 0 = t0 at *
        generalize targ rt 1 = t1 at *
        generalize Tm.k t0 = k5 at *
        generalize Tm.s t0 = s5 at *
        generalize Tm.x t0 = x5 at *
        generalize Tm.k t1 = k6 at *
        generalize Tm.s t1 = s6 at *
        generalize Tm.x t1 = x6 at *
        have HGC : Hid (w3.heap.size + 1 ≤ g) := Lib.hid (by have := hgc; rw [World.size_alloc] at this; exact this)
        go_wp2_with fail
        have hmb : Blk ((w4.alloc (.cells #[.int .i64 k4, .string s4, .int .i64 x4, .slice (some ⟨g, off, none⟩) 2 c4] 24)).alloc (.cells #[.string ps, .int .i64 pn, .int .i64 L, .int .i64 0, .slice none 0 0] 70)) (fun b => if b = w4.heap.size + 1 then 1 else if b = w.heap.size + 1 then 3 else 0) 1 (w4.heap.size + 1) (.cells #[.string ps, .int .i64 pn, .int .i64 L, .int .i64 0, .slice none 0 0] 70 (0, 0)) := by
          have := Blk.new (own := (fun b => if b = w4.heap.size + 1 then 1 else if b = w.heap.size + 1 then 3 else 0)) (k := 1) (w4.alloc (.cells #[.int .i64 k4, .string s4, .int .i64 x4, .slice (some ⟨g, off, none⟩) 2 c4] 24)) (.cells #[.string ps, .int .i64 pn, .int .i64 L, .int .i64 0, .slice none 0 0] 70) (by rw [World.size_alloc]; simp)
          rwa [World.size_alloc] at this
        have hs7 : Blk ((w4.alloc (.cells #[.int .i64 k4, .string s4, .int .i64 x4, .slice (some ⟨g, off, none⟩) 2 c4] 24)).alloc (.cells #[.string ps, .int .i64 pn, .int .i64 L, .int .i64 0, .slice none 0 0] 70)) (fun b => if b = w4.heap.size + 1 then 1 else if b = w.heap.size + 1 then 3 else 0) 0 w4.heap.size _ := ⟨((Blk.new (own := fun _ => 0) (k := 0) w4 (.cells #[.int .i64 k4, .string s4, .int .i64 x4, .slice (some ⟨g, off, none⟩) 2 c4] 24) rfl).alloc (.cells #[.string ps, .int .i64 pn, .int .i64 L, .int .i64 0, .slice none 0 0] 70)).at_, by show (if w4.heap.size = w4.heap.size + 1 then 1 else if w4.heap.size = w.heap.size + 1 then 3 else 0) = 0; rw [if_neg (by omega), if_neg (by omega)]⟩
        have hs2 : Blk ((w4.alloc (.cells #[.int .i64 k4, .string s4, .int .i64 x4, .slice (some ⟨g, off, none⟩) 2 c4] 24)).alloc (.cells #[.string ps, .int .i64 pn, .int .i64 L, .int .i64 0, .slice none 0 0] 70)) (fun b => if b = w4.heap.size + 1 then 1 else if b = w.heap.size + 1 then 3 else 0) 3 (w.heap.size + 1) _ := ⟨((H14.out.alloc (.cells #[.int .i64 k4, .string s4, .int .i64 x4, .slice (some ⟨g, off, none⟩) 2 c4] 24)).alloc (.cells #[.string ps, .int .i64 pn, .int .i64 L, .int .i64 0, .slice none 0 0] 70)).at_, by show (if w.heap.size + 1 = w4.heap.size + 1 then 1 else if w.heap.size + 1 = w.heap.size + 1 then 3 else 0) = 3; rw [if_neg (by omega), if_pos rfl]⟩
        have hB5 : Below w.heap.size w ((w4.alloc (.cells #[.int .i64 k4, .string s4, .int .i64 x4, .slice (some ⟨g, off, none⟩) 2 c4] 24)).alloc (.cells #[.string ps, .int .i64 pn, .int .i64 L, .int .i64 0, .slice none 0 0] 70)) := (HB4.out.alloc HB4.out.size _).alloc (by rw [World.size_alloc]; have := HB4.out.size; omega) _
        have hTC : ∀ u, u < w4.heap.size → w3.heap.size + 1 ≤ u → ((w4.alloc (.cells #[.int .i64 k4, .string s4, .int .i64 x4, .slice (some ⟨g, off, none⟩) 2 c4] 24)).alloc (.cells #[.string ps, .int .i64 pn, .int .i64 L, .int .i64 0, .slice none 0 0] 70)).heap[u]? = w4.heap[u]? ∧ TC (fun b => if b = w4.heap.size + 1 then 1 else if b = w.heap.size + 1 then 3 else 0) u := fun u hu hc => ⟨by rw [heap_alloc_old _ _ (by rw [World.size_alloc]; omega), heap_alloc_old _ _ hu], by
          show (if u = w4.heap.size + 1 then 1 else if u = w.heap.size + 1 then 3 else 0) ≠ 1 ∧ (if u = w4.heap.size + 1 then 1 else if u = w.heap.size + 1 then 3 else 0) ≠ 2 ∧ (if u = w4.heap.size + 1 then 1 else if u = w.heap.size + 1 then 3 else 0) ≠ 3
          rw [if_neg (by omega), if_neg (by omega)]; decide⟩
        have ht05 := ht0.carry (w' := ((w4.alloc (.cells #[.int .i64 k4, .string s4, .int .i64 x4, .slice (some ⟨g, off, none⟩) 2 c4] 24)).alloc (.cells #[.string ps, .int .i64 pn, .int .i64 L, .int .i64 0, .slice none 0 0] 70))) (C' := TC (fun b => if b = w4.heap.size + 1 then 1 else if b = w.heap.size + 1 then 3 else 0)) (by rw [World.size_alloc, World.size_alloc]; omega) fun u hu hc => hTC u hu (by rw [World.size_alloc] at hc; exact hc)
        have ht15 := ht1.carry (w' := ((w4.alloc (.cells #[.int .i64 k4, .string s4, .int .i64 x4, .slice (some ⟨g, off, none⟩) 2 c4] 24)).alloc (.cells #[.string ps, .int .i64 pn, .int .i64 L, .int .i64 0, .slice none 0 0] 70))) (C' := TC (fun b => if b = w4.heap.size + 1 then 1 else if b = w.heap.size + 1 then 3 else 0)) (by rw [World.size_alloc, World.size_alloc]; omega) fun u hu hc => hTC u hu (by rw [World.size_alloc] at hc; exact hc)
        have hgT := (hTC g hg HGC.out).2
        have hcell : ∀ o, ((w4.alloc (.cells #[.int .i64 k4, .string s4, .int .i64 x4, .slice (some ⟨g, off, none⟩) 2 c4] 24)).alloc (.cells #[.string ps, .int .i64 pn, .int .i64 L, .int .i64 0, .slice none 0 0] 70)).cell? ⟨g, o, none⟩ = w4.cell? ⟨g, o, none⟩ := fun o => by unfold World.cell?; rw [(hTC g hg HGC.out).1]
        have hgs : g < ((w4.alloc (.cells #[.int .i64 k4, .string s4, .int .i64 x4, .slice (some ⟨g, off, none⟩) 2 c4] 24)).alloc (.cells #[.string ps, .int .i64 pn, .int .i64 L, .int .i64 0, .slice none 0 0] 70)).heap.size := by rw [World.size_alloc, World.size_alloc]; omega
        have hlow : ∀ b, b < w.heap.size → ¬ MM ((fun b => if b = w4.heap.size + 1 then 1 else if b = w.heap.size + 1 then 3 else 0) b) := fun b hb => by
          show ¬ MM (if b = w4.heap.size + 1 then 1 else if b = w.heap.size + 1 then 3 else 0)
          rw [if_neg (by omega), if_neg (by omega)]
          unfold MM; omega
        have hF : FactsAt (fun b => if b = w4.heap.size + 1 then 1 else if b = w.heap.size + 1 then 3 else 0) [(⟨w4.heap.size, 3, none⟩, .slice (some ⟨g, off, none⟩) 2 c4), (⟨g, off + 4, none⟩, .int .i64 k6), (⟨g, off + 4 + 1, none⟩, .string s6), (⟨g, off + 4 + 2, none⟩, .int .i64 x6), (⟨g, off + 4 + 3, none⟩, .slice a6 l6 c6)] ((w4.alloc (.cells #[.int .i64 k4, .string s4, .int .i64 x4, .slice (some ⟨g, off, none⟩) 2 c4] 24)).alloc (.cells #[.string ps, .int .i64 pn, .int .i64 L, .int .i64 0, .slice none 0 0] 70)) :=
          ⟨Blk.fact hs7 (by decide) (hs7.cell 3), ⟨by rw [hcell]; exact y0, hgs, hgT, rfl⟩, ⟨by rw [hcell]; exact y1, hgs, hgT, rfl⟩, ⟨by rw [hcell]; exact y2, hgs, hgT, rfl⟩, ⟨by rw [hcell]; exact y3, hgs, hgT, rfl⟩, trivial⟩
        have hm5 : Mk ((w4.alloc (.cells #[.int .i64 k4, .string s4, .int .i64 x4, .slice (some ⟨g, off, none⟩) 2 c4] 24)).alloc (.cells #[.string ps, .int .i64 pn, .int .i64 L, .int .i64 0, .slice none 0 0] 70)) (fun b => if b = w4.heap.size + 1 then 1 else if b = w.heap.size + 1 then 3 else 0) (w4.heap.size + 1) (ps, (pn : Int)) L 0 (getsOf (t0.ls.take 0) 1) := ⟨_, hmb, [], Row.nil _ _ _ _ _, rfl⟩
        have HS2 := Lib.hid hs2
        have HB5 := Lib.hid hB5
        have HT0 := Lib.hid ht05
        have HT1 := Lib.hid ht15
        have HLOW := Lib.hid hlow
        have HF := Lib.hid hF
        have HM5 := Lib.hid hm5
        have hz5 : w.heap.size ≤ ((w4.alloc (.cells #[.int .i64 k4, .string s4, .int .i64 x4, .slice (some ⟨g, off, none⟩) 2 c4] 24)).alloc (.cells #[.string ps, .int .i64 pn, .int .i64 L, .int .i64 0, .slice none 0 0] 70)).heap.size := by have := hB5.size; exact this
        clear hmb hs7 hs2 hB5 hTC ht05 ht15 hgT hcell hgs hlow hF hm5 ht0 ht1 x0 x1 x2 x3 y0 y1 y2 y3 hg1 hg hgc HGC f0 f1 f2 f3 f4 d0 d1 d2 d3 d4 p0 p1 l1' l5 b4 l0 H04 H14 H54 HB4 HV4
        generalize ((w4.alloc (.cells #[.int .i64 k4, .string s4, .int .i64 x4, .slice (some ⟨g, off, none⟩) 2 c4] 24)).alloc (.cells #[.string ps, .int .i64 pn, .int .i64 L, .int .i64 0, .slice none 0 0] 70)) = w5 at *
        generalize (fun b => if b = w4.heap.size + 1 then 1 else if b = w.heap.size + 1 then 3 else 0) = own5 at *
        generalize w4.heap.size + 1 = mb at *
        generalize w4.heap.size = s7 at *
        go_loopg [52] t0.ls.length (fun g iv wr => CpInv w5 own5 mb (ps, (pn : Int)) L t0.ls g iv wr)
        case atStart => exact ⟨own5, 0, rfl, by omega, HM5.out, Ext.refl⟩
        case round =>
          obtain ⟨ownr, i, rfl, hi, hmr, hEr⟩ := hrel
          have HMR := Lib.hid hmr
          have HER := Lib.hid hEr
          by_cases hlt : i < t0.ls.length
          · have hlt2 : (i : Int) < t0.ls.length := by omega
            obtain ⟨g2, off2, a7, l7, c7, rfl, q0, q1, q2, q3, htv⟩ := elem_mm HT0.out hEr hlt
            have HN := Lib.hid (ext_box (M := MM) (w := wr) (own := ownr) 0 (.cells #[.int .i64 (targ t0 i).k, .string (targ t0 i).s, .int .i64 (targ t0 i).x, .slice a7 l7 c7] 24))
            have HA := Lib.hid (add_any (HMR.out.ext (ext_box 0 (.cells #[.int .i64 (targ t0 i).k, .string (targ t0 i).s, .int .i64 (targ t0 i).x, .slice a7 l7 c7] 24))) ⟨1, (i : Int) + 1, targ t0 i⟩ _ (TmV.mm htv HN.out) _ _ _ a7 l7 c7 rfl (by rw [getsOf_len, List.length_take]; omega))
            have HTK := Lib.hid (show getsOf (t0.ls.take (i + 1)) 1 = getsOf (t0.ls.take i) 1 ++ [⟨1, (i : Int) + 1, targ t0 i⟩] by
              rw [List.take_succ_eq_append_getElem hlt, getsOf_snoc, List.length_take, targ_get hlt, show min i t0.ls.length = i by omega, show (1 : Int) + (i : Int) = (i : Int) + 1 by omega])
            clear hmr hEr htv
            generalize targ t0 i = u at *
            generalize Tm.k u = k7 at *
            generalize Tm.s u = s7' at *
            generalize Tm.x u = x7 at *
            go_wp2_with fail
            refine HA.out.mono ?_
            rintro e w6 ⟨own6, rfl, hm6, hE6⟩
            have HM6 := Lib.hid hm6
            have HE6 := Lib.hid (HER.out.trans (HN.out.trans hE6))
            clear hm6 hE6 HA HN HMR HER q0 q1 q2 q3
            go_wp2_with fail
            go_roundg (t0.ls.length - (i + 1))
            case measure => omega
            case rel => exact ⟨own6, i + 1, by go_num, by omega, by rw [HTK.out]; exact HM6.out, HE6.out⟩
          · obtain rfl : i = t0.ls.length := by omega
            rw [List.take_length] at hmr
            have HMR := Lib.hid hmr
            have HFR := Lib.hid (FactsAt.ext hEr HF.out)
            obtain ⟨⟨z0, zl0, -, -⟩, ⟨z1, zl1, -, -⟩, ⟨z2, -, -, -⟩, ⟨z3, -, -, -⟩, ⟨z4, -, -, -⟩, -⟩ := HFR.out
            have HT1R := Lib.hid (TmV.mm HT1.out hEr)
            have HBD := Lib.hid (body_all 100 t1 wr ownr mb (ps, (pn : Int)) L 0 (getsOf t0.ls 1) 3 0 k6 s6 x6 a6 l6 c6 HMR.out HT1R.out (by decide) (by decide) (by unfold rng64; decide) (by unfold rng64; decide) hdpb (by rw [getsOf_len]; omega) (by decide) (by omega))
            have hbl := bd_le 100 t1 (In0 3 0) 0
            rw [getsOf_len] at HBD
            have hpl := place_len (bd 100 t1 (In0 3 0) 0).1 t0.ls.length
            have hgl := getsOf_len t0.ls 1
            have HCX := Lib.hid (show cm = ⟨(ps, (pn : Int)), L, (bd 100 t1 (In0 3 0) 0).2, getsOf t0.ls 1 ++ place t0.ls.length (bd 100 t1 (In0 3 0) 0).1 ++ [In0 9 0]⟩ from HCMM.out)
            generalize (bd 100 t1 (In0 3 0) 0).2 = sl at *
            generalize place t0.ls.length (bd 100 t1 (In0 3 0) 0).1 = pc at *
            generalize (bd 100 t1 (In0 3 0) 0).1.length = pcl at *
            generalize getsOf t0.ls 1 = gs at *
            clear hmr hEr HF HCMM HFR
            go_wp2_with fail
            refine HBD.out.mono ?_
            rintro e w7 ⟨own7, rfl, hm7, hE7⟩
            have HM7 := Lib.hid hm7
            have HE7 := Lib.hid (HER.out.trans hE7)
            have hlen7 : (gs ++ pc).length ≤ 1000000000 := by rw [List.length_append]; omega
            clear hm7 hE7 HBD HMR HER z0 z1 z2 z3 z4 zl0 zl1
            go_wp2_with fail
            refine (add0 HM7.out 9 0 hlen7).mono ?_
            rintro e w8 ⟨own8, rfl, hm8, hE8⟩
            have hE58 := HE7.out.trans hE8
            have hs2 := HS2.out.ext hE58 (by unfold MM; omega)
            obtain ⟨rv, hb8, hr8⟩ := hm8
            obtain ⟨ra, rc, rfl⟩ := hr8.shape
            have hB8 := below_ext HB5.out hE58 hz5 HLOW.out
            have HR8 := Lib.hid hr8
            have HS8 := Lib.hid hs2
            have HB8 := Lib.hid hB8
            have HFR := Lib.hid (show ∀ b, b < w.heap.size → own8 b ≠ 2 from fun b hb h => HLOW.out b hb (by rw [← hE58.col b (by omega), h]; exact .inr rfl))
            have c0 : w8.cell? ⟨mb, 0, none⟩ = some (.string ps) := hb8.cell 0
            have c1 : w8.cell? ⟨mb, 1, none⟩ = some (.int .i64 pn) := hb8.cell 1
            have c2 : w8.cell? ⟨mb, 2, none⟩ = some (.int .i64 L) := hb8.cell 2
            have c3 : w8.cell? ⟨mb, 3, none⟩ = some (.int .i64 sl) := hb8.cell 3
            have c4' : w8.cell? ⟨mb, 4, none⟩ = some (.slice ra (gs ++ pc ++ [In0 9 0]).length rc) := hb8.cell 4
            have hmbl := hb8.lt
            have f0 := hs2.free 0
            have f1 := hs2.free 1
            have f2 := hs2.free 2
            have f3 := hs2.free 3
            have f4 := hs2.free 4
            have l1' := hs2.lt
            have d0 : w8.cell? ⟨w.heap.size + 1, 0, none⟩ = some (.string noStr) := hs2.cell 0
            have d1 : w8.cell? ⟨w.heap.size + 1, 1, none⟩ = some (.int .i64 0) := hs2.cell 1
            have d2 : w8.cell? ⟨w.heap.size + 1, 2, none⟩ = some (.int .i64 0) := hs2.cell 2
            have d3 : w8.cell? ⟨w.heap.size + 1, 3, none⟩ = some (.int .i64 0) := hs2.cell 3
            have d4 : w8.cell? ⟨w.heap.size + 1, 4, none⟩ = some (.slice none 0 0) := hs2.cell 4
            clear hE8 hE58 hs2 hb8 hr8 hB8 HM7 HE7
            generalize hrl : (gs ++ pc ++ [In0 9 0]).length = rl at *
            clear hrl
            go_wp2_with fail
            have hend := Blk.putCells (cs := [.string noStr, .int .i64 0, .int .i64 0, .int .i64 0, .slice none 0 0]) (vs := [.string ps, .int .i64 pn, .int .i64 L, .int .i64 sl, .slice ra rl rc]) HS8.out rfl
            have hp := cp_endF (w := w) (p := (ps, (pn : Int))) (vs := L) (slots := sl) HR8.out HS8.out HB8.out (by omega) HCX.out HFR.out
            simp only [putCells, Nat.reduceAdd] at hend hp
            ((try simp only [Exit.inBlock, Exit.then]); refine bodyPost_ret (results_ct rfl _ _ ((w.heap.size + 1)) 32 _ _ _ rfl (hend.at_) Try.underlying32 rfl (by kernel_rfl)) rfl ?_)
            exact hp
  · have ho : ok = false := by rw [HOK.out, hrt]; rfl
    subst ho
    clear hrt HCM HOK
    go_wp2_with fail
    have hend := (Blk.putCells (cs := [.string noStr, .int .i64 0, .int .i64 0, .int .i64 0, .slice none 0 0]) (vs := [.string noStr, .int .i64 0, .int .i64 0, .int .i64 0, .slice none 0 0]) H14.out rfl).alloc (.cells #[.int .i64 k4, .string s4, .int .i64 x4, .slice a4 l4' c4] 24)
    have hp := cp_zeroF H14.out HB4.out (by omega) (.cells #[.int .i64 k4, .string s4, .int .i64 x4, .slice a4 l4' c4] 24) 160
    simp only [putCells, Nat.reduceAdd] at hend hp
    ((try simp only [Exit.inBlock, Exit.then]); refine bodyPost_ret (results_ct rfl _ _ ((w.heap.size + 1)) 32 _ _ _ rfl (hend.at_) Try.underlying32 rfl (by kernel_rfl)) rfl ?_)
    exact hp
theorem Compile_any (h b : Tm) (w : World) (C : Nat → Prop) (k1 : Int) (s1 : ByteArray) (x1 : Int) (a1 : Option Addr) (l1 c1 : Nat) (k2 : Int) (s2 : ByteArray) (x2 : Int) (a2 : Option Addr) (l2 c2 : Nat)
    (hh : TmV w C h (.agg #[.int .i64 k1, .string s1, .int .i64 x1, .slice a1 l1 c1])) (hb : TmV w C b (.agg #[.int .i64 k2, .string s2, .int .i64 x2, .slice a2 l2 c2])) :
    Calls Try.prog 8 #[.agg #[.int .i64 k1, .string s1, .int .i64 x1, .slice a1 l1 c1, .int .i64 k2, .string s2, .int .i64 x2, .slice a2 l2 c2]] w (CpPost w (bif compOk h b then compM h b else zeroCd) (bif compOk h b then 0 else 160)) :=
  (Compile_anyF h b w C k1 s1 x1 a1 l1 c1 k2 s2 x2 a2 l2 c2 hh hb).mono fun _ _ h => h.to
end Go.Proofs.Ytamiidklcadkmaa
