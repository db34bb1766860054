/- Plain facts for CodeCounts: how long a body's code is, from its parts. -/
import Derived.Test.YtamiidklcadkmaaGoalPure
set_option maxRecDepth 20000
set_option linter.unusedVariables false
set_option linter.unusedSimpArgs false
namespace Go.Proofs.Ytamiidklcadkmaa
open Go.RowKit Go.PM
theorem bodyLen_any (t : Tm) (n : Nat) (cut : In) (free : Int) (h : Tm.dp t ≤ 101) (hn : Tm.dp t ≤ n) : (bd n t cut free).1.length = bodyLen t := by
  have h1 := bd_len 101 t [] cut free n cut free h hn
  have h2 := bd_len 101 t [] cut free 101 (In0 3 0) 0 h h
  rw [← h1, h2]
  rfl
def sH : ByteArray := ⟨#[104]⟩
def tTrue : Tm := .mk 3 sTrue 0 []
def bodiesOf (a b c : Tm) : List Tm := [.mk 4 sComma 0 [a, b], .mk 4 sSemi 0 [.mk 4 sComma 0 [tTrue, a], b], .mk 4 sSemi 0 [.mk 4 sArrow 0 [a, b], c], .mk 4 sNot 0 [a]]
def wantsOf (n0 n1 n2 : Int) : List Int := [n0 + n1, n0 + n1 + 2, n0 + n1 + n2 + 5, n0 + 5]
theorem dp_mk2 (s : ByteArray) (x : Int) (a b : Tm) : Tm.dp (.mk 4 s x [a, b]) = 1 + max (Tm.dp a) (Tm.dp b) := by
  rw [show Tm.dp (.mk 4 s x [a, b]) = 1 + Tms.dp [a, b] by unfold Tm.dp; rw [if_pos rfl], dps_cons, dps_cons, show Tms.dp [] = 0 by unfold Tms.dp; rfl]
  have := dp_pos b
  omega
theorem dp_mk1 (s : ByteArray) (x : Int) (a : Tm) : Tm.dp (.mk 4 s x [a]) = 1 + Tm.dp a := by
  rw [show Tm.dp (.mk 4 s x [a]) = 1 + Tms.dp [a] by unfold Tm.dp; rw [if_pos rfl], dps_cons, show Tms.dp [] = 0 by unfold Tms.dp; rfl]
  have := dp_pos a
  omega
theorem len_comma (a b : Tm) (n : Nat) (cut : In) (free : Int) (h : Tm.dp (.mk 4 sComma 0 [a, b]) ≤ 100) (hn : Tm.dp (.mk 4 sComma 0 [a, b]) ≤ ((n + 1 : Nat) : Int)) : (bd (n + 1) (.mk 4 sComma 0 [a, b]) cut free).1.length = bodyLen a + bodyLen b := by
  rw [dp_mk2] at h hn
  rw [bd, if_neg (by rw [show Tm.atom (.mk 4 sComma 0 [a, b]) [sTrue] = false from rfl]; decide), if_neg (by rw [show Tm.atom (.mk 4 sComma 0 [a, b]) [sFail, sFalse] = false from rfl]; decide), if_neg (by rw [show Tm.atom (.mk 4 sComma 0 [a, b]) [sBang] = false from rfl]; decide), if_pos (by rfl)]
  simp only [List.length_append]
  rw [bodyLen_any _ _ _ _ (by show Tm.dp a ≤ 101; omega) (by show Tm.dp a ≤ n; omega), bodyLen_any _ _ _ _ (by show Tm.dp b ≤ 101; omega) (by show Tm.dp b ≤ n; omega)]
  rfl
theorem len_true : bodyLen tTrue = 0 := by decide
theorem dp_true : Tm.dp tTrue = 1 := by unfold tTrue Tm.dp; rw [if_neg (by decide)]
theorem bodies_len (a b c : Tm) : ∀ (i : Nat) (hi : i < (bodiesOf a b c).length) (hw : i < (wantsOf (bodyLen a) (bodyLen b) (bodyLen c)).length), Tm.dp (bodiesOf a b c)[i] ≤ 100 → (bodyLen (bodiesOf a b c)[i] : Int) = (wantsOf (bodyLen a) (bodyLen b) (bodyLen c))[i]
  | 0, _, _, hd => by
    have hd : Tm.dp (.mk 4 sComma 0 [a, b]) ≤ 100 := hd
    show (((bd (100 + 1) (.mk 4 sComma 0 [a, b]) (In0 3 0) 0).1.length : Nat) : Int) = (bodyLen a : Int) + bodyLen b
    rw [len_comma a b 100 _ _ hd (by omega)]
    omega
  | 1, _, _, hd => by
    have hd : Tm.dp (.mk 4 sSemi 0 [.mk 4 sComma 0 [tTrue, a], b]) ≤ 100 := hd
    show (((bd (100 + 1) (.mk 4 sSemi 0 [.mk 4 sComma 0 [tTrue, a], b]) (In0 3 0) 0).1.length : Nat) : Int) = (bodyLen a : Int) + bodyLen b + 2
    have hd0 := hd
    rw [dp_mk2] at hd
    have hdc : Tm.dp (.mk 4 sComma 0 [tTrue, a]) ≤ 99 := by omega
    rw [bd, if_neg (by rw [show Tm.atom (.mk 4 sSemi 0 [.mk 4 sComma 0 [tTrue, a], b]) [sTrue] = false from rfl]; decide), if_neg (by rw [show Tm.atom (.mk 4 sSemi 0 [.mk 4 sComma 0 [tTrue, a], b]) [sFail, sFalse] = false from rfl]; decide), if_neg (by rw [show Tm.atom (.mk 4 sSemi 0 [.mk 4 sComma 0 [tTrue, a], b]) [sBang] = false from rfl]; decide), if_neg (by rw [show Tm.two (.mk 4 sSemi 0 [.mk 4 sComma 0 [tTrue, a], b]) sComma = false from rfl]; decide), if_neg (by rw [show Tm.ite (.mk 4 sSemi 0 [.mk 4 sComma 0 [tTrue, a], b]) = false from rfl]; decide), if_neg (by rw [show Tm.two (.mk 4 sSemi 0 [.mk 4 sComma 0 [tTrue, a], b]) sArrow = false from rfl]; decide), if_pos (by rfl)]
    simp only [List.length_append, List.length_cons, List.length_nil]
    rw [show targ (.mk 4 sSemi 0 [.mk 4 sComma 0 [tTrue, a], b]) 0 = .mk 4 sComma 0 [tTrue, a] from rfl, show targ (.mk 4 sSemi 0 [.mk 4 sComma 0 [tTrue, a], b]) 1 = b from rfl]
    rw [bodyLen_any _ _ _ _ (by omega : Tm.dp b ≤ 101) (by omega), show (bd 100 (.mk 4 sComma 0 [tTrue, a]) (In0 3 0) 0).1.length = bodyLen tTrue + bodyLen a from len_comma tTrue a 99 _ _ (by omega) (by omega), len_true]
    omega
  | 2, _, _, hd => by
    have hd : Tm.dp (.mk 4 sSemi 0 [.mk 4 sArrow 0 [a, b], c]) ≤ 100 := hd
    show (((bd (100 + 1) (.mk 4 sSemi 0 [.mk 4 sArrow 0 [a, b], c]) (In0 3 0) 0).1.length : Nat) : Int) = (bodyLen a : Int) + bodyLen b + bodyLen c + 5
    rw [dp_mk2, dp_mk2] at hd
    rw [bd, if_neg (by rw [show Tm.atom (.mk 4 sSemi 0 [.mk 4 sArrow 0 [a, b], c]) [sTrue] = false from rfl]; decide), if_neg (by rw [show Tm.atom (.mk 4 sSemi 0 [.mk 4 sArrow 0 [a, b], c]) [sFail, sFalse] = false from rfl]; decide), if_neg (by rw [show Tm.atom (.mk 4 sSemi 0 [.mk 4 sArrow 0 [a, b], c]) [sBang] = false from rfl]; decide), if_neg (by rw [show Tm.two (.mk 4 sSemi 0 [.mk 4 sArrow 0 [a, b], c]) sComma = false from rfl]; decide), if_pos (by rfl)]
    simp only [eitherP, List.length_append, List.length_cons, List.length_nil]
    rw [show targ (targ (.mk 4 sSemi 0 [.mk 4 sArrow 0 [a, b], c]) 0) 0 = a from rfl, show targ (targ (.mk 4 sSemi 0 [.mk 4 sArrow 0 [a, b], c]) 0) 1 = b from rfl, show targ (.mk 4 sSemi 0 [.mk 4 sArrow 0 [a, b], c]) 1 = c from rfl]
    rw [bodyLen_any a _ _ _ (by omega) (by omega), bodyLen_any b _ _ _ (by omega) (by omega), bodyLen_any c _ _ _ (by omega) (by omega)]
    omega
  | 3, _, _, hd => by
    have hd : Tm.dp (.mk 4 sNot 0 [a]) ≤ 100 := hd
    show (((bd (100 + 1) (.mk 4 sNot 0 [a]) (In0 3 0) 0).1.length : Nat) : Int) = (bodyLen a : Int) + 5
    rw [dp_mk1] at hd
    rw [bd, if_neg (by rw [show Tm.atom (.mk 4 sNot 0 [a]) [sTrue] = false from rfl]; decide), if_neg (by rw [show Tm.atom (.mk 4 sNot 0 [a]) [sFail, sFalse] = false from rfl]; decide), if_neg (by rw [show Tm.atom (.mk 4 sNot 0 [a]) [sBang] = false from rfl]; decide), if_neg (by rw [show Tm.two (.mk 4 sNot 0 [a]) sComma = false from rfl]; decide), if_neg (by rw [show Tm.ite (.mk 4 sNot 0 [a]) = false from rfl]; decide), if_neg (by rw [show Tm.two (.mk 4 sNot 0 [a]) sArrow = false from rfl]; decide), if_neg (by rw [show Tm.two (.mk 4 sNot 0 [a]) sSemi = false from rfl]; decide), if_pos (by rfl)]
    simp only [List.length_append, List.length_cons, List.length_nil]
    rw [show targ (.mk 4 sNot 0 [a]) 0 = a from rfl, bodyLen_any a _ _ _ (by omega) (by omega)]
    omega
/-- The head h(args ..), or the atom h. -/
def headOf (args : List Tm) : Tm := if args.length = 0 then .mk 3 sH 0 [] else .mk 4 sH 0 args
theorem head_predN (args : List Tm) : Tm.predN (headOf args) = args.length := by
  unfold headOf Tm.predN
  split
  · rename_i h; rw [h]; rfl
  · rfl
theorem gets_at : ∀ (ts : List Tm) (m : Int) (k : Nat) (h : k < (getsOf ts m).length), (getsOf ts m)[k].op = 1 ∧ (getsOf ts m)[k].a = m + k
  | t :: ts, m, 0, h => ⟨rfl, by show m = m + ((0 : Nat) : Int); omega⟩
  | t :: ts, m, k + 1, h => by
    have := gets_at ts (m + 1) k (Nat.lt_of_succ_lt_succ h)
    refine ⟨this.1, ?_⟩
    show ((getsOf ts (m + 1))[k]'(Nat.lt_of_succ_lt_succ h)).a = m + ((k + 1 : Nat) : Int)
    rw [this.2]; omega
/-- The head's instructions of a clause. -/
theorem compM_gets (h b : Tm) (k : Nat) (hk : k < Tm.predN h) (hl : k < (compM h b).is.length) : (compM h b).is[k].op = 1 ∧ (compM h b).is[k].a = (k : Int) + 1 := by
  have e : (Tm.ren (clM h b) h).ls.length = Tm.predN h := by
    rw [ren_ls]
    unfold Tm.predN
    split
    · rw [rens_len]
    · rfl
  have hg : k < (getsOf (Tm.ren (clM h b) h).ls 1).length := by rw [getsOf_len, e]; exact hk
  have key : (compM h b).is[k] = (getsOf (Tm.ren (clM h b) h).ls 1)[k] := by
    have e2 : (compM h b).is = getsOf (Tm.ren (clM h b) h).ls 1 ++ (place (Tm.ren (clM h b) h).ls.length (bd 100 (Tm.ren (clM h b) b) (In0 3 0) 0).1 ++ [In0 9 0]) := by
      rw [← List.append_assoc]; rfl
    have e3 : (compM h b).is[k]? = (getsOf (Tm.ren (clM h b) h).ls 1)[k]? := by rw [e2, List.getElem?_append_left hg]
    rw [List.getElem?_eq_getElem hl, List.getElem?_eq_getElem hg] at e3
    exact Option.some.inj e3
  rw [key]
  have := gets_at (Tm.ren (clM h b) h).ls 1 k hg
  exact ⟨this.1, by rw [this.2]; omega⟩
end Go.Proofs.Ytamiidklcadkmaa
