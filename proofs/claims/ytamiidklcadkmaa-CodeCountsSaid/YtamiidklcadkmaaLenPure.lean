/- How long a body's piece of code is: names of variables, cuts and slots don't matter: plain. -/
import Derived.Test.YtamiidklcadkmaaRightPure
set_option maxRecDepth 20000
set_option linter.unusedVariables false
set_option linter.unusedSimpArgs false
namespace Go.Proofs.Ytamiidklcadkmaa
open Go.RowKit Go.PM
theorem ren_s (m : List (Int × Int)) (t : Tm) (h : t.k = 3 ∨ t.k = 4) : (Tm.ren m t).s = t.s := by
  match t, h with
  | .mk k s x ls, h =>
    have h : k = 3 ∨ k = 4 := h
    rw [Tm.ren, if_neg (by omega)]
    rcases h with rfl | rfl
    · rw [if_neg (by decide)]; rfl
    · rw [if_pos rfl]; rfl
theorem ren_lslen (m : List (Int × Int)) (t : Tm) (h : t.k = 4) : (Tm.ren m t).ls.length = t.ls.length := by rw [ren_ls, if_pos h, rens_len]
theorem atom_ren (m : List (Int × Int)) (t : Tm) (ns : List ByteArray) : Tm.atom (Tm.ren m t) ns = Tm.atom t ns := by
  unfold Tm.atom
  rw [ren_k]
  by_cases h : t.k = 3
  · rw [ren_s m t (.inl h)]
  · rw [decide_eq_false h]; rfl
theorem two_ren (m : List (Int × Int)) (t : Tm) (nm : ByteArray) : Tm.two (Tm.ren m t) nm = Tm.two t nm := by
  unfold Tm.two
  rw [ren_k]
  by_cases h : t.k = 4
  · rw [ren_s m t (.inr h), ren_lslen m t h]
  · rw [decide_eq_false h]; rfl
theorem one_ren (m : List (Int × Int)) (t : Tm) (nm : ByteArray) : Tm.one1 (Tm.ren m t) nm = Tm.one1 t nm := by
  unfold Tm.one1
  rw [ren_k]
  by_cases h : t.k = 4
  · rw [ren_s m t (.inr h), ren_lslen m t h]
  · rw [decide_eq_false h]; rfl
theorem targ_ren (m : List (Int × Int)) (t : Tm) (h : t.k = 4) {i : Nat} (hi : i < t.ls.length) : targ (Tm.ren m t) i = Tm.ren m (targ t i) := by
  rw [targ_get (by rw [ren_lslen m t h]; exact hi), targ_get hi]
  have e : (Tm.ren m t).ls = t.ls.map (Tm.ren m) := by rw [ren_ls, if_pos h, Tms.ren_map]
  simp only [e, List.getElem_map]
theorem ite_ren (m : List (Int × Int)) (t : Tm) : Tm.ite (Tm.ren m t) = Tm.ite t := by
  unfold Tm.ite
  rw [two_ren]
  cases h : Tm.two t sSemi
  · rfl
  · obtain ⟨k4, hl, _⟩ := two_sz h
    rw [targ_ren m t k4 (by omega), two_ren]
theorem failT_len (n : Nat) (cut : In) (free : Int) (hn : 1 ≤ n) : (bd n failT cut free).1.length = 1 := by
  cases n with
  | zero => omega
  | succ n => rw [bd_fail]; rfl
theorem bd_len : ∀ (n : Nat) (t : Tm) (m : List (Int × Int)) (cut : In) (free : Int) (n' : Nat) (cut' : In) (free' : Int), Tm.dp t ≤ n → Tm.dp t ≤ n' → (bd n (Tm.ren m t) cut free).1.length = (bd n' t cut' free').1.length
  | 0, t, _, _, _, _, _, _, h, _ => by have := dp_pos t; omega
  | n + 1, t, m, cut, free, 0, cut', free', _, h => by have := dp_pos t; omega
  | n + 1, t, m, cut, free, n' + 1, cut', free', hd, hd' => by
    rw [bd, bd, atom_ren, atom_ren, atom_ren, two_ren, ite_ren, two_ren, two_ren, one_ren]
    split
    · rfl
    split
    · rfl
    split
    · rfl
    split
    · rename_i h
      obtain ⟨k4, hl, _⟩ := two_sz h
      have d0 := arg_dp (i := 0) k4 (by omega)
      have d1 := arg_dp (i := 1) k4 (by omega)
      rw [targ_ren m t k4 (by omega), targ_ren m t k4 (by omega)]
      simp only [List.length_append]
      rw [bd_len n (targ t 0) m _ _ n' cut' free' (by omega) (by omega), bd_len n (targ t 1) m _ _ n' cut' (bd n' (targ t 0) cut' free').2 (by omega) (by omega)]
    split
    · rename_i h
      unfold Tm.ite at h
      rw [Bool.and_eq_true] at h
      obtain ⟨k4, hl, _⟩ := two_sz h.1
      obtain ⟨k4', hl', _⟩ := two_sz h.2
      have d0 := arg_dp (i := 0) k4 (by omega)
      have d1 := arg_dp (i := 1) k4 (by omega)
      have d2 := arg_dp (i := 0) k4' (by omega)
      have d3 := arg_dp (i := 1) k4' (by omega)
      rw [targ_ren m t k4 (by omega), targ_ren m t k4 (by omega), targ_ren m (targ t 0) k4' (by omega), targ_ren m (targ t 0) k4' (by omega)]
      simp only [eitherP, List.length_append, List.length_cons, List.length_nil]
      rw [bd_len n (targ (targ t 0) 0) m _ _ n' (In0 7 (free' + 1)) (free' + 2) (by omega) (by omega), bd_len n (targ (targ t 0) 1) m _ _ n' cut' (bd n' (targ (targ t 0) 0) (In0 7 (free' + 1)) (free' + 2)).2 (by omega) (by omega), bd_len n (targ t 1) m _ _ n' cut' (bd n' (targ (targ t 0) 1) cut' (bd n' (targ (targ t 0) 0) (In0 7 (free' + 1)) (free' + 2)).2).2 (by omega) (by omega)]
    split
    · rename_i h
      obtain ⟨k4, hl, _⟩ := two_sz h
      have d0 := arg_dp (i := 0) k4 (by omega)
      have d1 := arg_dp (i := 1) k4 (by omega)
      have p0 := dp_pos (targ t 0)
      rw [targ_ren m t k4 (by omega), targ_ren m t k4 (by omega)]
      simp only [eitherP, List.length_append, List.length_cons, List.length_nil]
      rw [bd_len n (targ t 0) m _ _ n' (In0 7 (free' + 1)) (free' + 2) (by omega) (by omega), bd_len n (targ t 1) m _ _ n' cut' (bd n' (targ t 0) (In0 7 (free' + 1)) (free' + 2)).2 (by omega) (by omega), failT_len n _ _ (by omega), failT_len n' _ _ (by omega)]
    split
    · rename_i h
      obtain ⟨k4, hl, _⟩ := two_sz h
      have d0 := arg_dp (i := 0) k4 (by omega)
      have d1 := arg_dp (i := 1) k4 (by omega)
      rw [targ_ren m t k4 (by omega), targ_ren m t k4 (by omega)]
      simp only [List.length_append, List.length_cons, List.length_nil]
      rw [bd_len n (targ t 0) m _ _ n' cut' free' (by omega) (by omega), bd_len n (targ t 1) m _ _ n' cut' (bd n' (targ t 0) cut' free').2 (by omega) (by omega)]
    split
    · rename_i h
      obtain ⟨k4, hl, _⟩ := one_sz h
      have d0 := arg_dp (i := 0) k4 (by omega)
      rw [targ_ren m t k4 (by omega)]
      simp only [List.length_append, List.length_cons, List.length_nil]
      rw [bd_len n (targ t 0) m _ _ n' (In0 7 (free' + 1)) (free' + 2) (by omega) (by omega)]
    · rfl
/-- How many instructions a body's piece has. -/
def bodyLen (t : Tm) : Nat := (bd 101 t (In0 3 0) 0).1.length
theorem bodyLen_eq (t : Tm) (m : List (Int × Int)) (n : Nat) (cut : In) (free : Int) (h : Tm.dp t ≤ 100) (hn : Tm.dp t ≤ n) : (bd n (Tm.ren m t) cut free).1.length = bodyLen t := bd_len n t m cut free 101 _ _ hn (by omega)
theorem goalC_len (g : Tm) (h : Tm.rightN g = true) : (goalC g).is.length = goalN g + bodyLen g + 1 := by
  have hd : Tm.dp g ≤ 100 := ((rightN_iff g).1 h).2.1
  show (getsOf (goalVars (goalN g)) 1 ++ place (goalVars (goalN g)).length (bd 100 (ren1 g) (In0 3 0) 0).1 ++ [In0 9 0]).length = _
  simp only [List.length_append, List.length_cons, List.length_nil, getsOf_len, place_len, goalVars_len]
  unfold ren1
  rw [bodyLen_eq g _ 100 _ _ hd hd]
theorem compM_len (h b : Tm) (hk : compOk h b = true) : (compM h b).is.length = Tm.predN h + bodyLen b + 1 := by
  unfold compOk at hk
  rw [Bool.and_eq_true] at hk
  have hd := ((rightN_whole h b).1 hk.1).2.1
  have e : (Tm.ren (clM h b) h).ls.length = Tm.predN h := by
    rw [ren_ls]
    unfold Tm.predN
    split
    · rw [rens_len]
    · rfl
  show (getsOf (Tm.ren (clM h b) h).ls 1 ++ place (Tm.ren (clM h b) h).ls.length (bd 100 (Tm.ren (clM h b) b) (In0 3 0) 0).1 ++ [In0 9 0]).length = _
  simp only [List.length_append, List.length_cons, List.length_nil, getsOf_len, place_len, e]
  rw [bodyLen_eq b _ 100 _ _ (by omega) (by omega)]
end Go.Proofs.Ytamiidklcadkmaa
