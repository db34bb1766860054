/- What comes of a clause or a goal is right: plain. -/
import Derived.Test.YtamiidklcadkmaaCodeRight
set_option maxRecDepth 20000
set_option linter.unusedVariables false
set_option linter.unusedSimpArgs false
namespace Go.Proofs.Ytamiidklcadkmaa
open Go.RowKit Go.PM
/-! ### variables -/
theorem mem_vars (x : Int) : ∀ (t : Tm) (out : List Int), x ∈ Tm.vars t out ↔ x ∈ out ∨ x ∈ Tm.vars t [] := by
  refine Tm.ind fun k s y ls ih out => ?_
  have key : ∀ l : List Tm, (∀ t ∈ l, ∀ out, x ∈ Tm.vars t out ↔ x ∈ out ∨ x ∈ Tm.vars t []) → ∀ out, x ∈ Tms.vars l out ↔ x ∈ out ∨ x ∈ Tms.vars l [] := by
    intro l
    induction l with
    | nil => intro _ out; rw [Tms.vars, Tms.vars]; simp
    | cons t ts iht =>
      intro h out
      rw [Tms.vars, Tms.vars, iht (fun u hu => h u (List.mem_cons_of_mem _ hu)), h t (by simp), iht (fun u hu => h u (List.mem_cons_of_mem _ hu)) (Tm.vars t [])]
      rw [or_assoc]
  rw [Tm.vars, Tm.vars]
  by_cases k1 : k = 1
  · rw [if_pos k1, if_pos k1, if_neg (by simp : ¬ y ∈ ([] : List Int))]
    split
    · rename_i hy
      constructor
      · exact .inl
      · rintro (h | h)
        · exact h
        · simp at h; subst h; exact hy
    · simp
  rw [if_neg k1, if_neg k1]
  by_cases k4 : k = 4
  · rw [if_pos k4, if_pos k4]
    exact key ls ih out
  · rw [if_neg k4, if_neg k4]
    simp
theorem mem_varss (x : Int) : ∀ (l : List Tm), x ∈ Tms.vars l [] ↔ ∃ t ∈ l, x ∈ Tm.vars t []
  | [] => by rw [Tms.vars]; simp
  | t :: ts => by
    rw [Tms.vars]
    have key : ∀ (l : List Tm) (out : List Int), x ∈ Tms.vars l out ↔ x ∈ out ∨ x ∈ Tms.vars l [] := by
      intro l
      induction l with
      | nil => intro out; rw [Tms.vars, Tms.vars]; simp
      | cons t ts iht => intro out; rw [Tms.vars, Tms.vars, iht, mem_vars, iht (Tm.vars t []), or_assoc]
    rw [key, mem_varss x ts]
    simp
theorem vars_4 {s : ByteArray} {y : Int} {ls : List Tm} (out : List Int) : Tm.vars (.mk 4 s y ls) out = Tms.vars ls out := by rw [Tm.vars, if_neg (by decide), if_pos rfl]
theorem targ_vars {t : Tm} {i : Nat} (hk : t.k = 4) (hi : i < t.ls.length) {x : Int} (h : x ∈ Tm.vars (targ t i) []) : x ∈ Tm.vars t [] := by
  match t, hk, hi, h with
  | .mk k s y ls, hk, hi, h =>
    have hk : k = 4 := hk
    subst hk
    rw [vars_4, mem_varss]
    exact ⟨_, arg_mem hi, h⟩
theorem targ_right {t : Tm} {i : Nat} (hk : t.k = 4) (hi : i < t.ls.length) (hr : Tm.rightN t = true) : Tm.rightN (targ t i) = true := by
  have hd := arg_dp hk hi
  have hm := arg_mem hi
  rw [rightN_iff] at hr ⊢
  have hs : Tm.sz (targ t i) ≤ Tms.sz t.ls := by
    have key : ∀ (l : List Tm) (u : Tm), u ∈ l → Tm.sz u ≤ Tms.sz l := by
      intro l
      induction l with
      | nil => intro u h; cases h
      | cons a l ih =>
        intro u h
        rw [szs_cons]
        have := sz_pos a
        have := szs_pos l
        rcases List.mem_cons.1 h with rfl | h
        · omega
        · have := ih u h; omega
    exact key _ _ hm
  have he := sz_eq t hk
  refine ⟨by omega, by omega, ?_⟩
  match t, hk, hi, hm, hr with
  | .mk k s y ls, hk, hi, hm, hr =>
    have hk : k = 4 := hk
    subst hk
    exact pls_mem ls (pl_4.1 hr.2.2).2.2.2 _ hm
/-- Right, and with variables up to a number. -/
def Fit (vs : Int) (t : Tm) : Prop := Tm.rightN t = true ∧ ∀ x ∈ Tm.vars t [], x ≤ vs
theorem Fit.fits {vs : Int} {t : Tm} (h : Fit vs t) : fitsM t vs = true := by
  unfold fitsM
  rw [h.1, Bool.true_and, List.all_eq_true]
  exact fun x hx => decide_eq_true (h.2 x hx)
theorem Fit.arg {vs : Int} {t : Tm} (h : Fit vs t) (hk : t.k = 4) {i : Nat} (hi : i < t.ls.length) : Fit vs (targ t i) := ⟨targ_right hk hi h.1, fun x hx => h.2 x (targ_vars hk hi hx)⟩
/-! ### pieces -/
/-- An instruction of a piece, so many instructions from its end. -/
def relI (vs hi r : Int) (x : In) : Prop :=
  (x.op = 2 ∧ x.a = 0 ∧ fitsM x.t vs = true) ∨ ((x.op = 3 ∨ x.op = 8) ∧ x.a = 0 ∧ x.t.k = 0) ∨ ((x.op = 4 ∨ x.op = 5) ∧ 0 < x.a ∧ x.a ≤ r ∧ x.t.k = 0) ∨ ((x.op = 6 ∨ x.op = 7) ∧ 0 ≤ x.a ∧ x.a < hi ∧ x.t.k = 0)
def RelL (vs hi e : Int) : List In → Prop
  | [] => True
  | x :: xs => relI vs hi ((xs.length : Int) + 1 + e) x ∧ RelL vs hi e xs
theorem RelL.mono {vs hi e e' : Int} (he : e ≤ e') : ∀ {xs : List In}, RelL vs hi e xs → RelL vs hi e' xs
  | [], _ => trivial
  | x :: xs, h => by
    refine ⟨?_, RelL.mono he h.2⟩
    rcases h.1 with h | h | h | h
    · exact .inl h
    · exact .inr (.inl h)
    · exact .inr (.inr (.inl ⟨h.1, h.2.1, by omega, h.2.2.2⟩))
    · exact .inr (.inr (.inr h))
theorem RelL.append {vs hi e : Int} : ∀ {xs ys : List In}, RelL vs hi ((ys.length : Int) + e) xs → RelL vs hi e ys → RelL vs hi e (xs ++ ys)
  | [], ys, _, h => h
  | x :: xs, ys, h, h2 => by
    refine ⟨?_, RelL.append h.2 h2⟩
    have h := h.1
    show relI vs hi (((xs ++ ys).length : Int) + 1 + e) x
    rw [List.length_append]
    rw [show (((xs.length + ys.length : Nat) : Int) + 1 + e) = (xs.length : Int) + 1 + ((ys.length : Int) + e) by omega]
    exact h
theorem RelL.app0 {vs hi : Int} {xs ys : List In} (h : RelL vs hi 0 xs) (h2 : RelL vs hi 0 ys) : RelL vs hi 0 (xs ++ ys) := RelL.append (h.mono (by omega)) h2
theorem zeroT_k : zeroT.k = 0 := rfl
theorem rel_slot {vs hi r a : Int} {op : Int} (ho : op = 6 ∨ op = 7) (h1 : 0 ≤ a) (h2 : a < hi) : relI vs hi r (In0 op a) := .inr (.inr (.inr ⟨ho, h1, h2, zeroT_k⟩))
theorem rel_jump {vs hi r a : Int} {op : Int} (ho : op = 4 ∨ op = 5) (h1 : 0 < a) (h2 : a ≤ r) : relI vs hi r (In0 op a) := .inr (.inr (.inl ⟨ho, h1, h2, zeroT_k⟩))
theorem rel_fail {vs hi r : Int} : relI vs hi r (In0 8 0) := .inr (.inl ⟨.inr rfl, rfl, zeroT_k⟩)
theorem either_rel {vs hi : Int} {x y z : List In} {free : Int} (h0 : 0 ≤ free) (h1 : free + 2 ≤ hi) (hx : RelL vs hi 0 x) (hy : RelL vs hi 0 y) (hz : RelL vs hi 0 z) : RelL vs hi 0 (eitherP x y z free) := by
  unfold eitherP
  refine RelL.append (xs := [_, _, _]) ⟨rel_slot (.inl rfl) h0 (by omega), rel_jump (.inl rfl) (by omega) ?_, rel_slot (.inl rfl) (by omega) (by omega), trivial⟩ ?_
  · simp only [List.length_append, List.length_cons, List.length_nil]; omega
  refine hx.app0 ?_
  refine RelL.append (xs := [_]) ⟨rel_slot (.inr rfl) h0 (by omega), trivial⟩ ?_
  refine hy.app0 ?_
  refine RelL.append (xs := [_]) ⟨rel_jump (.inr rfl) (by omega) (by simp only [List.length_nil]; omega), trivial⟩ hz
theorem fail_rel {vs hi : Int} (n : Nat) (cut : In) (free : Int) : RelL vs hi 0 (bd n failT cut free).1 := by
  cases n with
  | zero => rw [bd]; trivial
  | succ n => rw [bd_fail]; exact ⟨rel_fail, trivial⟩
theorem bd_rel {vs hi : Int} : ∀ (n : Nat) (t : Tm) (cut : In) (free : Int), Fit vs t → (∀ r, relI vs hi r cut) → 0 ≤ free → (bd n t cut free).2 ≤ hi → RelL vs hi 0 (bd n t cut free).1
  | 0, t, cut, free, _, _, _, _ => by rw [bd]; trivial
  | n + 1, t, cut, free, hf, hc, h0, hh => by
    rw [bd] at hh ⊢
    split at hh
    · rw [if_pos ‹_›]; trivial
    rw [if_neg ‹_›]
    split at hh
    · rw [if_pos ‹_›]; exact ⟨rel_fail, trivial⟩
    rw [if_neg ‹_›]
    split at hh
    · rw [if_pos ‹_›]; exact ⟨hc _, trivial⟩
    rw [if_neg ‹_›]
    split at hh
    · rename_i h
      rw [if_pos h]
      obtain ⟨k4, hl, _⟩ := two_sz h
      have e1 := bd_le n (targ t 0) cut free
      have e2 := bd_le n (targ t 1) cut (bd n (targ t 0) cut free).2
      simp only at hh
      exact (bd_rel n (targ t 0) cut free (hf.arg k4 (by omega)) hc h0 (by omega)).app0 (bd_rel n (targ t 1) cut _ (hf.arg k4 (by omega)) hc (by omega) hh)
    rw [if_neg ‹_›]
    split at hh
    · rename_i h
      rw [if_pos h]
      unfold Tm.ite at h
      rw [Bool.and_eq_true] at h
      obtain ⟨k4, hl, _⟩ := two_sz h.1
      obtain ⟨k4', hl', _⟩ := two_sz h.2
      have e1 := bd_le n (targ (targ t 0) 0) (In0 7 (free + 1)) (free + 2)
      have e2 := bd_le n (targ (targ t 0) 1) cut (bd n (targ (targ t 0) 0) (In0 7 (free + 1)) (free + 2)).2
      have e3 := bd_le n (targ t 1) cut (bd n (targ (targ t 0) 1) cut (bd n (targ (targ t 0) 0) (In0 7 (free + 1)) (free + 2)).2).2
      simp only at hh
      refine either_rel h0 (by omega) (bd_rel n _ _ _ ((hf.arg k4 (by omega)).arg k4' (by omega)) (fun r => rel_slot (.inr rfl) (by omega) (by omega)) (by omega) (by omega)) (bd_rel n _ _ _ ((hf.arg k4 (by omega)).arg k4' (by omega)) hc (by omega) (by omega)) (bd_rel n _ _ _ (hf.arg k4 (by omega)) hc (by omega) hh)
    rw [if_neg ‹_›]
    split at hh
    · rename_i h
      rw [if_pos h]
      obtain ⟨k4, hl, _⟩ := two_sz h
      have e1 := bd_le n (targ t 0) (In0 7 (free + 1)) (free + 2)
      have e2 := bd_le n (targ t 1) cut (bd n (targ t 0) (In0 7 (free + 1)) (free + 2)).2
      have e3 := bd_fail_le n cut (bd n (targ t 1) cut (bd n (targ t 0) (In0 7 (free + 1)) (free + 2)).2).2
      simp only at hh
      exact either_rel h0 (by omega) (bd_rel n _ _ _ (hf.arg k4 (by omega)) (fun r => rel_slot (.inr rfl) (by omega) (by omega)) (by omega) (by omega)) (bd_rel n _ _ _ (hf.arg k4 (by omega)) hc (by omega) (by omega)) (fail_rel n cut _)
    rw [if_neg ‹_›]
    split at hh
    · rename_i h
      rw [if_pos h]
      obtain ⟨k4, hl, _⟩ := two_sz h
      have e1 := bd_le n (targ t 0) cut free
      have e2 := bd_le n (targ t 1) cut (bd n (targ t 0) cut free).2
      simp only at hh
      refine RelL.append (xs := [_]) ⟨rel_jump (.inl rfl) (by omega) (by simp only [List.length_append, List.length_cons, List.length_nil]; omega), trivial⟩ ?_
      refine (bd_rel n _ _ _ (hf.arg k4 (by omega)) hc h0 (by omega)).app0 ?_
      exact RelL.append (xs := [_]) ⟨rel_jump (.inr rfl) (by omega) (by simp only [List.length_nil]; omega), trivial⟩ (bd_rel n _ _ _ (hf.arg k4 (by omega)) hc (by omega) hh)
    rw [if_neg ‹_›]
    split at hh
    · rename_i h
      rw [if_pos h]
      obtain ⟨k4, hl, _⟩ := one_sz h
      have e1 := bd_le n (targ t 0) (In0 7 (free + 1)) (free + 2)
      simp only at hh
      refine RelL.append (xs := [_, _, _]) ⟨rel_slot (.inl rfl) h0 (by omega), rel_jump (.inl rfl) (by omega) ?_, rel_slot (.inl rfl) (by omega) (by omega), trivial⟩ ?_
      · simp only [List.length_append, List.length_cons, List.length_nil]; omega
      refine (bd_rel n _ _ _ (hf.arg k4 (by omega)) (fun r => rel_slot (.inr rfl) (by omega) (by omega)) (by omega) (by omega)).app0 ?_
      exact ⟨rel_slot (.inr rfl) h0 (by omega), rel_fail, trivial⟩
    · rw [if_neg ‹_›]
      exact ⟨.inl ⟨rfl, rfl, hf.fits⟩, trivial⟩
/-! ### the whole -/
theorem allOk_append (c : Cd) (n : Int) : ∀ (xs ys : List In) (j : Int), allOk c n (xs ++ ys) j = (allOk c n xs j && allOk c n ys (j + xs.length))
  | [], ys, j => by simp [allOk]
  | x :: xs, ys, j => by
    rw [List.cons_append, allOk, allOk_append c n xs ys (j + 1), allOk, Bool.and_assoc, List.length_cons]
    congr 3
    omega
theorem allOk_place (c : Cd) (n : Int) : ∀ (q : List In) (L : Nat), RelL c.vs c.slots 0 q → (L : Int) + q.length < n → allOk c n (place L q) L = true
  | [], L, _, _ => by rw [place]; rfl
  | x :: xs, L, h, hn => by
    rw [place, allOk]
    rw [List.length_cons] at hn
    have ih := allOk_place c n xs (L + 1) h.2 (by omega)
    rw [show ((L + 1 : Nat) : Int) = (L : Int) + 1 from rfl] at ih
    rw [ih, Bool.and_true]
    rw [insOk_def]
    rcases h.1 with ⟨h1, h2, h3⟩ | ⟨h1, h2, h3⟩ | ⟨h1, h2, h3, h4⟩ | ⟨h1, h2, h3, h4⟩
    · rw [if_neg (by omega : ¬ (x.op = 4 ∨ x.op = 5)), if_neg (by omega), if_pos h1, h2, h3]; rfl
    · rw [if_neg (by omega : ¬ (x.op = 4 ∨ x.op = 5)), if_neg (by omega), if_neg (by omega), if_pos (by omega), h2, h3]; rfl
    · rw [if_pos h1]
      simp only
      rw [if_neg (by omega), if_neg (by omega), if_neg (by omega), if_pos h1, h4, decide_eq_true (by omega), decide_eq_true (by omega)]; rfl
    · rw [if_neg (by omega : ¬ (x.op = 4 ∨ x.op = 5)), if_neg (by omega), if_neg (by omega), if_neg (by omega), if_neg (by omega), if_pos h1, h4, decide_eq_true h2, decide_eq_true h3]; rfl
theorem allOk_gets (c : Cd) (n : Int) : ∀ (ts : List Tm) (m j : Int), 1 ≤ m → m - 1 + ts.length ≤ c.p.2 → (∀ t ∈ ts, fitsM t c.vs = true) → allOk c n (getsOf ts m) j = true
  | [], m, j, _, _, _ => rfl
  | t :: ts, m, j, h1, h2, h3 => by
    rw [List.length_cons] at h2
    rw [getsOf, allOk, allOk_gets c n ts (m + 1) (j + 1) (by omega) (by omega) (fun u hu => h3 u (List.mem_cons_of_mem _ hu)), Bool.and_true, insOk_def, if_pos rfl]
    show (decide (1 ≤ m) && (decide (m ≤ c.p.2) && fitsM t c.vs)) = true
    rw [h3 t (by simp), decide_eq_true h1, decide_eq_true (by omega)]; rfl
theorem codeOf_right (gets : List Tm) (b : Tm) (p : ByteArray × Int) (vs : Int) (hp : (gets.length : Int) ≤ p.2) (hg : ∀ t ∈ gets, Fit vs t) (hb : Fit vs b) : rightC (codeOf gets b p vs) = true := by
  have e := bd_le 100 b (In0 3 0) 0
  have hlen : ((codeOf gets b p vs).is.length : Int) = gets.length + (bd 100 b (In0 3 0) 0).1.length + 1 := by
    unfold codeOf
    simp only [List.length_append, List.length_cons, List.length_nil, getsOf_len, place_len]
    omega
  have h1 := allOk_gets (codeOf gets b p vs) (codeOf gets b p vs).is.length gets 1 0 (by omega) (by show (1 : Int) - 1 + gets.length ≤ p.2; omega) (fun t ht => (hg t ht).fits)
  have h2 := allOk_place (codeOf gets b p vs) (codeOf gets b p vs).is.length (bd 100 b (In0 3 0) 0).1 gets.length (bd_rel 100 b (In0 3 0) 0 hb (fun r => .inr (.inl ⟨.inl rfl, rfl, zeroT_k⟩)) (by omega) (Int.le_refl _)) (by rw [hlen]; omega)
  unfold rightC
  have hl : lastOp (codeOf gets b p vs).is = 9 := by
    show lastOp (getsOf gets 1 ++ place gets.length (bd 100 b (In0 3 0) 0).1 ++ [In0 9 0]) = 9
    unfold lastOp
    rw [List.getLast?_append]
    rfl
  rw [hl, decide_eq_true rfl, Bool.true_and]
  generalize hnn : ((codeOf gets b p vs).is.length : Int) = nn at *
  show allOk (codeOf gets b p vs) nn (getsOf gets 1 ++ place gets.length (bd 100 b (In0 3 0) 0).1 ++ [In0 9 0]) 0 = true
  rw [allOk_append, allOk_append, h1, Int.zero_add, getsOf_len, h2, Bool.true_and, Bool.true_and, allOk, allOk, Bool.and_true, insOk_def]
  rw [if_neg (by decide), if_neg (by decide), if_pos (.inr (.inr rfl))]
  rfl
/-! ### renamed terms fit -/
theorem vars_ren (m : List (Int × Int)) (x : Int) : ∀ t, x ∈ Tm.vars (Tm.ren m t) [] → ∃ y ∈ Tm.vars t [], x = (mlk m y).getD y := by
  refine Tm.ind fun k s y ls ih => ?_
  by_cases k1 : k = 1
  · subst k1
    rw [show Tm.ren m (.mk 1 s y ls) = .mk 1 noStr ((mlk m y).getD y) [] by rw [Tm.ren, if_pos rfl]]
    rw [Tm.vars, if_pos rfl, if_neg (by simp), Tm.vars, if_pos rfl, if_neg (by simp)]
    intro h
    simp at h
    exact ⟨y, by simp, h⟩
  by_cases k4 : k = 4
  · subst k4
    rw [show Tm.ren m (.mk 4 s y ls) = .mk 4 s 0 (Tms.ren m ls) by rw [Tm.ren, if_neg (by decide), if_pos rfl]]
    rw [vars_4, vars_4, mem_varss]
    rintro ⟨u, hu, hx⟩
    rw [Tms.ren_map] at hu
    obtain ⟨t, ht, rfl⟩ := List.mem_map.1 hu
    obtain ⟨z, hz, e⟩ := ih t ht hx
    exact ⟨z, (mem_varss z ls).2 ⟨t, ht, hz⟩, e⟩
  · rw [show Tm.ren m (.mk k s y ls) = .mk k (bareS k s) (bareX k y) [] by rw [Tm.ren, if_neg k1, if_neg k4]]
    rw [Tm.vars, if_neg k1, if_neg k4]
    intro h
    cases h
theorem renM_mem : ∀ (vs : List Int) (n : Int) (y : Int), y ∈ vs → ∃ z, mlk (renM vs n) y = some z ∧ n ≤ z ∧ z < n + vs.length
  | [], n, y, h => by cases h
  | v :: vs, n, y, h => by
    unfold mlk
    rw [renM, List.find?_cons, List.length_cons]
    by_cases hv : v = y
    · subst hv
      simp
      omega
    · have hb : (v == y) = false := by simp [hv]
      rw [hb]
      obtain ⟨z, h1, h2, h3⟩ := renM_mem vs (n + 1) y ((List.mem_cons.1 h).resolve_left (Ne.symm hv))
      exact ⟨z, h1, by omega, by omega⟩
theorem ren_fit {t u : Tm} {n : Nat} (hr : Tm.rightN (Tm.ren (renM (Tm.vars t []) 1) u) = true) (hu : ∀ x ∈ Tm.vars u [], x ∈ Tm.vars t []) (hn : n = (Tm.vars t []).length) : Fit n (Tm.ren (renM (Tm.vars t []) 1) u) := by
  subst hn
  refine ⟨hr, fun x hx => ?_⟩
  obtain ⟨y, hy, rfl⟩ := vars_ren _ _ _ hx
  obtain ⟨z, h1, h2, h3⟩ := renM_mem (Tm.vars t []) 1 y (hu y hy)
  rw [h1]
  show z ≤ _
  omega
/-- What comes of a goal is right. -/
theorem goal_right (g : Tm) (h : Tm.rightN g = true) : rightC (goalC g) = true := by
  unfold goalC
  refine codeOf_right _ _ _ _ (by rw [goalVars_len]; exact Int.le_refl _) (fun t ht => ?_) ?_
  · unfold goalVars at ht
    obtain ⟨i, hi, rfl⟩ := List.mem_map.1 ht
    rw [List.mem_range] at hi
    refine ⟨?_, fun x hx => ?_⟩
    · rw [rightN_iff]
      unfold varT
      rw [Tm.sz, if_neg (by decide), Tm.dp, if_neg (by decide), Tm.pl]
      exact ⟨by decide, by decide, .inl ⟨rfl, by omega⟩⟩
    · unfold varT at hx
      rw [Tm.vars, if_pos rfl, if_neg (by simp)] at hx
      simp at hx
      omega
  · exact ren_fit (rightN_ren _ (fun x y hxy => mlk_renM (by decide) hxy) g h) (fun x hx => hx) rfl
theorem clause_vars (h b : Tm) (x : Int) : x ∈ Tm.vars (whole h b) [] ↔ x ∈ Tm.vars h [] ∨ x ∈ Tm.vars b [] := by
  unfold whole
  rw [vars_4, mem_varss]
  simp
/-- What comes of a clause is right. -/
theorem comp_right (h b : Tm) (hk : compOk h b = true) : rightC (compM h b) = true := by
  unfold compOk at hk
  rw [Bool.and_eq_true] at hk
  obtain ⟨hw, hk⟩ := hk
  obtain ⟨hh, hb⟩ := whole_parts hw
  have hlen : ((Tm.ren (clM h b) h).ls.length : Int) ≤ Tm.predN h := by
    rw [ren_ls]
    unfold Tm.predN
    split
    · rw [rens_len]; exact Int.le_refl _
    · simp
  have hrh : Tm.rightN (Tm.ren (clM h b) h) = true := rightN_ren _ (fun x y hxy => mlk_renM (by decide) hxy) h hh
  have hfh : Fit ((Tm.vars (whole h b) []).length : Nat) (Tm.ren (clM h b) h) := ren_fit hrh (fun x hx => (clause_vars h b x).2 (.inl hx)) rfl
  unfold compM
  refine codeOf_right _ _ _ _ hlen (fun t ht => ?_) (ren_fit (rightN_ren _ (fun x y hxy => mlk_renM (by decide) hxy) b hb) (fun x hx => (clause_vars h b x).2 (.inr hx)) rfl)
  have hk4 : (Tm.ren (clM h b) h).k = 4 := by
    rw [ren_k]
    rw [ren_ls] at ht
    by_cases hk4 : h.k = 4
    · exact hk4
    · rw [if_neg hk4] at ht; cases ht
  obtain ⟨i, hi, rfl⟩ := List.getElem_of_mem ht
  rw [← targ_get hi]
  exact hfh.arg hk4 hi
end Go.Proofs.Ytamiidklcadkmaa
