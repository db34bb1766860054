/- Renamed terms: sizes, depths, variables: plain. -/
import Derived.Test.YtamiidklcadkmaaBaseTerm
set_option maxRecDepth 20000
set_option linter.unusedVariables false
set_option linter.unusedSimpArgs false
namespace Go.Proofs.Ytamiidklcadkmaa
open Go.RowKit Go.PM
theorem ren_k (m : List (Int × Int)) (t : Tm) : (Tm.ren m t).k = t.k := by
  match t with
  | .mk k s x ls =>
    unfold Tm.ren
    split
    · rename_i h; subst h; rfl
    · split
      · rename_i h; subst h; rfl
      · rfl
theorem ren_sz (m : List (Int × Int)) : ∀ t, Tm.sz (Tm.ren m t) = Tm.sz t := by
  refine Tm.ind fun k s x ls ih => ?_
  have key : ∀ l : List Tm, (∀ t ∈ l, Tm.sz (Tm.ren m t) = Tm.sz t) → Tms.sz (Tms.ren m l) = Tms.sz l := by
    intro l
    induction l with
    | nil => intro _; rfl
    | cons t ts iht => intro h; rw [Tms.ren, szs_cons, szs_cons, h t (by simp), iht fun u hu => h u (List.mem_cons_of_mem _ hu)]
  unfold Tm.ren
  by_cases k1 : k = 1
  · subst k1; rw [if_pos rfl]; unfold Tm.sz; rw [if_neg (by decide), if_neg (by decide)]
  rw [if_neg k1]
  by_cases k4 : k = 4
  · subst k4; rw [if_pos rfl]; unfold Tm.sz; rw [if_pos rfl, if_pos rfl, key ls ih]
  · rw [if_neg k4]; unfold Tm.sz; rw [if_neg k4, if_neg k4]
theorem dps_cons (t : Tm) (ts : List Tm) : Tms.dp (t :: ts) = max (Tm.dp t) (Tms.dp ts) := by rw [Tms.dp]
theorem ren_dp (m : List (Int × Int)) : ∀ t, Tm.dp (Tm.ren m t) = Tm.dp t := by
  refine Tm.ind fun k s x ls ih => ?_
  have key : ∀ l : List Tm, (∀ t ∈ l, Tm.dp (Tm.ren m t) = Tm.dp t) → Tms.dp (Tms.ren m l) = Tms.dp l := by
    intro l
    induction l with
    | nil => intro _; rfl
    | cons t ts iht => intro h; rw [Tms.ren, dps_cons, dps_cons, h t (by simp), iht fun u hu => h u (List.mem_cons_of_mem _ hu)]
  unfold Tm.ren
  by_cases k1 : k = 1
  · subst k1; rw [if_pos rfl]; unfold Tm.dp; rw [if_neg (by decide), if_neg (by decide)]
  rw [if_neg k1]
  by_cases k4 : k = 4
  · subst k4; rw [if_pos rfl]; unfold Tm.dp; rw [if_pos rfl, if_pos rfl, key ls ih]
  · rw [if_neg k4]; unfold Tm.dp; rw [if_neg k4, if_neg k4]
theorem pls_cons (t : Tm) (ts : List Tm) : Tms.pl (t :: ts) = (Tm.pl t ∧ Tms.pl ts) := by rw [Tms.pl]
theorem pl_4 {s : ByteArray} {x : Int} {ls : List Tm} : Tm.pl (.mk 4 s x ls) ↔ s.size ≤ 64 ∧ 1 ≤ ls.length ∧ ls.length ≤ 8 ∧ Tms.pl ls := by
  unfold Tm.pl
  constructor
  · rintro (h | h | h | h)
    · omega
    · omega
    · omega
    · exact h.2
  · exact fun h => .inr (.inr (.inr ⟨rfl, h⟩))
/-- Renaming to numbers of at least 1 keeps a term right. -/
theorem ren_pl (m : List (Int × Int)) (hm : ∀ x y, mlk m x = some y → 1 ≤ y) : ∀ t, Tm.pl t → Tm.pl (Tm.ren m t) := by
  refine Tm.ind fun k s x ls ih hp => ?_
  have key : ∀ l : List Tm, (∀ t ∈ l, Tm.pl t → Tm.pl (Tm.ren m t)) → Tms.pl l → Tms.pl (Tms.ren m l) := by
    intro l
    induction l with
    | nil => intro _ h; exact h
    | cons t ts iht =>
      intro h hp
      rw [Tms.ren, pls_cons]
      rw [pls_cons] at hp
      exact ⟨h t (by simp) hp.1, iht (fun u hu => h u (List.mem_cons_of_mem _ hu)) hp.2⟩
  unfold Tm.ren
  by_cases k1 : k = 1
  · subst k1
    rw [if_pos rfl]
    unfold Tm.pl at hp ⊢
    refine .inl ⟨rfl, ?_⟩
    cases h : mlk m x with
    | none => show 1 ≤ x; omega
    | some y => exact hm x y h
  rw [if_neg k1]
  by_cases k4 : k = 4
  · subst k4
    rw [if_pos rfl]
    rw [pl_4] at hp ⊢
    exact ⟨hp.1, by rw [rens_len]; exact hp.2.1, by rw [rens_len]; exact hp.2.2.1, key ls ih hp.2.2.2⟩
  · rw [if_neg k4]
    unfold Tm.pl at hp ⊢
    rcases hp with h | h | h | h
    · omega
    · exact .inr (.inl h)
    · refine .inr (.inr (.inl ⟨h.1, ?_⟩))
      unfold bareS
      rw [if_neg (by omega)]
      exact h.2
    · omega
theorem pl_ren0 : ∀ t, Tm.pl (Tm.ren [] t) → Tm.pl t := by
  refine Tm.ind fun k s x ls ih hp => ?_
  have key : ∀ l : List Tm, (∀ t ∈ l, Tm.pl (Tm.ren [] t) → Tm.pl t) → Tms.pl (Tms.ren [] l) → Tms.pl l := by
    intro l
    induction l with
    | nil => intro _ h; exact h
    | cons t ts iht =>
      intro h hp
      rw [Tms.ren, pls_cons] at hp
      rw [pls_cons]
      exact ⟨h t (by simp) hp.1, iht (fun u hu => h u (List.mem_cons_of_mem _ hu)) hp.2⟩
  unfold Tm.ren at hp
  by_cases k1 : k = 1
  · subst k1
    rw [if_pos rfl] at hp
    unfold Tm.pl at hp ⊢
    rcases hp with h | h | h | h
    · exact .inl ⟨rfl, h.2⟩
    · omega
    · omega
    · omega
  rw [if_neg k1] at hp
  by_cases k4 : k = 4
  · subst k4
    rw [if_pos rfl] at hp
    rw [pl_4] at hp ⊢
    rw [rens_len] at hp
    exact ⟨hp.1, hp.2.1, hp.2.2.1, key ls ih hp.2.2.2⟩
  · rw [if_neg k4] at hp
    unfold Tm.pl at hp ⊢
    rcases hp with h | h | h | h
    · omega
    · exact .inr (.inl h)
    · refine .inr (.inr (.inl ⟨h.1, ?_⟩))
      have h2 := h.2
      unfold bareS at h2
      rw [if_neg (by omega)] at h2
      exact h2
    · omega
theorem rightN_ren (m : List (Int × Int)) (hm : ∀ x y, mlk m x = some y → 1 ≤ y) (t : Tm) (h : Tm.rightN t = true) : Tm.rightN (Tm.ren m t) = true := by
  rw [rightN_iff] at h ⊢
  rw [ren_sz, ren_dp]
  exact ⟨h.1, h.2.1, ren_pl m hm t h.2.2⟩
theorem ren_ren0 (m : List (Int × Int)) : ∀ t, Tm.ren m (Tm.ren [] t) = Tm.ren m t := by
  refine Tm.ind fun k s x ls ih => ?_
  have key : ∀ l : List Tm, (∀ t ∈ l, Tm.ren m (Tm.ren [] t) = Tm.ren m t) → Tms.ren m (Tms.ren [] l) = Tms.ren m l := by
    intro l
    induction l with
    | nil => intro _; rfl
    | cons t ts iht => intro h; rw [Tms.ren, Tms.ren, Tms.ren, h t (by simp), iht fun u hu => h u (List.mem_cons_of_mem _ hu)]
  by_cases k1 : k = 1
  · subst k1
    rw [show Tm.ren [] (.mk 1 s x ls) = .mk 1 noStr x [] by unfold Tm.ren; rw [if_pos rfl]; rfl]
    unfold Tm.ren
    rw [if_pos rfl, if_pos rfl]
  by_cases k4 : k = 4
  · subst k4
    rw [show Tm.ren [] (.mk 4 s x ls) = .mk 4 s 0 (Tms.ren [] ls) by unfold Tm.ren; rw [if_neg (by decide), if_pos rfl]]
    unfold Tm.ren
    rw [if_neg (by decide), if_pos rfl, if_neg (by decide), if_pos rfl, key ls ih]
  · rw [show Tm.ren [] (.mk k s x ls) = .mk k (bareS k s) (bareX k x) [] by unfold Tm.ren; rw [if_neg k1, if_neg k4]]
    unfold Tm.ren
    rw [if_neg k1, if_neg k4, if_neg k1, if_neg k4]
    unfold bareS bareX
    split <;> rfl
theorem vars_ren0 : ∀ t out, Tm.vars (Tm.ren [] t) out = Tm.vars t out := by
  refine Tm.ind fun k s x ls ih out => ?_
  have key : ∀ l : List Tm, (∀ t ∈ l, ∀ out, Tm.vars (Tm.ren [] t) out = Tm.vars t out) → ∀ out, Tms.vars (Tms.ren [] l) out = Tms.vars l out := by
    intro l
    induction l with
    | nil => intro _ out; rfl
    | cons t ts iht => intro h out; rw [Tms.ren, Tms.vars, Tms.vars, h t (by simp), iht fun u hu => h u (List.mem_cons_of_mem _ hu)]
  by_cases k1 : k = 1
  · subst k1
    rw [show Tm.ren [] (.mk 1 s x ls) = .mk 1 noStr x [] by unfold Tm.ren; rw [if_pos rfl]; rfl]
    unfold Tm.vars
    rw [if_pos rfl, if_pos rfl]
  by_cases k4 : k = 4
  · subst k4
    rw [show Tm.ren [] (.mk 4 s x ls) = .mk 4 s 0 (Tms.ren [] ls) by unfold Tm.ren; rw [if_neg (by decide), if_pos rfl]]
    unfold Tm.vars
    rw [if_neg (by decide), if_pos rfl, if_neg (by decide), if_pos rfl, key ls ih]
  · rw [show Tm.ren [] (.mk k s x ls) = .mk k (bareS k s) (bareX k x) [] by unfold Tm.ren; rw [if_neg k1, if_neg k4]]
    unfold Tm.vars
    rw [if_neg k1, if_neg k4, if_neg k1, if_neg k4]
theorem mlk_renM {vs : List Int} {n : Int} (hn : 1 ≤ n) {x y : Int} (h : mlk (renM vs n) x = some y) : 1 ≤ y := by
  have key : ∀ (vs : List Int) (n : Int), 1 ≤ n → ∀ p ∈ renM vs n, 1 ≤ p.2 := by
    intro vs
    induction vs with
    | nil => intro n _ p hp; cases hp
    | cons v vs ih =>
      intro n hn p hp
      rw [renM] at hp
      rcases List.mem_cons.1 hp with rfl | hp
      · exact hn
      · exact ih (n + 1) (by omega) p hp
  unfold mlk at h
  obtain ⟨p, hp, rfl⟩ := Option.map_eq_some_iff.1 h
  exact key vs n hn p (List.mem_of_find?_eq_some hp)
/-! ### whole clauses -/
def whole (h b : Tm) : Tm := .mk 4 colonS 0 [h, b]
theorem rightN_whole (h b : Tm) : Tm.rightN (whole h b) = true ↔ 1 + Tm.sz h + Tm.sz b ≤ 2000 ∧ 1 + max (Tm.dp h) (Tm.dp b) ≤ 100 ∧ Tm.pl h ∧ Tm.pl b := by
  have hp := dp_pos b
  rw [rightN_iff]
  have e1 : Tm.sz (whole h b) = 1 + Tm.sz h + Tm.sz b := by unfold whole; rw [Tm.sz, if_pos rfl, szs_cons, szs_cons, Tms.sz]; omega
  have e2 : Tm.dp (whole h b) = 1 + max (Tm.dp h) (Tm.dp b) := by
    unfold whole
    rw [show Tm.dp (.mk 4 colonS 0 [h, b]) = 1 + Tms.dp [h, b] by unfold Tm.dp; rw [if_pos rfl], dps_cons, dps_cons, Tms.dp]
    omega
  have e3 : Tm.pl (whole h b) ↔ Tm.pl h ∧ Tm.pl b := by
    unfold whole
    rw [pl_4, pls_cons, pls_cons, Tms.pl]
    exact ⟨fun h => ⟨h.2.2.2.1, h.2.2.2.2.1⟩, fun h => ⟨by decide, by simp, by simp, h.1, h.2, trivial⟩⟩
  rw [e1, e2, e3]
theorem whole_parts {h b : Tm} (hw : Tm.rightN (whole h b) = true) : Tm.rightN h = true ∧ Tm.rightN b = true := by
  rw [rightN_whole] at hw
  have h1 := sz_pos h
  have h2 := sz_pos b
  rw [rightN_iff, rightN_iff]
  exact ⟨⟨by omega, by omega, hw.2.2.1⟩, ⟨by omega, by omega, hw.2.2.2⟩⟩
/-- What base.Term makes of a clause. -/
def wholeT (h b : Tm) : Tm := bif Tm.rightN h && Tm.rightN b then whole (Tm.ren [] h) (Tm.ren [] b) else whole h b
theorem wholeT_right (h b : Tm) : Tm.rightN (wholeT h b) = Tm.rightN (whole h b) := by
  unfold wholeT
  cases hh : Tm.rightN h && Tm.rightN b
  · rfl
  · show Tm.rightN (whole (Tm.ren [] h) (Tm.ren [] b)) = _
    rw [Bool.eq_iff_iff, rightN_whole, rightN_whole, ren_sz, ren_sz, ren_dp, ren_dp]
    exact ⟨fun ⟨a, b, c, d⟩ => ⟨a, b, pl_ren0 _ c, pl_ren0 _ d⟩, fun ⟨a, b, c, d⟩ => ⟨a, b, ren_pl [] (fun _ _ h => by cases h) _ c, ren_pl [] (fun _ _ h => by cases h) _ d⟩⟩
theorem ren_whole (m : List (Int × Int)) (h b : Tm) : Tm.ren m (whole h b) = .mk 4 colonS 0 [Tm.ren m h, Tm.ren m b] := by
  unfold whole
  rw [Tm.ren, if_neg (by decide), if_pos rfl, Tms.ren, Tms.ren, Tms.ren]
theorem wholeT_ren {h b : Tm} (hw : Tm.rightN (whole h b) = true) (m : List (Int × Int)) : Tm.ren m (wholeT h b) = whole (Tm.ren m h) (Tm.ren m b) ∧ Tm.vars (wholeT h b) [] = Tm.vars (whole h b) [] := by
  obtain ⟨h1, h2⟩ := whole_parts hw
  unfold wholeT
  rw [h1, h2]
  show Tm.ren m (whole (Tm.ren [] h) (Tm.ren [] b)) = _ ∧ Tm.vars (whole (Tm.ren [] h) (Tm.ren [] b)) [] = _
  refine ⟨by rw [ren_whole, ren_ren0, ren_ren0]; rfl, ?_⟩
  unfold whole Tm.vars
  rw [if_neg (by decide), if_pos rfl, if_neg (by decide), if_pos rfl, Tms.vars, Tms.vars, Tms.vars, vars_ren0, vars_ren0, Tms.vars, Tms.vars, Tms.vars]
end Go.Proofs.Ytamiidklcadkmaa
