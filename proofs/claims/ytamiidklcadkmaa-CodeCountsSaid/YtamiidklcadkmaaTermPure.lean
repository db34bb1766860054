/- Terms: when a term is right; measure and Right say the same. No program in sight. -/
import Derived.Test.YtamiidklcadkmaaTermRef
set_option maxRecDepth 20000
set_option linter.unusedVariables false
set_option linter.unusedSimpArgs false
namespace Go.Proofs.Ytamiidklcadkmaa
open Go.RowKit Go.PM
mutual
def Tm.sz : Tm → Int
  | .mk k _ _ ls => if k = 4 then 1 + Tms.sz ls else 1
def Tms.sz : List Tm → Int
  | [] => 0
  | t :: ts => Tm.sz t + Tms.sz ts
end
mutual
def Tm.dp : Tm → Int
  | .mk k _ _ ls => if k = 4 then 1 + Tms.dp ls else 1
def Tms.dp : List Tm → Int
  | [] => 0
  | t :: ts => max (Tm.dp t) (Tms.dp ts)
end
mutual
def Tm.pl : Tm → Prop
  | .mk k s x ls => (k = 1 ∧ 1 ≤ x) ∨ k = 2 ∨ (k = 3 ∧ s.size ≤ 64) ∨ (k = 4 ∧ s.size ≤ 64 ∧ 1 ≤ ls.length ∧ ls.length ≤ 8 ∧ Tms.pl ls)
def Tms.pl : List Tm → Prop
  | [] => True
  | t :: ts => Tm.pl t ∧ Tms.pl ts
end
theorem sz_pos : ∀ t, 1 ≤ Tm.sz t := by
  refine Tm.ind fun k s x ls ih => ?_
  have key : ∀ l : List Tm, (∀ t ∈ l, 1 ≤ Tm.sz t) → 0 ≤ Tms.sz l := by
    intro l
    induction l with
    | nil => intro _; unfold Tms.sz; omega
    | cons t ts iht =>
      intro h
      unfold Tms.sz
      have := h t (by simp)
      have := iht fun u hu => h u (List.mem_cons_of_mem _ hu)
      omega
  have := key ls ih
  unfold Tm.sz
  split <;> omega
theorem szs_pos : ∀ l, 0 ≤ Tms.sz l
  | [] => by unfold Tms.sz; omega
  | t :: ts => by
    have := sz_pos t
    have := szs_pos ts
    unfold Tms.sz
    omega
theorem sizeN_sz : ∀ t m, (Tm.sz t ≤ m → Tm.sizeN t m = Tm.sz t) ∧ (m < Tm.sz t → m < Tm.sizeN t m) := by
  refine Tm.ind fun k s x ls ih m => ?_
  have key : ∀ l : List Tm, (∀ t ∈ l, ∀ m, (Tm.sz t ≤ m → Tm.sizeN t m = Tm.sz t) ∧ (m < Tm.sz t → m < Tm.sizeN t m)) → ∀ n, (n + Tms.sz l ≤ m → Tms.sizeN l n m = n + Tms.sz l) ∧ (m < n + Tms.sz l → m < Tms.sizeN l n m) := by
    intro l
    induction l with
    | nil => intro _ n; unfold Tms.sizeN Tms.sz; omega
    | cons t ts iht =>
      intro h n
      unfold Tms.sizeN Tms.sz
      have h1 := h t (by simp) (m - n)
      have h2 := iht (fun u hu => h u (List.mem_cons_of_mem _ hu)) (n + Tm.sizeN t (m - n))
      have p1 := sz_pos t
      have p2 := szs_pos ts
      split
      · by_cases hz : Tm.sz t ≤ m - n
        · rw [h1.1 hz] at h2 ⊢
          omega
        · have := h1.2 (by omega)
          omega
      · omega
  have := key ls ih 1
  have p2 := szs_pos ls
  unfold Tm.sizeN Tm.sz
  split <;> omega
theorem dp_pos : ∀ t, 1 ≤ Tm.dp t := by
  refine Tm.ind fun k s x ls ih => ?_
  have key : ∀ l : List Tm, 0 ≤ Tms.dp l := by
    intro l
    induction l with
    | nil => unfold Tms.dp; omega
    | cons t ts iht => unfold Tms.dp; omega
  have := key ls
  unfold Tm.dp
  split <;> omega
theorem dps_pos : ∀ l, 0 ≤ Tms.dp l
  | [] => by unfold Tms.dp; omega
  | t :: ts => by
    have := dps_pos ts
    unfold Tms.dp
    omega
theorem depN_dp : ∀ t m, 0 ≤ m → (Tm.dp t ≤ m → Tm.depN t m = Tm.dp t) ∧ (m < Tm.dp t → m < Tm.depN t m) := by
  refine Tm.ind fun k s x ls ih m hm => ?_
  have key : ∀ l : List Tm, (∀ t ∈ l, ∀ m, 0 ≤ m → (Tm.dp t ≤ m → Tm.depN t m = Tm.dp t) ∧ (m < Tm.dp t → m < Tm.depN t m)) → ∀ m d, 0 ≤ m → 0 ≤ d → (Tms.dp l ≤ m → Tms.depN l d m = max d (Tms.dp l)) ∧ (m < max d (Tms.dp l) → m < Tms.depN l d m) := by
    intro l
    induction l with
    | nil => intro _ m d _ hd; unfold Tms.depN Tms.dp; omega
    | cons t ts iht =>
      intro h m d hm hd
      unfold Tms.depN Tms.dp
      have h1 := h t (by simp) m hm
      have h2 := iht (fun u hu => h u (List.mem_cons_of_mem _ hu)) m (if d < Tm.depN t m then Tm.depN t m else d) hm (by have := (depN_le t m).1; split <;> omega)
      have p1 := dp_pos t
      have p2 := dps_pos ts
      generalize Tms.depN ts _ m = z at *
      split at h2
      · omega
      · omega
  have p2 := dps_pos ls
  unfold Tm.depN Tm.dp
  by_cases h : m ≤ 0 ∨ k ≠ 4
  · rw [if_pos h]
    split <;> omega
  · rw [if_neg h, if_pos (by omega)]
    have h2 := key ls ih (m - 1) 0 (by omega) (by omega)
    omega
theorem plainN_pl : ∀ t m, Tm.dp t ≤ m → (Tm.plainN t m = true ↔ Tm.pl t) := by
  refine Tm.ind fun k s x ls ih m hm => ?_
  have key : ∀ l : List Tm, (∀ t ∈ l, ∀ m, Tm.dp t ≤ m → (Tm.plainN t m = true ↔ Tm.pl t)) → ∀ m, Tms.dp l ≤ m → (Tms.plainN l m = true ↔ Tms.pl l) := by
    intro l
    induction l with
    | nil => intro _ m _; unfold Tms.plainN Tms.pl; simp
    | cons t ts iht =>
      intro h m hm
      unfold Tms.dp at hm
      unfold Tms.plainN Tms.pl
      have h1 := h t (by simp) m (by omega)
      have h2 := iht (fun u hu => h u (List.mem_cons_of_mem _ hu)) m (by omega)
      by_cases hp : Tm.plainN t m = true
      · rw [if_pos hp]
        exact ⟨fun h => ⟨h1.1 hp, h2.1 h⟩, fun h => h2.2 h.2⟩
      · rw [if_neg hp]
        exact ⟨fun h => (by cases h), fun h => absurd (h1.2 h.1) hp⟩
  have hd := dp_pos (.mk k s x ls)
  have hk := key ls ih (m - 1)
  unfold Tm.dp at hm hd
  unfold Tm.plainN Tm.pl
  rw [if_neg (by omega)]
  by_cases k1 : k = 1
  · subst k1; simp
  by_cases k2 : k = 2
  · subst k2; simp
  by_cases k3 : k = 3
  · subst k3; simp
  by_cases k4 : k = 4
  · subst k4
    rw [if_pos rfl] at hm
    have hk := hk (by omega)
    simp only [show ¬ (4 : Int) = 1 by decide, show ¬ (4 : Int) = 2 by decide, show ¬ (4 : Int) = 3 by decide, if_false, if_true, false_and, false_or, true_and]
    by_cases hl : 64 < s.size ∨ ls.length < 1 ∨ 8 < ls.length
    · rw [if_pos hl]
      exact ⟨fun h => (by cases h), fun h => by omega⟩
    · rw [if_neg hl, hk]
      exact ⟨fun h => ⟨by omega, by omega, by omega, h⟩, fun h => h.2.2.2⟩
  · simp [k1, k2, k3, k4]
/-- A term is right just if it is small, shallow and plain. -/
theorem rightN_iff (t : Tm) : Tm.rightN t = true ↔ Tm.sz t ≤ 2000 ∧ Tm.dp t ≤ 100 ∧ Tm.pl t := by
  have h1 := sizeN_sz t 2000
  have h2 := depN_dp t 101 (by decide)
  unfold Tm.rightN
  rw [Bool.and_eq_true, Bool.and_eq_true, decide_eq_true_iff, decide_eq_true_iff]
  have e1 : Tm.sizeN t 2000 ≤ 2000 ↔ Tm.sz t ≤ 2000 := by omega
  have e2 : Tm.depN t 101 ≤ 100 ↔ Tm.dp t ≤ 100 := by omega
  rw [e1, e2]
  exact ⟨fun ⟨a, b, c⟩ => ⟨a, b, (plainN_pl t 100 b).1 c⟩, fun ⟨a, b, c⟩ => ⟨a, b, (plainN_pl t 100 b).2 c⟩⟩
/-! ### measure: depth, right?, size so far -/
mutual
def Tm.meas : Tm → Int → Int → Int × Bool × Int
  | .mk k s x ls, deep, n =>
    if 2000 < n + 1 ∨ 100 < deep then (0, false, n + 1) else if k = 1 then (1, decide (1 ≤ x), n + 1) else if k = 2 then (1, true, n + 1)
    else if k = 4 then (if ls.length < 1 ∨ 8 < ls.length then (0, false, n + 1) else Tms.meas ls (deep + 1) (n + 1) 0 (decide (s.size ≤ 64)))
    else if k = 3 then (1, decide (s.size ≤ 64), n + 1) else (0, false, n + 1)
def Tms.meas : List Tm → Int → Int → Int → Bool → Int × Bool × Int
  | [], _, n, d, b => (d + 1, b, n)
  | t :: ts, deep, n, d, b => if (Tm.meas t deep n).2.1 then Tms.meas ts deep (Tm.meas t deep n).2.2 (max d (Tm.meas t deep n).1) b else (0, false, (Tm.meas t deep n).2.2)
end
theorem meas_ok : ∀ t deep n, ((Tm.meas t deep n).2.1 = true ↔ n + Tm.sz t ≤ 2000 ∧ deep + Tm.dp t ≤ 101 ∧ Tm.pl t) ∧ ((Tm.meas t deep n).2.1 = true → (Tm.meas t deep n).1 = Tm.dp t ∧ (Tm.meas t deep n).2.2 = n + Tm.sz t) := by
  refine Tm.ind fun k s x ls ih deep n => ?_
  have key : ∀ l : List Tm, (∀ t ∈ l, ∀ deep n, ((Tm.meas t deep n).2.1 = true ↔ n + Tm.sz t ≤ 2000 ∧ deep + Tm.dp t ≤ 101 ∧ Tm.pl t) ∧ ((Tm.meas t deep n).2.1 = true → (Tm.meas t deep n).1 = Tm.dp t ∧ (Tm.meas t deep n).2.2 = n + Tm.sz t)) →
      ∀ deep n d b, 0 ≤ d → n ≤ 2000 → deep + d ≤ 101 → ((Tms.meas l deep n d b).2.1 = true ↔ n + Tms.sz l ≤ 2000 ∧ deep + Tms.dp l ≤ 101 ∧ Tms.pl l ∧ b = true) ∧ ((Tms.meas l deep n d b).2.1 = true → (Tms.meas l deep n d b).1 = max d (Tms.dp l) + 1 ∧ (Tms.meas l deep n d b).2.2 = n + Tms.sz l) := by
    intro l
    induction l with
    | nil =>
      intro _ deep n d b hd hn hdd
      unfold Tms.meas Tms.sz Tms.dp Tms.pl
      exact ⟨⟨fun h => ⟨by omega, by omega, trivial, h⟩, fun h => h.2.2.2⟩, fun _ => ⟨by show d + 1 = _; omega, by show n = _; omega⟩⟩
    | cons t ts iht =>
      intro h deep n d b hd hn hdd
      unfold Tms.meas Tms.sz Tms.dp Tms.pl
      obtain ⟨h1, h2⟩ := h t (by simp) deep n
      have p1 := szs_pos ts
      have p2 := dps_pos ts
      have p3 := dp_pos t
      by_cases hm : (Tm.meas t deep n).2.1 = true
      · rw [if_pos hm]
        obtain ⟨e1, e2⟩ := h2 hm
        obtain ⟨q1, q2, q3⟩ := h1.1 hm
        rw [e1, e2]
        obtain ⟨r1, r2⟩ := iht (fun u hu => h u (List.mem_cons_of_mem _ hu)) deep (n + Tm.sz t) (max d (Tm.dp t)) b (by omega) (by omega) (by omega)
        refine ⟨⟨fun h => ?_, fun h => ?_⟩, fun h => ?_⟩
        · obtain ⟨a1, a2, a3, a4⟩ := r1.1 h
          exact ⟨by omega, by omega, ⟨q3, a3⟩, a4⟩
        · obtain ⟨a1, a2, ⟨_, a3⟩, a4⟩ := h
          exact r1.2 ⟨by omega, by omega, a3, a4⟩
        · obtain ⟨a1, a2⟩ := r2 h
          exact ⟨by rw [a1]; omega, by rw [a2]; omega⟩
      · rw [if_neg hm]
        refine ⟨⟨fun h => (by cases h), fun h => ?_⟩, fun h => (by cases h)⟩
        obtain ⟨a1, a2, ⟨a3, _⟩, _⟩ := h
        exact absurd (h1.2 ⟨by omega, by omega, a3⟩) hm
  have p1 := szs_pos ls
  have p2 := dps_pos ls
  unfold Tm.meas Tm.sz Tm.dp Tm.pl
  by_cases h0 : 2000 < n + 1 ∨ 100 < deep
  · rw [if_pos h0]
    refine ⟨⟨fun h => (by cases h), fun h => ?_⟩, fun h => (by cases h)⟩
    exfalso
    split at h <;> omega
  rw [if_neg h0]
  by_cases k1 : k = 1
  · subst k1
    simp
    omega
  by_cases k2 : k = 2
  · subst k2
    simp
    omega
  by_cases k4 : k = 4
  · subst k4
    rw [if_neg k1, if_neg k2, if_pos rfl]
    by_cases hl : ls.length < 1 ∨ 8 < ls.length
    · rw [if_pos hl]
      refine ⟨⟨fun h => (by cases h), fun h => ?_⟩, fun h => (by cases h)⟩
      obtain ⟨_, _, h⟩ := h
      omega
    · rw [if_neg hl]
      obtain ⟨r1, r2⟩ := key ls ih (deep + 1) (n + 1) 0 (decide (s.size ≤ 64)) (by omega) (by omega) (by omega)
      simp only [if_true]
      refine ⟨⟨fun h => ?_, fun h => ?_⟩, fun h => ?_⟩
      · obtain ⟨a1, a2, a3, a4⟩ := r1.1 h
        exact ⟨by omega, by omega, .inr (.inr (.inr ⟨trivial, of_decide_eq_true a4, by omega, by omega, a3⟩))⟩
      · obtain ⟨a1, a2, a3⟩ := h
        rcases a3 with a3 | a3 | a3 | ⟨_, c1, c2, c3, c4⟩
        · omega
        · omega
        · omega
        · exact r1.2 ⟨by omega, by omega, c4, decide_eq_true c1⟩
      · obtain ⟨a1, a2⟩ := r2 h
        exact ⟨by rw [a1]; omega, by rw [a2]; omega⟩
  by_cases k3 : k = 3
  · subst k3
    simp
    omega
  · simp [k1, k2, k3, k4]
theorem meas_right (t : Tm) : (Tm.meas t 1 0).2.1 = Tm.rightN t := by
  have h1 := (meas_ok t 1 0).1
  have h2 := rightN_iff t
  rw [Bool.eq_iff_iff, h1, h2]
  constructor
  · rintro ⟨a, b, c⟩; exact ⟨by omega, by omega, c⟩
  · rintro ⟨a, b, c⟩; exact ⟨by omega, by omega, c⟩
end Go.Proofs.Ytamiidklcadkmaa
