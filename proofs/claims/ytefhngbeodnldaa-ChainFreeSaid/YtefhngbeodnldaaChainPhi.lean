/- Layer 5, plain: of operations under way one is over within so many steps. No program in sight. -/
import Derived.Test.YtefhngbeodnldaaChainSeq
set_option linter.unusedVariables false
set_option linter.unusedSimpArgs false
namespace Go.Proofs.Ytefhngbeodnldaa
open Go.RowKit Go.PM
def sum9 (f : Nat → Nat) : Nat := f 0 + f 1 + f 2 + f 3 + f 4 + f 5 + f 6 + f 7 + f 8
theorem sum9_at {f g : Nat → Nat} {t : Nat} (ht : t < 9) (k j : Nat) (h : ∀ i, i ≠ t → f i ≤ g i) (h2 : f t + k ≤ g t + j) : sum9 f + k ≤ sum9 g + j := by
  unfold sum9
  have hh : ∀ i, i < 9 → i ≠ t → f i ≤ g i := fun i _ hi => h i hi
  have h0 := h 0
  have h1 := h 1
  have h2' := h 2
  have h3 := h 3
  have h4 := h 4
  have h5 := h 5
  have h6 := h 6
  have h7 := h 7
  have h8 := h 8
  match t, ht with
  | 0, _ => have := h1 (by decide); have := h2' (by decide); have := h3 (by decide); have := h4 (by decide); have := h5 (by decide); have := h6 (by decide); have := h7 (by decide); have := h8 (by decide); omega
  | 1, _ => have := h0 (by decide); have := h2' (by decide); have := h3 (by decide); have := h4 (by decide); have := h5 (by decide); have := h6 (by decide); have := h7 (by decide); have := h8 (by decide); omega
  | 2, _ => have := h0 (by decide); have := h1 (by decide); have := h3 (by decide); have := h4 (by decide); have := h5 (by decide); have := h6 (by decide); have := h7 (by decide); have := h8 (by decide); omega
  | 3, _ => have := h0 (by decide); have := h1 (by decide); have := h2' (by decide); have := h4 (by decide); have := h5 (by decide); have := h6 (by decide); have := h7 (by decide); have := h8 (by decide); omega
  | 4, _ => have := h0 (by decide); have := h1 (by decide); have := h2' (by decide); have := h3 (by decide); have := h5 (by decide); have := h6 (by decide); have := h7 (by decide); have := h8 (by decide); omega
  | 5, _ => have := h0 (by decide); have := h1 (by decide); have := h2' (by decide); have := h3 (by decide); have := h4 (by decide); have := h6 (by decide); have := h7 (by decide); have := h8 (by decide); omega
  | 6, _ => have := h0 (by decide); have := h1 (by decide); have := h2' (by decide); have := h3 (by decide); have := h4 (by decide); have := h5 (by decide); have := h7 (by decide); have := h8 (by decide); omega
  | 7, _ => have := h0 (by decide); have := h1 (by decide); have := h2' (by decide); have := h3 (by decide); have := h4 (by decide); have := h5 (by decide); have := h6 (by decide); have := h8 (by decide); omega
  | 8, _ => have := h0 (by decide); have := h1 (by decide); have := h2' (by decide); have := h3 (by decide); have := h4 (by decide); have := h5 (by decide); have := h6 (by decide); have := h7 (by decide); omega
theorem sum9_le {f g : Nat → Nat} (h : ∀ i, i < 9 → f i ≤ g i) : sum9 f ≤ sum9 g := by
  unfold sum9
  have := h 0 (by decide); have := h 1 (by decide); have := h 2 (by decide); have := h 3 (by decide); have := h 4 (by decide); have := h 5 (by decide); have := h 6 (by decide); have := h 7 (by decide); have := h 8 (by decide)
  omega
theorem sum9_add (f g : Nat → Nat) : sum9 (fun i => f i + g i) = sum9 f + sum9 g := by simp only [sum9]; omega
theorem sum9_mul (k : Nat) (f : Nat → Nat) : sum9 (fun i => k * f i) = k * sum9 f := by simp only [sum9, Nat.mul_add]
theorem sum9_one {f : Nat → Nat} {t : Nat} (ht : t < 9) : f t ≤ sum9 f := by
  unfold sum9
  match t, ht with
  | 0, _ => omega
  | 1, _ => omega
  | 2, _ => omega
  | 3, _ => omega
  | 4, _ => omega
  | 5, _ => omega
  | 6, _ => omega
  | 7, _ => omega
  | 8, _ => omega
theorem sum9_le2 {f g : Nat → Nat} (t : Nat) (h : ∀ i, i ≠ t → f i ≤ g i) (h2 : f t ≤ g t) : sum9 f ≤ sum9 g := sum9_le (fun i _ => by
  by_cases hi : i = t
  · subst hi; exact h2
  · exact h i hi)
def liv (L : LV) (i : Nat) : Nat := match L.op i with | none => 0 | some _ => 1
def und (L : LV) (i : Nat) : Nat := match L.op i with | none => 0 | some O => if O.done = true then 0 else 1
def cs (M : Nat) (ks : List Int) (L : LV) (i : Nat) : Nat := match L.op i with | none => 0 | some O => cst M ks O
/-- Steps at most. -/
def phi (M : Nat) (ks : List Int) (L : LV) : Nat := sum9 (cs M ks L) + (2 * M + 10) * (sum9 (und L) * (sum9 (liv L) - 1))
theorem und_le (L : LV) (i : Nat) : und L i ≤ liv L i := by
  unfold und liv
  split
  · exact Nat.le_refl _
  · split <;> omega
theorem cst_more (M : Nat) (ks ks' : List Int) (O : CO) : cst M ks' O ≤ cst M ks O + (2 * M + 10) := by
  unfold cst
  split <;> split <;> omega
section
variable {M : Nat} {N : Int} {r : Int → Role} {ks : List Int} {L : LV} {t : Nat} {O : CO}
theorem liv_at (h : L.op t = some O) : liv L t = 1 := by unfold liv; rw [h]
theorem und_at (h : L.op t = some O) : und L t = if O.done = true then 0 else 1 := by unfold und; rw [h]
theorem cs_at (h : L.op t = some O) : cs M ks L t = cst M ks O := by unfold cs; rw [h]
theorem other_at {L2 : LV} {x : Option CO} (h : L2.op = upd L.op t x) {i : Nat} (hi : i ≠ t) : L2.op i = L.op i := by rw [h, upd_ne _ _ hi]
theorem phi_step (h : GI M N r ks L) (hv : L.V.Ok) (ht : t < 9) (ho : L.op t = some O) (hn : (stO L.V L.Y L.B O).next ≠ 11) : ∃ ks', (L.step t O).V.find L.B.block = some ks' ∧ phi M ks' (L.step t O) + 1 ≤ phi M ks L ∧ sum9 (liv (L.step t O)) = sum9 (liv L) := by
  obtain ⟨ks', hl⟩ := h.less hv ht ho
  have hop := next_op ht ho hn
  obtain ⟨sV, -, -, -⟩ := step_V L t O
  refine ⟨ks', by rw [sV]; exact hl.blk, ?_, ?_⟩
  · have hlv : sum9 (liv (L.step t O)) = sum9 (liv L) := by
      refine Nat.le_antisymm (sum9_le2 t (fun i hi => ?_) ?_) (sum9_le2 t (fun i hi => ?_) ?_)
      · unfold liv; rw [other_at hop hi]; exact Nat.le_refl _
      · unfold liv; rw [hop, upd_same, ho]; exact Nat.le_refl _
      · unfold liv; rw [other_at hop hi]; exact Nat.le_refl _
      · unfold liv; rw [hop, upd_same, ho]; exact Nat.le_refl _
    have hmine : (L.step t O).op t = some (stO L.V L.Y L.B O) := by rw [hop, upd_same]
    unfold phi
    rw [hlv]
    rcases hl.less with h1 | ⟨h1, h2⟩ | ⟨h1, h2, h3⟩
    · exact absurd h1 hn
    · subst h1
      have hs : sum9 (cs M ks' (L.step t O)) + 1 ≤ sum9 (cs M ks' L) + 0 := sum9_at ht 1 0 (fun i hi => by unfold cs; rw [other_at hop hi]; exact Nat.le_refl _) (by rw [cs_at hmine, cs_at ho]; omega)
      have hu : sum9 (und (L.step t O)) + 0 ≤ sum9 (und L) + 0 := sum9_at ht 0 0 (fun i hi => by unfold und; rw [other_at hop hi]; exact Nat.le_refl _) (by
        rw [und_at hmine, und_at ho]
        cases hd : O.done with
        | true => rw [hl.keep hd]; exact Nat.le_refl _
        | false => rw [if_neg (show ¬ false = true by decide)]; split <;> omega)
      have := Nat.mul_le_mul_left (2 * M + 10) (Nat.mul_le_mul_right (sum9 (liv L) - 1) hu)
      simp only [Nat.add_zero] at this hs
      omega
    · -- what others lose
      have hu : sum9 (und (L.step t O)) + 1 ≤ sum9 (und L) + 0 := sum9_at ht 1 0 (fun i hi => by unfold und; rw [other_at hop hi]; exact Nat.le_refl _) (by
        rw [und_at hmine, und_at ho, h1, h2]; simp)
      have hoth : sum9 (fun i => if i = t then 0 else liv L i) + 1 ≤ sum9 (liv L) + 0 := sum9_at ht 1 0 (fun i hi => by rw [if_neg hi]; exact Nat.le_refl _) (by rw [if_pos rfl, liv_at ho]; omega)
      have hs : sum9 (cs M ks' (L.step t O)) + 1 ≤ sum9 (fun i => cs M ks L i + (2 * M + 10) * (if i = t then 0 else liv L i)) + 0 := sum9_at ht 1 0 (fun i hi => by
          simp only [if_neg hi]
          unfold cs liv
          rw [other_at hop hi]
          cases hx : L.op i with
          | none => exact Nat.zero_le _
          | some O2 => simp only [Nat.mul_one]; exact cst_more M ks ks' O2) (by
        rw [cs_at hmine, cs_at ho, if_pos rfl]; omega)
      rw [sum9_add, sum9_mul] at hs
      simp only [Nat.add_zero] at hs hu hoth
      generalize sum9 (fun i => if i = t then 0 else liv L i) = b at *
      generalize sum9 (liv L) = n at *
      generalize sum9 (und L) = u at *
      generalize sum9 (und (L.step t O)) = u' at *
      generalize sum9 (cs M ks L) = a at *
      generalize sum9 (cs M ks' (L.step t O)) = a' at *
      generalize 2 * M + 10 = C at *
      have h1 : C * b ≤ C * (n - 1) := Nat.mul_le_mul_left C (by omega)
      have h2 : C * ((u' + 1) * (n - 1)) ≤ C * (u * (n - 1)) := Nat.mul_le_mul_left C (Nat.mul_le_mul_right _ hu)
      rw [Nat.add_mul, Nat.one_mul, Nat.mul_add] at h2
      omega
  · refine Nat.le_antisymm (sum9_le2 t (fun i hi => ?_) ?_) (sum9_le2 t (fun i hi => ?_) ?_)
    · unfold liv; rw [other_at hop hi]; exact Nat.le_refl _
    · unfold liv; rw [hop, upd_same, ho]; exact Nat.le_refl _
    · unfold liv; rw [other_at hop hi]; exact Nat.le_refl _
    · unfold liv; rw [hop, upd_same, ho]; exact Nat.le_refl _
theorem phi_le (h : GI M N r ks L) : phi M ks L ≤ (2 * M + 10) * (sum9 (liv L) * (sum9 (liv L) + 1)) := by
  have h1 : sum9 (cs M ks L) ≤ sum9 (fun i => (2 * (2 * M + 10)) * liv L i) := sum9_le (fun i hi => by
    unfold cs liv
    cases hx : L.op i with
    | none => exact Nat.zero_le _
    | some O =>
      have := (h.op i O hi hx).2.cost_le
      simp only [Nat.mul_one]
      unfold cst
      split <;> omega)
  rw [sum9_mul] at h1
  have h2 : sum9 (und L) ≤ sum9 (liv L) := sum9_le (fun i _ => und_le L i)
  unfold phi
  generalize sum9 (liv L) = n at *
  generalize sum9 (und L) = u at *
  generalize sum9 (cs M ks L) = a at *
  generalize 2 * M + 10 = C at *
  have h3 : C * (u * (n - 1)) ≤ C * (n * (n - 1)) := Nat.mul_le_mul_left C (Nat.mul_le_mul_right _ h2)
  have h4 : C * (n * (n + 1)) = C * (n * (n - 1)) + 2 * C * n := by
    cases n with
    | zero => simp
    | succ k =>
      show C * ((k + 1) * (k + 1 + 1)) = C * ((k + 1) * k) + 2 * C * (k + 1)
      rw [show (k + 1) * (k + 1 + 1) = (k + 1) * k + 2 * (k + 1) by rw [Nat.mul_add (k + 1) (k + 1) 1, Nat.mul_add (k + 1) k 1]; omega, Nat.mul_add, Nat.mul_comm 2 C, Nat.mul_assoc]
  omega
theorem phi_pos (ht : t < 9) (ho : L.op t = some O) : 1 ≤ phi M ks L := by
  have h1 := sum9_one (f := cs M ks L) ht
  rw [cs_at ho] at h1
  have h2 := cst_le M ks O
  have h3 : 1 ≤ cost M O := by
    unfold cost
    repeat' split
    all_goals omega
  unfold phi
  omega
/-- It is over: one less. -/
theorem liv_over (ht : t < 9) (ho : L.op t = some O) (hn : (stO L.V L.Y L.B O).next = 11) : sum9 (liv (L.step t O)) + 1 = sum9 (liv L) ∧ (L.step t O).op = upd L.op t none := by
  have hop : (L.step t O).op = upd L.op t none := by
    unfold LV.step
    rw [if_pos hn]
  refine ⟨?_, hop⟩
  have livn : liv (L.step t O) t = 0 := by unfold liv; rw [hop, upd_same]
  have h1 : sum9 (liv (L.step t O)) + 1 ≤ sum9 (liv L) + 0 := sum9_at ht 1 0 (fun i hi => by unfold liv; rw [other_at hop hi]; exact Nat.le_refl _) (by rw [liv_at ho, livn]; omega)
  have h2 : sum9 (liv L) + 0 ≤ sum9 (liv (L.step t O)) + 1 := sum9_at ht 0 1 (fun i hi => by unfold liv; rw [other_at hop hi]; exact Nat.le_refl _) (by rw [liv_at ho, livn]; omega)
  omega
theorem effM_grow (m : RB) (A : AskV) (c : Nat) : ((effM m A).getD c ([], 0)).1.length ≤ (m.getD c ([], 0)).1.length + 1 := by
  have key : ∀ (i : Nat) (p : List Int × Int), (i < m.length → p.1.length ≤ (m.getD i ([], 0)).1.length + 1) → ((m.set i p).getD c ([], 0)).1.length ≤ (m.getD c ([], 0)).1.length + 1 := fun i p hp => by
    by_cases hic : i = c
    · subst hic
      by_cases hi : i < m.length
      · rw [List.getD_eq_getElem?_getD, List.getElem?_set_self hi]; exact hp hi
      · rw [List.set_eq_of_length_le (by omega)]; omega
    · rw [getD_set_ne _ _ _ hic]; omega
  unfold effM
  split
  · split
    · refine key _ _ (fun _ => ?_)
      show (addL (mAt m A).1 A.v _).length ≤ _
      unfold addL mAt
      split <;> simp
    · split
      · split
        · refine key _ _ (fun _ => ?_)
          show ((mAt m A).1.erase A.v).length ≤ _
          have := List.length_erase_le (a := A.v) (l := (mAt m A).1)
          unfold mAt at this ⊢
          omega
        · omega
      · omega
  · omega
/-- Room for all that is to come: lists and what is under way. -/
def Bud (M : Nat) (L : LV) : Prop := ∀ c, c < L.m.length → (L.m.getD c ([], 0)).1.length + sum9 (und L) ≤ M
theorem Bud.step (h : Bud M L) (ht : t < 9) (ho : L.op t = some O) (hk : O.done = true → (stO L.V L.Y L.B O).done = true) : Bud M (L.step t O) := by
  have hop : ∀ i, i ≠ t → (L.step t O).op i = L.op i := fun i hi => by
    by_cases hn : (stO L.V L.Y L.B O).next = 11
    · rw [(liv_over ht ho hn).2, upd_ne _ _ hi]
    · rw [next_op ht ho hn, upd_ne _ _ hi]
  have hmy : (L.step t O).op t = none ∨ (L.step t O).op t = some (stO L.V L.Y L.B O) := by
    by_cases hn : (stO L.V L.Y L.B O).next = 11
    · exact .inl (by rw [(liv_over ht ho hn).2, upd_same])
    · exact .inr (by rw [next_op ht ho hn, upd_same])
  by_cases he : O.done = false ∧ (stO L.V L.Y L.B O).done = true
  · obtain ⟨e1, -⟩ := step_e (L := L) (t := t) (O := O) he
    have hu : sum9 (und (L.step t O)) + 1 ≤ sum9 (und L) + 0 := sum9_at ht 1 0 (fun i hi => by unfold und; rw [hop i hi]; exact Nat.le_refl _) (by
      rw [und_at ho, he.1]
      rcases hmy with hm | hm
      · unfold und; rw [hm]; simp
      · rw [und_at hm, he.2]; simp)
    intro c hc
    rw [e1] at hc ⊢
    have h1 := effM_grow L.m (L.what t) c
    rw [effM_len] at hc
    have h2 := h c hc
    omega
  · obtain ⟨e1, -⟩ := step_m (L := L) (t := t) (O := O) he
    have hu : sum9 (und (L.step t O)) + 0 ≤ sum9 (und L) + 0 := sum9_at ht 0 0 (fun i hi => by unfold und; rw [hop i hi]; exact Nat.le_refl _) (by
      rw [und_at ho]
      rcases hmy with hm | hm
      · unfold und; rw [hm]; exact Nat.zero_le _
      · rw [und_at hm]
        cases hd : O.done with
        | true => rw [hk hd]; exact Nat.le_refl _
        | false => rw [if_neg (show ¬ false = true by decide)]; split <;> omega)
    intro c hc
    rw [e1] at hc ⊢
    have h2 := h c hc
    omega
theorem Bud.one (h : Bud M L) (ht : t < 9) (ho : L.op t = some O) (hd : O.done = false) : ∀ c, c < L.m.length → (L.m.getD c ([], 0)).1.length + 1 ≤ M := fun c hc => by
  have h1 := h c hc
  have h2 := sum9_one (f := und L) ht
  rw [und_at ho, hd, if_neg (by decide)] at h2
  omega
end
theorem GI.shrink {M : Nat} {N : Int} {r : Int → Role} {ks : List Int} {L : LV} (h : GI 200 N r ks L) (hop : ∀ i, L.op i = none) (hM : M ≤ 200) (hl : ∀ c, c < L.m.length → (L.m.getD c ([], 0)).1.length ≤ M) : GI M N r ks L := by
  refine ⟨hM, h.bd, h.bound, h.f0, h.ent, h.lim, h.snow, h.blk, h.blkr, h.len, h.chs, h.m64, fun c hc => ?_, fun t O _ ho => ?_, h.idle⟩
  · rcases h.ch c hc with h1 | ⟨h1, h2, h3, h4, h5⟩
    · exact .inl h1
    · exact .inr ⟨h1, h2, h3, hl c hc, h5⟩
  · rw [hop] at ho; cases ho
end Go.Proofs.Ytefhngbeodnldaa
