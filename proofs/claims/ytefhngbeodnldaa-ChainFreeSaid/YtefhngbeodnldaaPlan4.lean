/- Plans for regions that draw their order, widest, the last operation free of the promise: under a promise about memory that every operation keeps, an operation whose value is the same wherever the promise holds may be taken early. -/
import Derived.Test.YtefhngbeodnldaaPlan3
set_option linter.unusedVariables false
set_option linter.unusedSimpArgs false
namespace Go.PM
open Go
section
variable {P : Program} {ops : Array Oper} {Q : Exit → Act → World → Prop} {md : Region.Mode} {I : World → Prop} {z : Nat}
/-- As wpAny, the promise kept by every operation. -/
def wpAnyZ (P : Program) (md : Region.Mode) (ops : Array Oper) (Q : Exit → Act → World → Prop) (I : World → Prop) (z : Nat) : Nat → Array Bool → Act → World → Prop
  | 0, listed, a, w => Region.ready md ops listed = [] ∧ Q .normal a w
  | fuel + 1, listed, a, w =>
    (Region.ready md ops listed = [] → Q .normal a w) ∧
    ∀ i ∈ Region.ready md ops listed, wpOp P ops Q i (fun a' w' => (i ≠ z → I w') ∧ wpAnyZ P md ops Q I z fuel (listed.setIfInBounds i true) a' w') a w
theorem wpAnyZ.any : ∀ (fuel : Nat) (listed : Array Bool) (a : Act) (w : World), wpAnyZ P md ops Q I z fuel listed a w → wpAny P md ops Q fuel listed a w
  | 0, _, _, _, h => h
  | fuel + 1, listed, a, w, h => ⟨h.1, fun i hi => wpOp_mono (fun a' w' h' => wpAnyZ.any fuel _ a' w' h'.2) (h.2 i hi)⟩
/-- It may be taken first, whoever else may come, if only apart from it. -/
theorem wpAnyZ_early {i : Nat} {oi : Oper} {v : Value} {B : List Nat} (hi : ops[i]? = some oi) (hsel : ∀ (j : Nat) (o : Oper) cs b, ops[j]? = some o → o.op ≠ .select cs b)
    (hQ : ∀ c a w, Q (.panic c) (a.put oi.dst v) w → Q (.panic c) a w)
    (hB : ∀ j ∈ B, j ≠ i ∧ ∃ oj, ops[j]? = some oj ∧ ∃ e ∈ oj.after, Region.binds md e = true ∧ (e.on = i ∨ e.on ∈ B))
    (hz : z ∈ B ∨ ops.size ≤ z) :
    ∀ (fuel : Nat) (listed : Array Bool) (a : Act) (w : World),
      (∀ j ∈ B, listed.getD j true = false) →
      (∀ j oj, ops[j]? = some oj → j ≠ i → j ∉ B → listed.getD j true = false → oi.apart ops oj = true) →
      i ∈ Region.ready md ops listed → I w → (∀ w1, I w1 → YieldsTo P ops w1 oi v a) →
      wpAnyZ P md ops Q I z fuel (listed.setIfInBounds i true) (a.put oi.dst v) w → wpAnyZ P md ops Q I z (fuel + 1) listed a w := by
  intro fuel
  induction fuel with
  | zero =>
    intro listed a w _ _ hr hI hy H
    refine ⟨fun h => (by rw [h] at hr; cases hr), fun j hj => ?_⟩
    by_cases hji : j = i
    · subst hji; exact YieldsTo.wpOp hi (hy w hI) ⟨fun _ => hI, H⟩
    · have := ready_mono hj hji
      rw [H.1] at this
      cases this
  | succ fuel ih =>
    intro listed a w hBu hfree hr hI hy H
    refine ⟨fun h => (by rw [h] at hr; cases hr), fun j hj => ?_⟩
    by_cases hji : j = i
    · subst hji; exact YieldsTo.wpOp hi (hy w hI) ⟨fun _ => hI, H⟩
    · have h1 := H.2 j (ready_mono hj hji)
      obtain ⟨hjun, oj, hoj, hall⟩ := mem_ready.1 hj
      have hjB : j ∉ B := by
        intro hmem
        obtain ⟨_, oj', hoj', e, he, hb, hon⟩ := hB j hmem
        obtain rfl : oj' = oj := Option.some.inj (hoj'.symm.trans hoj)
        have h3 := hall e he hb
        have hun : listed.getD e.on true = false := by
          rcases hon with h4 | h4
          · rw [h4]; exact (mem_ready.1 hr).1
          · exact hBu _ h4
        rw [getD_low hun] at h3
        cases h3
      have hap := hfree j oj hoj hji hjB hjun
      have h2 := wpOp_put_in hoj hap (fun cs b => hsel i oi cs b hi) (fun cs b => hsel j oj cs b hoj) hQ hy h1
      have hBu' : ∀ k ∈ B, (listed.setIfInBounds j true).getD k true = false := fun k hk => by
        have hne : j ≠ k := fun e => hjB (e ▸ hk)
        rw [getD_set_ne true hne]
        exact hBu k hk
      have hfree' : ∀ k ok, ops[k]? = some ok → k ≠ i → k ∉ B → (listed.setIfInBounds j true).getD k true = false → oi.apart ops ok = true := fun k ok hk hki hkB hun => by
        refine hfree k ok hk hki hkB ?_
        by_cases hjk : j = k
        · subst hjk; exact hjun
        · rw [getD_set_ne true hjk] at hun; exact hun
      refine wpOp_mono (fun a' w' h3 => ?_) h2
      obtain ⟨h4, h5, h6⟩ := h3
      have h5 := h5 (fun e => by
        rcases hz with hz | hz
        · exact hjB (e ▸ hz)
        · have := (Array.getElem?_eq_some_iff.1 hoj).1
          omega)
      refine ⟨fun _ => h5, ih (listed.setIfInBounds j true) a' w' hBu' hfree' (ready_mono hr (Ne.symm hji)) h5 h4 ?_⟩
      rw [Array.setIfInBounds_comm _ _ hji]
      exact h6
def planOk4 (md : Region.Mode) (ops : Array Oper) (z : Nat) : List Step → Array Bool → Bool
  | [], listed => (Region.ready md ops listed).isEmpty
  | (false, i, _) :: rest, listed => decide (Region.ready md ops listed = [i]) && (decide (i ≠ z) || rest.isEmpty) && planOk4 md ops z rest (listed.setIfInBounds i true)
  | (true, i, B) :: rest, listed =>
    (B.contains z || decide (ops.size ≤ z)) && (Region.ready md ops listed).contains i &&
    (match ops[i]? with
     | none => false
     | some oi =>
       (B.all fun j => decide (j ≠ i) && !listed.getD j true && (match ops[j]? with | none => false | some oj => oj.after.any fun e => Region.binds md e && (e.on == i || B.contains e.on))) &&
       ((List.range ops.size).all fun j => decide (j = i) || B.contains j || listed.getD j true || (match ops[j]? with | none => false | some oj => oi.apart ops oj))) &&
    planOk4 md ops z rest (listed.setIfInBounds i true)
/-- What is to be shown along a plan. -/
def wpPlan4 (P : Program) (ops : Array Oper) (Q : Exit → Act → World → Prop) (I : World → Prop) (z : Nat) : List Step → Act → World → Prop
  | [], a, w => Q .normal a w
  | (false, i, _) :: rest, a, w => wpList P ops (Exit.then (fun a' w' => (i ≠ z → I w') ∧ wpPlan4 P ops Q I z rest a' w') Q) ((ops[i]?).toList) a w
  | (true, i, _) :: rest, a, w => ∃ a', (∀ w1, I w1 → wpStill P ops w1 (fun b => b = a') ((ops[i]?).toList) a) ∧ wpPlan4 P ops Q I z rest a' w
theorem wpAny_of_plan4 (hsel : Region.noSelect ops = true) (hQ : ∀ c a w d v, Q (.panic c) (a.put d v) w → Q (.panic c) a w) :
    ∀ (l : List Step) (listed : Array Bool) (a : Act) (w : World), planOk4 md ops z l listed = true → (l ≠ [] → I w) → wpPlan4 P ops Q I z l a w → wpAnyZ P md ops Q I z l.length listed a w
  | [], listed, a, w, hB, hI, h => ⟨by simpa [planOk4] using hB, h⟩
  | (false, i, _) :: l, listed, a, w, hB, hI, h => by
    simp only [planOk4, Bool.and_eq_true, decide_eq_true_eq] at hB
    obtain ⟨⟨hB1, hBz⟩, hB2⟩ := hB
    refine ⟨fun h1 => (by rw [hB1] at h1; cases h1), fun j hj => ?_⟩
    rw [hB1] at hj
    have hji : j = i := by simpa using hj
    subst hji
    have hr : j ∈ Region.ready md ops listed := by rw [hB1]; simp
    obtain ⟨_, oj, hoj, _⟩ := mem_ready.1 hr
    simp only [wpPlan4, hoj, Option.toList_some] at h
    have hw : wpOp P ops Q j (fun a' w' => (j ≠ z → I w') ∧ wpPlan4 P ops Q I z l a' w') a w := by
      unfold wpOp
      simp only [hoj]
      unfold wpList at h
      split
      · rename_i hw
        rw [if_pos hw] at h
        rcases h with h | ⟨h1, h2⟩
        · left
          unfold Oper.wp at h ⊢
          generalize (execOp a.eval oj).run P w = r at h ⊢
          cases r with
          | ok n w' =>
            cases n <;> simp only [Oper.upon, wpList, Exit.then] at h ⊢ <;> first | exact h | (refine Calls.mono h fun e w'' he => ?_; cases e <;> first | exact he | skip)
          | halt x w' => cases x <;> simp only [Oper.upon, Exit.then] at h ⊢ <;> exact h
        · exact .inr ⟨h1, h2⟩
      · rename_i hw
        rw [if_neg hw] at h
        exact h
    exact wpOp_mono (fun a' w' h' => ⟨h'.1, wpAny_of_plan4 hsel hQ l _ a' w' hB2 (fun hl => h'.1 (by
      simp only [Bool.or_eq_true, decide_eq_true_eq, List.isEmpty_iff] at hBz
      exact hBz.resolve_right hl)) h'.2⟩) hw
  | (true, i, B) :: l, listed, a, w, hB, hI, h => by
    simp only [planOk4, Bool.and_eq_true] at hB
    obtain ⟨⟨⟨hz0, hr⟩, hmid⟩, hrest⟩ := hB
    have hz : z ∈ B ∨ ops.size ≤ z := by simpa using hz0
    have hI := hI (by simp)
    have hr' : i ∈ Region.ready md ops listed := by simpa using hr
    obtain ⟨_, oi, hoi, _⟩ := mem_ready.1 hr'
    simp only [hoi, Bool.and_eq_true] at hmid
    obtain ⟨hb1, hb2⟩ := hmid
    simp only [wpPlan4, hoi, Option.toList_some] at h
    obtain ⟨a', hall, hK⟩ := h
    have hst : ∀ w1, I w1 → ∃ v, YieldsAt P ops w1 oi v a ∧ a.put oi.dst v = a' := fun w1 h1 => by
      have hs : stOp P ops w1 i (fun b => b = a') a := by unfold stOp; simp only [hoi]; exact hall w1 h1
      exact yieldsAt_of_stOp hoi hs
    obtain ⟨v, hv, rfl⟩ := hst w hI
    have hB1 : ∀ j ∈ B, j ≠ i ∧ listed.getD j true = false ∧ ∃ oj, ops[j]? = some oj ∧ ∃ e ∈ oj.after, Region.binds md e = true ∧ (e.on = i ∨ e.on ∈ B) := by
      intro j hj
      have h1 := List.all_eq_true.1 hb1 j hj
      simp only [Bool.and_eq_true, decide_eq_true_eq, Bool.not_eq_true'] at h1
      obtain ⟨⟨h2, h3⟩, h4⟩ := h1
      cases hoj : ops[j]? with
      | none => rw [hoj] at h4; simp at h4
      | some oj =>
        rw [hoj] at h4
        obtain ⟨e, he, hbe⟩ := Array.any_eq_true'.1 h4
        simp only [Bool.and_eq_true, Bool.or_eq_true, beq_iff_eq, List.contains_iff_mem] at hbe
        exact ⟨h2, h3, oj, rfl, e, he, hbe.1, hbe.2⟩
    have hfree : ∀ j oj, ops[j]? = some oj → j ≠ i → j ∉ B → listed.getD j true = false → oi.apart ops oj = true := by
      intro j oj hoj hji hjB hun
      have hlt : j < ops.size := (Array.getElem?_eq_some_iff.1 hoj).1
      have h1 := List.all_eq_true.1 hb2 j (List.mem_range.2 hlt)
      simp only [Bool.or_eq_true, decide_eq_true_eq, List.contains_iff_mem, hoj] at h1
      rcases h1 with ((h1 | h1) | h1) | h1
      · exact absurd h1 hji
      · exact absurd h1 hjB
      · rw [hun] at h1; cases h1
      · exact h1
    exact wpAnyZ_early (B := B) hoi (Region.noSelect_spec hsel) (fun c a w => hQ c a w oi.dst v) (fun j hj => ⟨(hB1 j hj).1, (hB1 j hj).2.2⟩) hz l.length listed a w (fun j hj => (hB1 j hj).2.1) hfree hr' hI hst
      (wpAny_of_plan4 hsel hQ l _ _ w hrest (fun _ => hI) hK)
/-- A region that draws, walked along a plan. -/
theorem wp_region_plan4 {id : Nat} {a : Act} {w : World} {l : List Oper} (plan : List Step) (z : Nat) (I : World → Prop) (hm : P.follows .mixedOrders = true)
    (hB : (Region.noSelect l.toArray && decide (plan.length = l.toArray.size) && planOk4 .any l.toArray z plan (Array.replicate l.toArray.size false)) = true)
    (hQ : ∀ c a w d v, Q (.panic c) (a.put d v) w → Q (.panic c) a w) (hI : I w.drew)
    (h : wpPlan4 P l.toArray Q I z plan a w.drew) : (Code.region id l.toArray true).wp P Q a w := by
  simp only [Bool.and_eq_true, decide_eq_true_eq] at hB
  obtain ⟨⟨h1, h2⟩, h3⟩ := hB
  refine wp_region_any hm ?_
  have := (wpAny_of_plan4 h1 hQ plan _ a _ h3 (fun _ => hI) h).any
  rw [h2] at this
  exact this
theorem plan4_early {i : Nat} {B : List Nat} {rest : List Step} {a : Act} {w : World} {o : Oper} (a' : Act) (hi : ops[i]? = some o)
    (h : ∀ w1, I w1 → wpStill P ops w1 (fun b => b = a') [o] a) (h2 : wpPlan4 P ops Q I z rest a' w) : wpPlan4 P ops Q I z ((true, i, B) :: rest) a w := by
  simp only [wpPlan4, hi, Option.toList_some]; exact ⟨a', h, h2⟩
theorem plan4_big {i : Nat} {B : List Nat} {rest : List Step} {a : Act} {w : World} {o : Oper} (hi : ops[i]? = some o)
    (h : wpList P ops (Exit.then (fun a' w' => (i ≠ z → I w') ∧ wpPlan4 P ops Q I z rest a' w') Q) [o] a w) : wpPlan4 P ops Q I z ((false, i, B) :: rest) a w := by
  simp only [wpPlan4, hi, Option.toList_some]; exact h
theorem plan4_nil {a : Act} {w : World} (h : Q .normal a w) : wpPlan4 P ops Q I z [] a w := h
end
end Go.PM
