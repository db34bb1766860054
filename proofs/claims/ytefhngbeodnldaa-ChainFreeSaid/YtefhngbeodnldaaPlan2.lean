/- Plans for regions that draw their order, wider: an operation whose value does not hang on memory may be taken early beside calls that write. -/
import Derived.Test.YtefhngbeodnldaaPlan
set_option linter.unusedVariables false
set_option linter.unusedSimpArgs false
namespace Go.PM
open Go
/-- An operation whose value does not hang on memory. -/
def pureK (o : Oper) : Bool := match o.op with
  | .move _ | .assign _ | .pick _ _ _ | .extract _ _ => true
  | _ => false
/-- Its answer hangs not on the world, where it is a value. -/
def Same {α : Type} (P : Program) (s : Sem α) : Prop := ∀ w a w', s.run P w = .ok a w' → ∀ w1, s.run P w1 = .ok a w1
theorem Same.pure {α : Type} {P : Program} (a : α) : Same P (Pure.pure a : Sem α) := by
  intro w b w' h w1; simp at h ⊢; exact h.1
theorem Same.bind {α β : Type} {P : Program} {s : Sem α} {f : α → Sem β} (h : Same P s) (hf : ∀ a, Same P (f a)) : Same P (s >>= f) := by
  intro w b w' hr w1
  rw [Sem.run_bind] at hr ⊢
  cases hs : s.run P w with
  | ok a w2 =>
    rw [hs] at hr
    rw [h w a w2 hs w1]
    exact hf a w2 b w' hr w1
  | halt x w2 => rw [hs] at hr; simp at hr
theorem Same.no {α : Type} {P : Program} {s : Sem α} (h : No P s) : Same P s := fun w a w' hr => absurd hr (h w a w')
theorem Same.asBool {P : Program} (v : Value) : Same P (asBool v) := by
  unfold Go.asBool
  split
  · exact Same.pure _
  · exact Same.no (No.halt _)
theorem Same.extract {P : Program} (v : Value) (i : Nat) : Same P (Instr.extract v i) := by
  unfold Instr.extract
  split
  · split
    · exact Same.pure _
    · exact Same.no (No.halt _)
  · exact Same.no (No.halt _)
theorem pureK_ro {o : Oper} (h : pureK o = true) : roK o = true := by
  obtain ⟨dst, op, ty, pos, after, guard⟩ := o
  cases op <;> simp only [pureK, Bool.false_eq_true] at h <;> rfl
theorem pureK_run {P : Program} {ρ : Operand → Value} {o : Oper} (h : pureK o = true) {w w' : World} {n : Next} (hr : (execOp ρ o).run P w = .ok n w') : ∃ v, n = .value v ∧ ∀ w1, (execOp ρ o).run P w1 = .ok (.value v) w1 := by
  have key : ∀ s : Sem Value, Ro P s → Same P s → (do pure (.value (← s)) : Sem Next).run P w = .ok n w' → ∃ v, n = .value v ∧ ∀ w1, (do pure (.value (← s)) : Sem Next).run P w1 = .ok (.value v) w1 := by
    intro s hro hs hr
    rw [Sem.run_bind] at hr
    cases hx : s.run P w with
    | ok a w1 =>
      rw [hx] at hr
      simp at hr
      refine ⟨a, hr.1.symm, fun w2 => ?_⟩
      rw [Sem.run_bind, hs w a w1 hx w2]
      simp
    | halt x w1 => rw [hx] at hr; simp at hr
  obtain ⟨dst, op, ty, pos, after, guard⟩ := o
  cases op <;> simp only [pureK, Bool.false_eq_true] at h
  case move x => simp [execOp] at hr ⊢; exact hr.1.symm
  case assign x => simp [execOp] at hr ⊢; exact hr.1.symm
  case pick c a b =>
    have := key (do pure (if ← asBool (ρ c) then ρ a else ρ b)) ((Ro.asBool _).bind fun _ => Ro.pure _) ((Same.asBool _).bind fun _ => Same.pure _) (by simpa [execOp] using hr)
    simpa [execOp] using this
  case extract x i => exact key _ (Ro.extract (ρ x) i) (Same.extract (ρ x) i) hr
section
variable {P : Program} {ops : Array Oper} {Q : Exit → Act → World → Prop} {md : Region.Mode}
theorem YieldsAt.always {oi : Oper} (h : pureK oi = true) {v : Value} {a : Act} {w : World} (hy : YieldsAt P ops w oi v a) (w1 : World) : YieldsAt P ops w1 oi v a := by
  rcases hy with ⟨hw, hv | ⟨hv, rfl⟩ | ⟨f, args, hv, hc⟩⟩ | ⟨hw, rfl⟩
  · obtain ⟨u, hu, h2⟩ := pureK_run h hv
    injection hu with hu
    subst hu
    exact .inl ⟨hw, .inl (h2 w1)⟩
  · obtain ⟨u, hu, h2⟩ := pureK_run h hv
    cases hu
  · obtain ⟨u, hu, h2⟩ := pureK_run h hv
    cases hu
  · exact .inr ⟨hw, rfl⟩
/-- One whose value does not hang on memory, beside any other. -/
theorem wpOp_put_pure {j : Nat} {oi oj : Oper} {v : Value} {w : World} (hj : ops[j]? = some oj) (hpi : pureK oi = true) (hap : oi.apart ops oj = true)
    (hsi : ∀ cs b, oi.op ≠ .select cs b) (hsj : ∀ cs b, oj.op ≠ .select cs b)
    (hQ : ∀ c a w, Q (.panic c) (a.put oi.dst v) w → Q (.panic c) a w) {K : Act → World → Prop} {a : Act}
    (hy : YieldsAt P ops w oi v a) (h : wpOp P ops Q j K (a.put oi.dst v) w) :
    wpOp P ops Q j (fun a' w' => YieldsAt P ops w' oi v a' ∧ K (a'.put oi.dst v) w') a w := by
  obtain ⟨h1, h2, h3⟩ := Oper.apart_spec hap
  have keep : ∀ (a : Act) (w' : World), YieldsAt P ops w oi v a → ∀ u, YieldsAt P ops w' oi v (a.put oj.dst u) := fun a w' hy u =>
    YieldsAt.of_same (YieldsAt.always hpi hy w') (execOp_put oi hsi a oj.dst u h3) (wanted_put oi a oj.dst u h3)
  unfold wpOp at *
  simp only [hj] at *
  rw [wanted_put oj a oi.dst v h1] at h
  split
  · rename_i hw
    simp only [hw, if_true] at h
    rcases h with h | ⟨hasks, hlets⟩
    case inr => exact .inr ⟨by unfold Oper.asks at *; rw [execOp_put oj hsj a oi.dst v h1] at hasks; exact hasks, hlets⟩
    refine .inl ?_
    unfold Oper.wp at *
    rw [execOp_put oj hsj a oi.dst v h1] at h
    generalize (execOp a.eval oj).run P w = r at h ⊢
    cases r with
    | ok n w' =>
      cases n with
      | value u =>
        simp only [Oper.upon] at h ⊢
        exact ⟨keep a w' hy u, by rw [← Act.put_comm a v u h2]; exact h⟩
      | skip =>
        simp only [Oper.upon] at h ⊢
        exact ⟨keep a w' hy undef, by rw [← Act.put_comm a v undef h2]; exact h⟩
      | enter f args =>
        simp only [Oper.upon] at h ⊢
        refine Calls.mono h fun e w'' he => ?_
        cases e with
        | returned u => exact ⟨keep a w'' hy u, by rw [← Act.put_comm a v u h2]; exact he⟩
        | panicked c => exact hQ _ _ _ he
        | outgrown => exact he
      | row r args =>
        simp only [Oper.upon] at h ⊢
        exact Rows.mono h fun u w'' he => ⟨keep a w'' hy u, by rw [← Act.put_comm a v u h2]; exact he⟩
      | defer d =>
        simp only [Oper.upon] at h ⊢
        have e1 : ({ a.put oi.dst v with defers := d :: (a.put oi.dst v).defers } : Act) = ({ a with defers := d :: a.defers } : Act).put oi.dst v := by
          cases hd : oi.dst <;> rfl
        rw [e1] at h
        refine ⟨YieldsAt.of_same (YieldsAt.always hpi hy w') (execOp_put oi hsi { a with defers := d :: a.defers } oj.dst undef h3) (wanted_put oi { a with defers := d :: a.defers } oj.dst undef h3), ?_⟩
        rw [← Act.put_comm { a with defers := d :: a.defers } v undef h2]
        exact h
      | _ => simp only [Oper.upon] at h
    | halt x w' =>
      cases x <;> simp only [Oper.upon] at h ⊢
      case panic u => exact hQ _ _ _ h
  · rename_i hw
    simp only [hw] at h
    exact ⟨keep a w hy _, by rw [← Act.put_comm a v undef h2]; exact h⟩
/-- It may be taken first, whoever else may come, if only apart from it. -/
theorem wpAny_early_pure {i : Nat} {oi : Oper} {v : Value} {B : List Nat} (hi : ops[i]? = some oi) (hpi : pureK oi = true) (hsel : ∀ (j : Nat) (o : Oper) cs b, ops[j]? = some o → o.op ≠ .select cs b)
    (hQ : ∀ c a w, Q (.panic c) (a.put oi.dst v) w → Q (.panic c) a w)
    (hB : ∀ j ∈ B, j ≠ i ∧ ∃ oj, ops[j]? = some oj ∧ ∃ e ∈ oj.after, Region.binds md e = true ∧ (e.on = i ∨ e.on ∈ B)) :
    ∀ (fuel : Nat) (listed : Array Bool) (a : Act) (w : World),
      (∀ j ∈ B, listed.getD j true = false) →
      (∀ j oj, ops[j]? = some oj → j ≠ i → j ∉ B → listed.getD j true = false → oi.apart ops oj = true) →
      i ∈ Region.ready md ops listed → YieldsAt P ops w oi v a →
      wpAny P md ops Q fuel (listed.setIfInBounds i true) (a.put oi.dst v) w → wpAny P md ops Q (fuel + 1) listed a w := by
  intro fuel
  induction fuel with
  | zero =>
    intro listed a w _ _ hr hy H
    refine ⟨fun h => (by rw [h] at hr; cases hr), fun j hj => ?_⟩
    by_cases hji : j = i
    · subst hji; exact YieldsAt.wpOp hi hy H
    · have := ready_mono hj hji
      rw [H.1] at this
      cases this
  | succ fuel ih =>
    intro listed a w hBu hfree hr hy H
    refine ⟨fun h => (by rw [h] at hr; cases hr), fun j hj => ?_⟩
    by_cases hji : j = i
    · subst hji; exact YieldsAt.wpOp hi hy H
    · have h1 := H.2 j (ready_mono hj hji)
      obtain ⟨hjun, oj, hoj, hall⟩ := mem_ready.1 hj
      have hjB : j ∉ B := by
        intro hmem
        obtain ⟨_, oj', hoj', e, he, hb, hon⟩ := hB j hmem
        obtain rfl : oj' = oj := Option.some.inj (hoj'.symm.trans hoj)
        have h3 := hall e he hb
        have hun : listed.getD e.on true = false := by
          rcases hon with h4 | h4
          · rw [h4]; exact (mem_ready.1 hr).1
          · exact hBu _ h4
        rw [getD_low hun] at h3
        cases h3
      have hap := hfree j oj hoj hji hjB hjun
      have h2 := wpOp_put_pure hoj hpi hap (fun cs b => hsel i oi cs b hi) (fun cs b => hsel j oj cs b hoj) hQ hy h1
      have hBu' : ∀ k ∈ B, (listed.setIfInBounds j true).getD k true = false := fun k hk => by
        have hne : j ≠ k := fun e => hjB (e ▸ hk)
        rw [getD_set_ne true hne]
        exact hBu k hk
      have hfree' : ∀ k ok, ops[k]? = some ok → k ≠ i → k ∉ B → (listed.setIfInBounds j true).getD k true = false → oi.apart ops ok = true := fun k ok hk hki hkB hun => by
        refine hfree k ok hk hki hkB ?_
        by_cases hjk : j = k
        · subst hjk; exact hjun
        · rw [getD_set_ne true hjk] at hun; exact hun
      refine wpOp_mono (fun a' w' h3 => ?_) h2
      obtain ⟨h4, h5⟩ := h3
      refine ih (listed.setIfInBounds j true) a' w' hBu' hfree' (ready_mono hr (Ne.symm hji)) h4 ?_
      rw [Array.setIfInBounds_comm _ _ hji]
      exact h5
def planOk2 (md : Region.Mode) (ops : Array Oper) : List Step → Array Bool → Bool
  | [], listed => (Region.ready md ops listed).isEmpty
  | (false, i, _) :: rest, listed => decide (Region.ready md ops listed = [i]) && planOk2 md ops rest (listed.setIfInBounds i true)
  | (true, i, B) :: rest, listed =>
    (Region.ready md ops listed).contains i &&
    (match ops[i]? with
     | none => false
     | some oi =>
       (B.all fun j => decide (j ≠ i) && !listed.getD j true && (match ops[j]? with | none => false | some oj => oj.after.any fun e => Region.binds md e && (e.on == i || B.contains e.on))) &&
       ((List.range ops.size).all fun j => decide (j = i) || B.contains j || listed.getD j true || (match ops[j]? with | none => false | some oj => oi.apart ops oj && (roK oj || pureK oi)))) &&
    planOk2 md ops rest (listed.setIfInBounds i true)
theorem wpAny_of_plan2 (hsel : Region.noSelect ops = true) (hQ : ∀ c a w d v, Q (.panic c) (a.put d v) w → Q (.panic c) a w) :
    ∀ (l : List Step) (listed : Array Bool) (a : Act) (w : World), planOk2 md ops l listed = true → wpPlan P ops Q l a w → wpAny P md ops Q l.length listed a w
  | [], listed, a, w, hB, h => ⟨by simpa [planOk2] using hB, h⟩
  | (false, i, _) :: l, listed, a, w, hB, h => by
    simp only [planOk2, Bool.and_eq_true, decide_eq_true_eq] at hB
    refine ⟨fun h1 => (by rw [hB.1] at h1; cases h1), fun j hj => ?_⟩
    rw [hB.1] at hj
    have hji : j = i := by simpa using hj
    subst hji
    have hr : j ∈ Region.ready md ops listed := by rw [hB.1]; simp
    obtain ⟨_, oj, hoj, _⟩ := mem_ready.1 hr
    simp only [wpPlan, hoj, Option.toList_some] at h
    have hw : wpOp P ops Q j (wpPlan P ops Q l) a w := by
      unfold wpOp
      simp only [hoj]
      unfold wpList at h
      split
      · rename_i hw
        rw [if_pos hw] at h
        rcases h with h | ⟨h1, h2⟩
        · left
          unfold Oper.wp at h ⊢
          generalize (execOp a.eval oj).run P w = r at h ⊢
          cases r with
          | ok n w' =>
            cases n <;> simp only [Oper.upon, wpList, Exit.then] at h ⊢ <;> first | exact h | (refine Calls.mono h fun e w'' he => ?_; cases e <;> first | exact he | skip)
          | halt x w' => cases x <;> simp only [Oper.upon, Exit.then] at h ⊢ <;> exact h
        · exact .inr ⟨h1, h2⟩
      · rename_i hw
        rw [if_neg hw] at h
        exact h
    exact wpOp_mono (fun a' w' h' => wpAny_of_plan2 hsel hQ l _ a' w' hB.2 h') hw
  | (true, i, B) :: l, listed, a, w, hB, h => by
    simp only [planOk2, Bool.and_eq_true] at hB
    obtain ⟨⟨hr, hmid⟩, hrest⟩ := hB
    have hr' : i ∈ Region.ready md ops listed := by simpa using hr
    obtain ⟨_, oi, hoi, _⟩ := mem_ready.1 hr'
    simp only [hoi, Bool.and_eq_true] at hmid
    obtain ⟨hb1, hb2⟩ := hmid
    simp only [wpPlan, hoi, Option.toList_some] at h
    have hst : stOp P ops w i (fun a' => wpPlan P ops Q l a' w) a := by unfold stOp; simp only [hoi]; exact h
    obtain ⟨v, hy, hK⟩ := yieldsAt_of_stOp hoi hst
    have hB1 : ∀ j ∈ B, j ≠ i ∧ listed.getD j true = false ∧ ∃ oj, ops[j]? = some oj ∧ ∃ e ∈ oj.after, Region.binds md e = true ∧ (e.on = i ∨ e.on ∈ B) := by
      intro j hj
      have h1 := List.all_eq_true.1 hb1 j hj
      simp only [Bool.and_eq_true, decide_eq_true_eq, Bool.not_eq_true'] at h1
      obtain ⟨⟨h2, h3⟩, h4⟩ := h1
      cases hoj : ops[j]? with
      | none => rw [hoj] at h4; simp at h4
      | some oj =>
        rw [hoj] at h4
        obtain ⟨e, he, hbe⟩ := Array.any_eq_true'.1 h4
        simp only [Bool.and_eq_true, Bool.or_eq_true, beq_iff_eq, List.contains_iff_mem] at hbe
        exact ⟨h2, h3, oj, rfl, e, he, hbe.1, hbe.2⟩
    have hfree : ∀ j oj, ops[j]? = some oj → j ≠ i → j ∉ B → listed.getD j true = false → oi.apart ops oj = true ∧ (roK oj = true ∨ pureK oi = true) := by
      intro j oj hoj hji hjB hun
      have hlt : j < ops.size := (Array.getElem?_eq_some_iff.1 hoj).1
      have h1 := List.all_eq_true.1 hb2 j (List.mem_range.2 hlt)
      simp only [Bool.or_eq_true, decide_eq_true_eq, List.contains_iff_mem, hoj, Bool.and_eq_true] at h1
      rcases h1 with ((h1 | h1) | h1) | h1
      · exact absurd h1 hji
      · exact absurd h1 hjB
      · rw [hun] at h1; cases h1
      · exact h1
    by_cases hpi : pureK oi = true
    · exact wpAny_early_pure (B := B) hoi hpi (Region.noSelect_spec hsel) (fun c a w => hQ c a w oi.dst v) (fun j hj => ⟨(hB1 j hj).1, (hB1 j hj).2.2⟩) l.length listed a w (fun j hj => (hB1 j hj).2.1) (fun j oj h1 h2 h3 h4 => (hfree j oj h1 h2 h3 h4).1) hr' hy
        (wpAny_of_plan2 hsel hQ l _ _ w hrest hK)
    · exact wpAny_early (B := B) hoi (Region.noSelect_spec hsel) (fun c a w => hQ c a w oi.dst v) (fun j hj => ⟨(hB1 j hj).1, (hB1 j hj).2.2⟩) l.length listed a w (fun j hj => (hB1 j hj).2.1)
        (fun j oj h1 h2 h3 h4 => ⟨(hfree j oj h1 h2 h3 h4).1, (hfree j oj h1 h2 h3 h4).2.resolve_right hpi⟩) hr' hy
        (wpAny_of_plan2 hsel hQ l _ _ w hrest hK)
/-- A region that draws, walked along a plan. -/
theorem wp_region_plan2 {id : Nat} {a : Act} {w : World} {l : List Oper} (plan : List Step) (hm : P.follows .mixedOrders = true)
    (hB : (Region.noSelect l.toArray && decide (plan.length = l.toArray.size) && planOk2 .any l.toArray plan (Array.replicate l.toArray.size false)) = true)
    (hQ : ∀ c a w d v, Q (.panic c) (a.put d v) w → Q (.panic c) a w)
    (h : wpPlan P l.toArray Q plan a w.drew) : (Code.region id l.toArray true).wp P Q a w := by
  simp only [Bool.and_eq_true, decide_eq_true_eq] at hB
  obtain ⟨⟨h1, h2⟩, h3⟩ := hB
  refine wp_region_any hm ?_
  have := wpAny_of_plan2 h1 hQ plan _ a _ h3 h
  rw [h2] at this
  exact this
end
end Go.PM
