/- Regions that draw their order, walked once: in an order of our own, operations that only read taken early, a call that writes where nothing else can come. -/
import Derived.Still
import Derived.StillTactics
import Derived.Tactics2
import Derived.KernelRfl
set_option linter.unusedVariables false
set_option linter.unusedSimpArgs false
namespace Go.PM
open Go

/-- Whatever it answers, the world is as it was, and it calls nobody. -/
def Ro {α : Type} (P : Program) (s : Sem α) : Prop := ∀ w a w', s.run P w = .ok a w' → w' = w
theorem Ro.pure {α : Type} {P : Program} (a : α) : Ro P (Pure.pure a : Sem α) := by
  intro w b w' h; simp at h; exact h.2.symm
theorem Ro.bind {α β : Type} {P : Program} {s : Sem α} {f : α → Sem β} (h : Ro P s) (hf : ∀ a, Ro P (f a)) : Ro P (s >>= f) := by
  intro w b w' hr
  rw [Sem.run_bind] at hr
  cases hs : s.run P w with
  | ok a w1 =>
    rw [hs] at hr
    have h1 := h w a w1 hs
    have h2 := hf a w1 b w' hr
    rw [h2, h1]
  | halt x w1 => rw [hs] at hr; simp at hr
theorem Ro.halt {α : Type} {P : Program} (x : Halt) : Ro P (Sem.halt x : Sem α) := by intro w a w' h; simp at h
theorem Ro.program {P : Program} : Ro P program := by intro w a w' h; simp [program, Sem.run] at h; exact h.2.symm
theorem Ro.load {P : Program} (a : Addr) : Ro P (load a) := by
  intro w v w' h
  rw [run_load] at h
  split at h
  · simp at h; exact h.2.symm
  · split at h
    · simp at h; exact h.2.symm
    · simp at h
theorem Ro.ite {α : Type} {P : Program} {c : Prop} [Decidable c] {x y : Sem α} (hx : Ro P x) (hy : Ro P y) : Ro P (if c then x else y) := by split <;> assumption
theorem Ro.stuck {α : Type} {P : Program} (s : String) : Ro P (stuck s : Sem α) := Ro.halt _
theorem Ro.unsupported {α : Type} {P : Program} (s : Unsupported) : Ro P (unsupported s : Sem α) := Ro.halt _
theorem Ro.underlying {P : Program} (t : TypeId) : Ro P (underlying t) := by
  unfold Go.underlying
  refine Ro.program.bind fun p => ?_
  split
  · exact Ro.pure _
  · exact Ro.stuck _
theorem Ro.typeInfo {P : Program} (t : TypeId) : Ro P (typeInfo t) := by
  unfold Go.typeInfo
  refine Ro.program.bind fun p => ?_
  split
  · exact Ro.pure _
  · exact Ro.stuck _
theorem Ro.sizeOf {P : Program} (t : TypeId) : Ro P (sizeOf t) := (Ro.typeInfo t).bind fun _ => Ro.pure _
theorem Ro.isAgg {P : Program} (t : TypeId) : Ro P (isAgg t) := by
  unfold Go.isAgg
  refine (Ro.underlying t).bind fun d => ?_
  split <;> exact Ro.pure _
theorem Ro.loadCellsFrom {P : Program} (a : Addr) : ∀ (n i : Nat) (acc : Array Value), Ro P (loadCellsFrom a i n acc)
  | 0, _, _ => Ro.pure _
  | n + 1, i, acc => (Ro.load _).bind fun v => Ro.loadCellsFrom a n (i + 1) _
theorem Ro.loadVar {P : Program} (t : TypeId) (a : Addr) : Ro P (loadVar t a) := by
  unfold Go.loadVar
  refine (Ro.isAgg t).bind fun b => Ro.ite ?_ (Ro.load _)
  exact (Ro.sizeOf t).bind fun n => (Ro.loadCellsFrom a n 0 _).bind fun _ => Ro.pure _
theorem Ro.sureAddr {P : Program} (v : Value) : Ro P (Instr.sureAddr v) := by
  unfold Instr.sureAddr; split
  · exact Ro.pure _
  · exact Ro.stuck _
theorem Ro.loadAt {P : Program} (t : TypeId) (v : Value) : Ro P (Instr.loadAt t v) := (Ro.sureAddr v).bind fun a => Ro.loadVar t a
theorem Ro.extract {P : Program} (v : Value) (i : Nat) : Ro P (Instr.extract v i) := by
  unfold Instr.extract
  split
  · split
    · exact Ro.pure _
    · exact Ro.stuck _
  · exact Ro.stuck _
theorem Ro.goPanic {α : Type} {P : Program} (v : Value) : Ro P (goPanic v : Sem α) := Ro.halt _
/-- It never answers. -/
def No {α : Type} (P : Program) (s : Sem α) : Prop := ∀ w a w', s.run P w ≠ .ok a w'
theorem No.ro {α : Type} {P : Program} {s : Sem α} (h : No P s) : Ro P s := fun w a w' hr => absurd hr (h w a w')
theorem No.halt {α : Type} {P : Program} (x : Halt) : No P (Sem.halt x : Sem α) := by intro w a w' h; simp at h
theorem No.bind {α β : Type} {P : Program} {s : Sem α} {f : α → Sem β} (hf : ∀ a, No P (f a)) : No P (s >>= f) := by
  intro w b w' hr
  rw [Sem.run_bind] at hr
  cases hs : s.run P w with
  | ok a w1 => rw [hs] at hr; exact hf a w1 b w' hr
  | halt x w1 => rw [hs] at hr; simp at hr
theorem No.runtimePanic {α : Type} {P : Program} (e : RuntimeError) : No P (runtimePanic e : Sem α) := by
  unfold Go.runtimePanic
  refine No.bind fun p => ?_
  cases e with
  | typeAssertion i c a m => exact No.bind fun _ => No.bind fun _ => No.halt _
  | panicNil => exact No.bind fun _ => No.bind fun _ => No.halt _
  | _ => exact No.halt _
theorem No.boundsPanic {α : Type} {P : Program} (k : IntKind) (x y : Int) (c : BoundsCode) : No P (boundsPanic k x y c : Sem α) := by
  unfold Go.boundsPanic
  split
  · exact No.bind fun _ => No.runtimePanic _
  · exact No.bind fun _ => No.runtimePanic _
theorem Ro.asIntOf {P : Program} (v : Value) : Ro P (asIntOf v) := by
  unfold Go.asIntOf
  split
  · exact Ro.pure _
  · exact Ro.unsupported _
  · exact Ro.stuck _
theorem Ro.asBool {P : Program} (v : Value) : Ro P (asBool v) := by
  unfold Go.asBool
  split
  · exact Ro.pure _
  · exact Ro.stuck _
theorem Ro.indexAt {P : Program} (t : TypeId) (x i : Value) : Ro P (Instr.indexAt t x i) := by
  unfold Instr.indexAt
  refine (Ro.asIntOf i).bind fun ⟨k, i⟩ => ?_
  refine (Ro.underlying t).bind fun d => ?_
  have jp : ∀ (base : Option Addr) (len : Nat) (elem : TypeId), Ro P (do
      let tiny := len ≤ 1 && (match ← Go.underlying t with | TypeDesc.array .. => true | _ => false)
      match base with
      | some a =>
        if 0 ≤ i ∧ i < len then Pure.pure (Value.pointer (some (a.add (i.toNat * (← Go.sizeOf elem)))))
        else if tiny then Go.unsupported (Unsupported.noEntry "op/indexAddr.an index out of range at an array of length 0 or 1 (ledger 616)")
        else Go.boundsPanic k i len .index
      | none => Go.boundsPanic k i 0 .index : Sem Value) := by
    intro base len elem
    refine (Ro.underlying t).bind fun d => ?_
    dsimp only
    split
    · exact Ro.ite ((Ro.sizeOf _).bind fun _ => Ro.pure _) (Ro.ite (Ro.unsupported _) (No.boundsPanic _ _ _ _).ro)
    · exact (No.boundsPanic _ _ _ _).ro
  dsimp only
  split
  · exact (Ro.sureAddr _).bind fun _ => (Ro.pure _).bind fun ⟨b, l, e⟩ => jp b l e
  · exact (Ro.pure _).bind fun ⟨b, l, e⟩ => jp b l e
  · exact (Ro.stuck _).bind fun ⟨b, l, e⟩ => jp b l e
theorem Ro.shape {P : Program} (r : Nat) : Ro P (shape r) := by intro w a w' h; simp [Go.shape, Sem.run] at h; exact h.2.symm
theorem Ro.getObj {P : Program} (r : Nat) : Ro P (getObj r) := by
  intro w a w' h
  simp only [Go.getObj, Sem.run] at h
  split at h
  · simp at h
  · simp at h; exact h.2.symm
  · simp at h
theorem Ro.viewAt {P : Program} (r : Nat) : Ro P (viewAt r) := by
  unfold Go.viewAt
  refine (Ro.shape r).bind fun x => ?_
  split
  · exact Ro.pure _
  · refine (Ro.getObj r).bind fun o => ?_
    split <;> exact Ro.pure _
theorem Ro.noView {P : Program} (a : Addr) : Ro P (noView a) := by
  unfold Go.noView
  refine (Ro.viewAt _).bind fun x => ?_
  exact Ro.ite (Ro.unsupported _) (Ro.pure _)
theorem Ro.byteOf {P : Program} (a : Addr) : Ro P (byteOf a) := by
  unfold Go.byteOf
  dsimp only
  split
  · exact Ro.pure _
  · refine Ro.program.bind fun p => (Ro.noView a).bind fun _ => (Ro.shape _).bind fun x => ?_
    split
    · refine Ro.ite (Ro.pure _) ?_
      split
      · exact Ro.pure _
      · exact Ro.stuck _
    · exact Ro.stuck _
theorem Ro.partAt {P : Program} (a : Addr) (c b : Nat) : Ro P (partAt a c b) := by
  unfold Go.partAt
  exact (Ro.byteOf _).bind fun _ => (Ro.byteOf _).bind fun _ => Ro.pure _
theorem Ro.fieldPlace {P : Program} (a : Addr) (f : Field) : Ro P (fieldPlace a f) := by
  unfold Go.fieldPlace
  exact (Ro.sizeOf _).bind fun _ => Ro.ite (Ro.partAt _ _ _) (Ro.pure _)
theorem Ro.fieldAt {P : Program} (s : TypeId) (v : Value) (f : Nat) : Ro P (Instr.fieldAt s v f) := by
  unfold Instr.fieldAt
  refine (Ro.underlying s).bind fun d => ?_
  split
  · split
    · exact (Ro.sureAddr v).bind fun _ => (Ro.fieldPlace _ _).bind fun _ => Ro.pure _
    · exact Ro.stuck _
  · exact Ro.stuck _

theorem Ro.part {P : Program} (t : TypeId) (cs : Array Value) (off : Nat) : Ro P (part t cs off) := by
  unfold Go.part
  refine (Ro.isAgg t).bind fun b => Ro.ite ((Ro.sizeOf t).bind fun _ => Ro.pure _) ?_
  split
  · exact Ro.pure _
  · exact Ro.stuck _
theorem Ro.followBlind {P : Program} : ∀ (l : List FieldStep) (t : TypeId) (x : Option Value), Ro P (Go.followBlind l t x)
  | [], t, x => Ro.pure _
  | s :: rest, t, x => by
    unfold Go.followBlind
    refine (Ro.underlying _).bind fun d => ?_
    split
    · split
      · split
        · exact Ro.pure _
        · exact Ro.followBlind rest _ _
        · exact Ro.stuck _
        · exact Ro.pure _
        · exact (Ro.part _ _ _).bind fun _ => Ro.followBlind rest _ _
        · exact Ro.stuck _
        · exact Ro.followBlind rest _ _
      · exact Ro.stuck _
    · exact Ro.stuck _
theorem Ro.nilAhead {P : Program} : ∀ (n : Nat) (t : TypeId) (v : Value) (name : String), Ro P (Go.nilAhead n t v name)
  | 0, _, _, _ => Ro.pure _
  | n + 1, t, v, name => by
    unfold Go.nilAhead
    refine (Ro.typeInfo t).bind fun i => ?_
    split
    · refine (Ro.followBlind _ _ _).bind fun r => ?_
      split
      · exact Ro.pure _
      · split
        · exact Ro.nilAhead n _ _ _
        · exact Ro.pure _
        · exact Ro.stuck _
        · exact Ro.pure _
        · exact Ro.pure _
        · refine (Ro.underlying _).bind fun d => ?_
          split <;> exact Ro.pure _
    · exact Ro.stuck _
theorem No.ok {P : Program} {s : Sem Next} (h : No P s) : ∀ w n w', s.run P w = .ok n w' → w' = w ∧ ∃ v, n = .value v := fun w n w' hr => absurd hr (h w n w')
/-- An operation that only reads, whatever its operands are. -/
def roK (o : Oper) : Bool := match o.op with
  | .move _ | .assign _ | .pick _ _ _ | .extract _ _ | .load _ _ | .indexAddr _ _ _ | .fieldAddr _ _ _ | .nilCheck _ => true
  | _ => false
theorem roK_run {P : Program} {ρ : Operand → Value} {o : Oper} (h : roK o = true) {w w' : World} {n : Next} (hr : (execOp ρ o).run P w = .ok n w') : w' = w ∧ ∃ v, n = .value v := by
  have key : ∀ s : Sem Value, Ro P s → (do pure (.value (← s)) : Sem Next).run P w = .ok n w' → w' = w ∧ ∃ v, n = .value v := by
    intro s hs hr
    rw [Sem.run_bind] at hr
    cases hx : s.run P w with
    | ok a w1 =>
      rw [hx] at hr
      simp at hr
      exact ⟨by rw [← hr.2]; exact hs w a w1 hx, a, hr.1.symm⟩
    | halt x w1 => rw [hx] at hr; simp at hr
  obtain ⟨dst, op, ty, pos, after, guard⟩ := o
  cases op <;> simp only [roK, Bool.false_eq_true] at h
  case move x => simp [execOp] at hr; exact ⟨hr.2.symm, _, hr.1.symm⟩
  case assign x => simp [execOp] at hr; exact ⟨hr.2.symm, _, hr.1.symm⟩
  case pick c a b => exact key (do pure (if ← asBool (ρ c) then ρ a else ρ b)) ((Ro.asBool _).bind fun _ => Ro.pure _) (by simpa [execOp] using hr)
  case extract x i => exact key _ (Ro.extract (ρ x) i) hr
  case load t x => exact key _ (Ro.loadAt t (ρ x)) hr
  case indexAddr t x i => exact key _ (Ro.indexAt t (ρ x) (ρ i)) hr
  case fieldAddr t x i => exact key _ (Ro.fieldAt t (ρ x) i) hr
  case nilCheck x =>
    simp only [execOp] at hr
    split at hr
    · exact absurd hr (No.runtimePanic _ _ _ _)
    · exact absurd hr (No.runtimePanic _ _ _ _)
    · exact absurd hr (No.runtimePanic _ _ _ _)
    · rename_i name first captured _
      split at hr
      · exact absurd hr (No.runtimePanic _ _ _ _)
      · rename_i t x _
        exact key (do
            if (← Go.nilAhead ((← program).types.size + Made.depth) t x name) != some false then
              unsupported (.noEntry "op/nilCheck.the method's receiver behind this interface value is a nil pointer, or cannot be seen to be none, and the arguments act or may panic (ledger 612)")
            pure (.func (.method name) first captured))
          (Ro.program.bind fun p => (Ro.nilAhead _ _ _ _).bind fun b => by dsimp only; split <;> first | exact (Ro.unsupported _).bind fun _ => Ro.pure _ | exact Ro.pure _)
          (by simpa using hr)
      · simp at hr; exact ⟨hr.2.symm, _, hr.1.symm⟩
    · simp at hr; exact ⟨hr.2.symm, _, hr.1.symm⟩

section
variable {P : Program} {ops : Array Oper} {Q : Exit → Act → World → Prop} {md : Region.Mode}
theorem getD_low {listed : Array Bool} {i : Nat} (h : listed.getD i true = false) : listed.getD i false = false := by
  rcases Nat.lt_or_ge i listed.size with h' | h'
  · simp [h'] at h ⊢; exact h
  · simp [Array.getElem?_eq_none h'] at h
/-- One that only reads, beside one that has its value in this world: neither turns the other. -/
theorem wpOp_put_ro {j : Nat} {oi oj : Oper} {v : Value} {w : World} (hj : ops[j]? = some oj) (hro : roK oj = true) (hap : oi.apart ops oj = true)
    (hsi : ∀ cs b, oi.op ≠ .select cs b) (hsj : ∀ cs b, oj.op ≠ .select cs b)
    (hQ : ∀ c a w, Q (.panic c) (a.put oi.dst v) w → Q (.panic c) a w) {K : Act → World → Prop} {a : Act}
    (hy : YieldsAt P ops w oi v a) (h : wpOp P ops Q j K (a.put oi.dst v) w) :
    wpOp P ops Q j (fun a' w' => w' = w ∧ YieldsAt P ops w oi v a' ∧ K (a'.put oi.dst v) w) a w := by
  obtain ⟨h1, h2, h3⟩ := Oper.apart_spec hap
  have keep : ∀ (a : Act), YieldsAt P ops w oi v a → ∀ u, YieldsAt P ops w oi v (a.put oj.dst u) := fun a hy u =>
    hy.of_same (execOp_put oi hsi a oj.dst u h3) (wanted_put oi a oj.dst u h3)
  unfold wpOp at *
  simp only [hj] at *
  rw [wanted_put oj a oi.dst v h1] at h
  split
  · rename_i hw
    simp only [hw, if_true] at h
    rcases h with h | ⟨hasks, hlets⟩
    case inr => exact .inr ⟨by unfold Oper.asks at *; rw [execOp_put oj hsj a oi.dst v h1] at hasks; exact hasks, hlets⟩
    refine .inl ?_
    unfold Oper.wp at *
    rw [execOp_put oj hsj a oi.dst v h1] at h
    cases hr : (execOp a.eval oj).run P w with
    | ok n w' =>
      rw [hr] at h
      obtain ⟨rfl, u, rfl⟩ := roK_run hro hr
      simp only [Oper.upon] at h ⊢
      exact ⟨by first | rfl | trivial, keep a hy u, by rw [← Act.put_comm a v u h2]; exact h⟩
    | halt x w' =>
      rw [hr] at h
      cases x <;> simp only [Oper.upon] at h ⊢
      case panic u => exact hQ _ _ _ h
  · rename_i hw
    simp only [hw] at h
    exact ⟨by first | rfl | trivial, keep a hy _, by rw [← Act.put_comm a v undef h2]; exact h⟩
theorem YieldsAt.wpOp {i : Nat} {o : Oper} {v : Value} {a : Act} {w : World} (hi : ops[i]? = some o) (hy : YieldsAt P ops w o v a)
    {K : Act → World → Prop} (h : K (a.put o.dst v) w) : wpOp P ops Q i K a w :=
  wpOp_of_stOp (K := fun a' => a' = a.put o.dst v) (fun a' e => by subst e; exact h) (hy.stOp hi rfl)
/-- An operation that may come now may be taken first: whoever else has not come yet waits for it, be it through others, or only reads and is apart from it. -/
theorem wpAny_early {i : Nat} {oi : Oper} {v : Value} {B : List Nat} (hi : ops[i]? = some oi) (hsel : ∀ (j : Nat) (o : Oper) cs b, ops[j]? = some o → o.op ≠ .select cs b)
    (hQ : ∀ c a w, Q (.panic c) (a.put oi.dst v) w → Q (.panic c) a w)
    (hB : ∀ j ∈ B, j ≠ i ∧ ∃ oj, ops[j]? = some oj ∧ ∃ e ∈ oj.after, Region.binds md e = true ∧ (e.on = i ∨ e.on ∈ B)) :
    ∀ (fuel : Nat) (listed : Array Bool) (a : Act) (w : World),
      (∀ j ∈ B, listed.getD j true = false) →
      (∀ j oj, ops[j]? = some oj → j ≠ i → j ∉ B → listed.getD j true = false → oi.apart ops oj = true ∧ roK oj = true) →
      i ∈ Region.ready md ops listed → YieldsAt P ops w oi v a →
      wpAny P md ops Q fuel (listed.setIfInBounds i true) (a.put oi.dst v) w → wpAny P md ops Q (fuel + 1) listed a w := by
  intro fuel
  induction fuel with
  | zero =>
    intro listed a w _ _ hr hy H
    refine ⟨fun h => (by rw [h] at hr; cases hr), fun j hj => ?_⟩
    by_cases hji : j = i
    · subst hji; exact YieldsAt.wpOp hi hy H
    · have := ready_mono hj hji
      rw [H.1] at this
      cases this
  | succ fuel ih =>
    intro listed a w hBu hfree hr hy H
    refine ⟨fun h => (by rw [h] at hr; cases hr), fun j hj => ?_⟩
    by_cases hji : j = i
    · subst hji; exact YieldsAt.wpOp hi hy H
    · have h1 := H.2 j (ready_mono hj hji)
      obtain ⟨hjun, oj, hoj, hall⟩ := mem_ready.1 hj
      have hjB : j ∉ B := by
        intro hmem
        obtain ⟨_, oj', hoj', e, he, hb, hon⟩ := hB j hmem
        obtain rfl : oj' = oj := Option.some.inj (hoj'.symm.trans hoj)
        have h3 := hall e he hb
        have hun : listed.getD e.on true = false := by
          rcases hon with h4 | h4
          · rw [h4]; exact (mem_ready.1 hr).1
          · exact hBu _ h4
        rw [getD_low hun] at h3
        cases h3
      obtain ⟨hap, hro⟩ := hfree j oj hoj hji hjB hjun
      have h2 := wpOp_put_ro hoj hro hap (fun cs b => hsel i oi cs b hi) (fun cs b => hsel j oj cs b hoj) hQ hy h1
      have hBu' : ∀ k ∈ B, (listed.setIfInBounds j true).getD k true = false := fun k hk => by
        have hne : j ≠ k := fun e => hjB (e ▸ hk)
        rw [getD_set_ne true hne]
        exact hBu k hk
      have hfree' : ∀ k ok, ops[k]? = some ok → k ≠ i → k ∉ B → (listed.setIfInBounds j true).getD k true = false → oi.apart ops ok = true ∧ roK ok = true := fun k ok hk hki hkB hun => by
        refine hfree k ok hk hki hkB ?_
        by_cases hjk : j = k
        · subst hjk; exact hjun
        · rw [getD_set_ne true hjk] at hun; exact hun
      refine wpOp_mono (fun a' w' h3 => ?_) h2
      obtain ⟨rfl, h4, h5⟩ := h3
      refine ih (listed.setIfInBounds j true) a' w' hBu' hfree' (ready_mono hr (Ne.symm hji)) h4 ?_
      rw [Array.setIfInBounds_comm _ _ hji]
      exact h5

/-- A plan: which operation next; whether it is taken early (and who waits for it), or is the only one that can come. -/
abbrev Step := Bool × Nat × List Nat
def planOk (md : Region.Mode) (ops : Array Oper) : List Step → Array Bool → Bool
  | [], listed => (Region.ready md ops listed).isEmpty
  | (false, i, _) :: rest, listed => decide (Region.ready md ops listed = [i]) && planOk md ops rest (listed.setIfInBounds i true)
  | (true, i, B) :: rest, listed =>
    (Region.ready md ops listed).contains i &&
    (match ops[i]? with
     | none => false
     | some oi =>
       (B.all fun j => decide (j ≠ i) && !listed.getD j true && (match ops[j]? with | none => false | some oj => oj.after.any fun e => Region.binds md e && (e.on == i || B.contains e.on))) &&
       ((List.range ops.size).all fun j => decide (j = i) || B.contains j || listed.getD j true || (match ops[j]? with | none => false | some oj => oi.apart ops oj && roK oj))) &&
    planOk md ops rest (listed.setIfInBounds i true)
/-- What is to be shown along a plan. -/
def wpPlan (P : Program) (ops : Array Oper) (Q : Exit → Act → World → Prop) : List Step → Act → World → Prop
  | [], a, w => Q .normal a w
  | (false, i, _) :: rest, a, w => wpList P ops (Exit.then (wpPlan P ops Q rest) Q) ((ops[i]?).toList) a w
  | (true, i, _) :: rest, a, w => wpStill P ops w (fun a' => wpPlan P ops Q rest a' w) ((ops[i]?).toList) a
theorem wpAny_of_plan (hsel : Region.noSelect ops = true) (hQ : ∀ c a w d v, Q (.panic c) (a.put d v) w → Q (.panic c) a w) :
    ∀ (l : List Step) (listed : Array Bool) (a : Act) (w : World), planOk md ops l listed = true → wpPlan P ops Q l a w → wpAny P md ops Q l.length listed a w
  | [], listed, a, w, hB, h => ⟨by simpa [planOk] using hB, h⟩
  | (false, i, _) :: l, listed, a, w, hB, h => by
    simp only [planOk, Bool.and_eq_true, decide_eq_true_eq] at hB
    refine ⟨fun h1 => (by rw [hB.1] at h1; cases h1), fun j hj => ?_⟩
    rw [hB.1] at hj
    have hji : j = i := by simpa using hj
    subst hji
    have hr : j ∈ Region.ready md ops listed := by rw [hB.1]; simp
    obtain ⟨_, oj, hoj, _⟩ := mem_ready.1 hr
    simp only [wpPlan, hoj, Option.toList_some] at h
    have hw : wpOp P ops Q j (wpPlan P ops Q l) a w := by
      unfold wpOp
      simp only [hoj]
      unfold wpList at h
      split
      · rename_i hw
        rw [if_pos hw] at h
        rcases h with h | ⟨h1, h2⟩
        · left
          unfold Oper.wp at h ⊢
          generalize (execOp a.eval oj).run P w = r at h ⊢
          cases r with
          | ok n w' =>
            cases n <;> simp only [Oper.upon, wpList, Exit.then] at h ⊢ <;> first | exact h | (refine Calls.mono h fun e w'' he => ?_; cases e <;> first | exact he | skip)
          | halt x w' => cases x <;> simp only [Oper.upon, Exit.then] at h ⊢ <;> exact h
        · exact .inr ⟨h1, h2⟩
      · rename_i hw
        rw [if_neg hw] at h
        exact h
    exact wpOp_mono (fun a' w' h' => wpAny_of_plan hsel hQ l _ a' w' hB.2 h') hw
  | (true, i, B) :: l, listed, a, w, hB, h => by
    simp only [planOk, Bool.and_eq_true] at hB
    obtain ⟨⟨hr, hmid⟩, hrest⟩ := hB
    have hr' : i ∈ Region.ready md ops listed := by simpa using hr
    obtain ⟨_, oi, hoi, _⟩ := mem_ready.1 hr'
    simp only [hoi, Bool.and_eq_true] at hmid
    obtain ⟨hb1, hb2⟩ := hmid
    simp only [wpPlan, hoi, Option.toList_some] at h
    have hst : stOp P ops w i (fun a' => wpPlan P ops Q l a' w) a := by unfold stOp; simp only [hoi]; exact h
    obtain ⟨v, hy, hK⟩ := yieldsAt_of_stOp hoi hst
    have hB1 : ∀ j ∈ B, j ≠ i ∧ listed.getD j true = false ∧ ∃ oj, ops[j]? = some oj ∧ ∃ e ∈ oj.after, Region.binds md e = true ∧ (e.on = i ∨ e.on ∈ B) := by
      intro j hj
      have h1 := List.all_eq_true.1 hb1 j hj
      simp only [Bool.and_eq_true, decide_eq_true_eq, Bool.not_eq_true'] at h1
      obtain ⟨⟨h2, h3⟩, h4⟩ := h1
      cases hoj : ops[j]? with
      | none => rw [hoj] at h4; simp at h4
      | some oj =>
        rw [hoj] at h4
        obtain ⟨e, he, hbe⟩ := Array.any_eq_true'.1 h4
        simp only [Bool.and_eq_true, Bool.or_eq_true, beq_iff_eq, List.contains_iff_mem] at hbe
        exact ⟨h2, h3, oj, rfl, e, he, hbe.1, hbe.2⟩
    have hfree : ∀ j oj, ops[j]? = some oj → j ≠ i → j ∉ B → listed.getD j true = false → oi.apart ops oj = true ∧ roK oj = true := by
      intro j oj hoj hji hjB hun
      have hlt : j < ops.size := (Array.getElem?_eq_some_iff.1 hoj).1
      have h1 := List.all_eq_true.1 hb2 j (List.mem_range.2 hlt)
      simp only [Bool.or_eq_true, decide_eq_true_eq, List.contains_iff_mem, hoj, Bool.and_eq_true] at h1
      rcases h1 with ((h1 | h1) | h1) | h1
      · exact absurd h1 hji
      · exact absurd h1 hjB
      · rw [hun] at h1; cases h1
      · exact h1
    exact wpAny_early (B := B) hoi (Region.noSelect_spec hsel) (fun c a w => hQ c a w oi.dst v) (fun j hj => ⟨(hB1 j hj).1, (hB1 j hj).2.2⟩) l.length listed a w (fun j hj => (hB1 j hj).2.1) hfree hr' hy
      (wpAny_of_plan hsel hQ l _ _ w hrest hK)
/-- A region that draws, walked along a plan. -/
theorem wp_region_plan {id : Nat} {a : Act} {w : World} {l : List Oper} (plan : List Step) (hm : P.follows .mixedOrders = true)
    (hB : (Region.noSelect l.toArray && decide (plan.length = l.toArray.size) && planOk .any l.toArray plan (Array.replicate l.toArray.size false)) = true)
    (hQ : ∀ c a w d v, Q (.panic c) (a.put d v) w → Q (.panic c) a w)
    (h : wpPlan P l.toArray Q plan a w.drew) : (Code.region id l.toArray true).wp P Q a w := by
  simp only [Bool.and_eq_true, decide_eq_true_eq] at hB
  obtain ⟨⟨h1, h2⟩, h3⟩ := hB
  refine wp_region_any hm ?_
  have := wpAny_of_plan h1 hQ plan _ a _ h3 h
  rw [h2] at this
  exact this
theorem plan_early {i : Nat} {B : List Nat} {rest : List Step} {a : Act} {w : World} {o : Oper} (hi : ops[i]? = some o)
    (h : wpStill P ops w (fun a' => wpPlan P ops Q rest a' w) [o] a) : wpPlan P ops Q ((true, i, B) :: rest) a w := by
  simp only [wpPlan, hi, Option.toList_some]; exact h
theorem plan_big {i : Nat} {B : List Nat} {rest : List Step} {a : Act} {w : World} {o : Oper} (hi : ops[i]? = some o)
    (h : wpList P ops (Exit.then (wpPlan P ops Q rest) Q) [o] a w) : wpPlan P ops Q ((false, i, B) :: rest) a w := by
  simp only [wpPlan, hi, Option.toList_some]; exact h
theorem plan_nil {a : Act} {w : World} (h : Q .normal a w) : wpPlan P ops Q [] a w := h
end
end Go.PM
