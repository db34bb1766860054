/- Plans for regions that draw their order, with blocks: operations that may come in any order and make memory, each told by what its value is, whatever blocks it got. -/
import Derived.Test.YtefhngbeodnldaaPlan4
import Derived.Test.YtefhngbeodnldaaMem
set_option linter.unusedVariables false
set_option linter.unusedSimpArgs false
namespace Go.PM
open Go Go.RowKit
/-- Whom it waits for. -/
def aftOf (md : Region.Mode) (o : Oper) : List Nat := (o.after.toList.filter (Region.binds md)).map (·.on)
def dstOf (ops : Array Oper) (i : Nat) : Option Tmp := (ops[i]?).bind (·.dst)
def aftAt (md : Region.Mode) (ops : Array Oper) (i : Nat) : List Nat := match ops[i]? with | some o => aftOf md o | none => []
def looksAt (ops : Array Oper) (i : Nat) : List Tmp := match ops[i]? with | some o => o.looksAt ops | none => []
def inDst (ops : Array Oper) (i : Nat) (l : List Tmp) : Bool := match dstOf ops i with | some d => l.contains d | none => false
/-- The slots of these operations are set. -/
def putAll (ops : Array Oper) (vs : Nat → Value) : List Nat → Act → Act
  | [], a => a
  | i :: l, a => putAll ops vs l (a.put (dstOf ops i) (vs i))
/-- Those of the block whose slots it reads. -/
def depsOf (md : Region.Mode) (ops : Array Oper) (l : List Nat) (j : Nat) : List Nat := l.filter fun k => (aftAt md ops j).contains k && inDst ops k (looksAt ops j)
section
variable {G : Type}
def AllP : List (Nat × (Value → World → G → Prop)) → (Nat → Value) → World → G → Prop
  | [], _, _, _ => True
  | (i, p) :: r, vs, w, g => p (vs i) w g ∧ AllP r vs w g
def AllIf (A : List Nat) : List (Nat × (Value → World → G → Prop)) → (Nat → Value) → World → G → Prop
  | [], _, _, _ => True
  | (i, p) :: r, vs, w, g => (A.contains i = true → p (vs i) w g) ∧ AllIf A r vs w g
def AllStable (R : World → G → World → G → Prop) : List (Nat × (Value → World → G → Prop)) → Prop
  | [] => True
  | (_, p) :: r => (∀ v w g w' g', R w g w' g' → p v w g → p v w' g') ∧ AllStable R r
theorem AllP.get {ps : List (Nat × (Value → World → G → Prop))} {vs : Nat → Value} {w : World} {g : G} (h : ∀ x ∈ ps, x.2 (vs x.1) w g) : AllP ps vs w g := by
  induction ps with
  | nil => trivial
  | cons x r ih => exact ⟨h x (List.mem_cons_self ..), ih fun y hy => h y (List.mem_cons_of_mem _ hy)⟩
theorem AllIf.get {A : List Nat} {ps : List (Nat × (Value → World → G → Prop))} {vs : Nat → Value} {w : World} {g : G} (h : ∀ x ∈ ps, A.contains x.1 = true → x.2 (vs x.1) w g) : AllIf A ps vs w g := by
  induction ps with
  | nil => trivial
  | cons x r ih => exact ⟨h x (List.mem_cons_self ..), ih fun y hy => h y (List.mem_cons_of_mem _ hy)⟩
theorem AllStable.get {R : World → G → World → G → Prop} {ps : List (Nat × (Value → World → G → Prop))} (h : AllStable R ps) : ∀ x ∈ ps, ∀ v w g w' g', R w g w' g' → x.2 v w g → x.2 v w' g' := by
  induction ps with
  | nil => intro x hx; cases hx
  | cons y r ih =>
    intro x hx
    rcases List.mem_cons.1 hx with rfl | hx
    · exact h.1
    · exact ih h.2 x hx
end
theorem Act.put_size (a : Act) (d : Option Tmp) (v : Value) : (a.put d v).tmps.size = a.tmps.size := by cases d <;> simp [Act.put]
theorem putAll_size (ops : Array Oper) (vs : Nat → Value) : ∀ (l : List Nat) (a : Act), (putAll ops vs l a).tmps.size = a.tmps.size
  | [], a => rfl
  | i :: l, a => by rw [putAll, putAll_size ops vs l, Act.put_size]
theorem putAll_append (ops : Array Oper) (vs : Nat → Value) : ∀ (l m : List Nat) (a : Act), putAll ops vs (l ++ m) a = putAll ops vs m (putAll ops vs l a)
  | [], m, a => rfl
  | i :: l, m, a => by rw [List.cons_append, putAll, putAll_append ops vs l m, putAll]
theorem putAll_congr (ops : Array Oper) {vs us : Nat → Value} : ∀ (l : List Nat) (a : Act), (∀ i ∈ l, vs i = us i) → putAll ops vs l a = putAll ops us l a
  | [], a, _ => rfl
  | i :: l, a, h => by rw [putAll, putAll, h i (List.mem_cons_self ..), putAll_congr ops l _ fun j hj => h j (List.mem_cons_of_mem _ hj)]
theorem putAll_put (ops : Array Oper) (vs : Nat → Value) (d : Option Tmp) (v : Value) : ∀ (l : List Nat) (a : Act), (∀ i ∈ l, ∀ t, d = some t → dstOf ops i ≠ some t) → (putAll ops vs l a).put d v = putAll ops vs l (a.put d v)
  | [], a, _ => rfl
  | i :: l, a, h => by
    rw [putAll, putAll, putAll_put ops vs d v l _ fun j hj => h j (List.mem_cons_of_mem _ hj)]
    rw [Act.put_comm a v (vs i) (h i (List.mem_cons_self ..))]
/-- What a slot holds hangs on those alone that set it. -/
theorem putAll_at (ops : Array Oper) (vs : Nat → Value) (t : Tmp) (f g : Nat → Bool) : ∀ (l : List Nat) (a b : Act), (∀ k ∈ l, dstOf ops k = some t → f k = g k) → a.tmps.size = b.tmps.size → a.tmps[t]? = b.tmps[t]? →
    (putAll ops vs (l.filter f) a).tmps[t]? = (putAll ops vs (l.filter g) b).tmps[t]?
  | [], a, b, _, _, h => h
  | k :: l, a, b, hk, hs, h => by
    have hl := fun j hj => hk j (List.mem_cons_of_mem k hj)
    by_cases hd : dstOf ops k = some t
    · have hfg := hk k (List.mem_cons_self ..) hd
      cases hf : f k
      · rw [List.filter_cons_of_neg (by simp [hf]), List.filter_cons_of_neg (by simp [← hfg, hf])]
        exact putAll_at ops vs t f g l a b hl hs h
      · rw [List.filter_cons_of_pos (by simp [hf]), List.filter_cons_of_pos (by simp [← hfg, hf]), putAll, putAll, hd]
        refine putAll_at ops vs t f g l _ _ hl (by rw [Act.put_size, Act.put_size]; exact hs) ?_
        simp only [Act.put, Array.getElem?_setIfInBounds_self, hs]
    · have hno : ∀ (c : Act), (c.put (dstOf ops k) (vs k)).tmps[t]? = c.tmps[t]? := fun c => by
        cases he : dstOf ops k with
        | none => rfl
        | some d =>
          have : d ≠ t := fun e => hd (by rw [he, e])
          simp only [Act.put]
          rw [Array.getElem?_setIfInBounds_ne this]
      cases hf : f k <;> cases hg : g k
      · rw [List.filter_cons_of_neg (by simp [hf]), List.filter_cons_of_neg (by simp [hg])]
        exact putAll_at ops vs t f g l a b hl hs h
      · rw [List.filter_cons_of_neg (by simp [hf]), List.filter_cons_of_pos (by simp [hg]), putAll]
        exact putAll_at ops vs t f g l a _ hl (by rw [Act.put_size]; exact hs) (by rw [hno]; exact h)
      · rw [List.filter_cons_of_pos (by simp [hf]), List.filter_cons_of_neg (by simp [hg]), putAll]
        exact putAll_at ops vs t f g l _ b hl (by rw [Act.put_size]; exact hs) (by rw [hno]; exact h)
      · rw [List.filter_cons_of_pos (by simp [hf]), List.filter_cons_of_pos (by simp [hg]), putAll, putAll]
        exact putAll_at ops vs t f g l _ _ hl (by rw [Act.put_size, Act.put_size]; exact hs) (by rw [hno, hno]; exact h)
theorem Act.put_inj {a b : Act} (hs : a.tmps.size = b.tmps.size) {d : Option Tmp} {u v : Value} (h : b.put d u = b.put d v) : a.put d u = a.put d v := by
  cases d with
  | none => rfl
  | some d =>
    by_cases hd : d < b.tmps.size
    · have : (b.put (some d) u).tmps[d]? = (b.put (some d) v).tmps[d]? := by rw [h]
      simp only [Act.put, Array.getElem?_setIfInBounds_self, if_pos hd, Option.some.injEq] at this
      rw [this]
    · have : ∀ x, a.put (some d) x = a := fun x => by
        simp only [Act.put]
        rw [Array.setIfInBounds_eq_of_size_le (by rw [hs]; exact Nat.not_lt.1 hd)]
      rw [this, this]
section
variable {P : Program} {ops : Array Oper} {Q : Exit → Act → World → Prop} {md : Region.Mode} {I : World → Prop} {z : Nat}
/-- An operation walked where just what it reads is in the slots. -/
theorem wpOp_of_val {j : Nat} {o : Oper} (hj : ops[j]? = some o) {a b : Act} {w : World} (hex : execOp a.eval o = execOp b.eval o) (hw : Region.wanted o (yielded ops a.tmps) = Region.wanted o (yielded ops b.tmps))
    (hs : a.tmps.size = b.tmps.size) {F : Value → World → Prop} {K : Act → World → Prop} (hK : ∀ v w', F v w' → K (a.put o.dst v) w')
    (h : wpList P ops (Exit.then (fun b' w' => ∃ v, b' = b.put o.dst v ∧ F v w') (fun _ _ _ => False)) [o] b w) : wpOp P ops Q j K a w := by
  have key : ∀ u w', (∃ v, b.put o.dst u = b.put o.dst v ∧ F v w') → K (a.put o.dst u) w' := fun u w' ⟨v, he, hF⟩ => by
    rw [Act.put_inj hs he]
    exact hK v w' hF
  unfold wpOp
  simp only [hj]
  unfold wpList at h
  rw [hw]
  split
  · rename_i hwd
    rw [if_pos hwd] at h
    rcases h with h | ⟨_, _, _, h2⟩
    · left
      unfold Oper.wp at h ⊢
      rw [hex]
      generalize (execOp b.eval o).run P w = r at h ⊢
      cases r with
      | ok n w' =>
        cases n with
        | value u => simp only [Oper.upon, wpList, Exit.then] at h ⊢; exact key _ _ h
        | skip => simp only [Oper.upon, wpList, Exit.then] at h ⊢; exact key _ _ h
        | enter f args =>
          simp only [Oper.upon, wpList, Exit.then] at h ⊢
          refine Calls.mono h fun e w'' he => ?_
          cases e with
          | returned u => exact key _ _ he
          | panicked c => exact he.elim
          | outgrown => obtain ⟨_, _, he⟩ := he; exact he.elim
        | row r args =>
          simp only [Oper.upon, wpList, Exit.then] at h ⊢
          exact Rows.mono h fun u w'' he => key _ _ he
        | defer d =>
          simp only [Oper.upon, wpList, Exit.then] at h ⊢
          exfalso
          obtain ⟨v, he, _⟩ := h
          have : ({ b with defers := d :: b.defers }.put o.dst undef : Act).defers.length = (b.put o.dst v).defers.length := by rw [he]
          cases hd : o.dst <;> simp [hd, Act.put] at this
        | _ => simp only [Oper.upon] at h
      | halt x w' => cases x <;> simp only [Oper.upon, Exit.then] at h
    · exact h2.elim
  · rename_i hwd
    rw [if_neg hwd] at h
    simp only [wpList, Exit.then] at h
    exact key _ _ h
theorem wanted_of_at {o : Oper} {a b : Act} (h : ∀ t ∈ o.looksAt ops, a.tmps[t]? = b.tmps[t]?) : Region.wanted o (yielded ops a.tmps) = Region.wanted o (yielded ops b.tmps) := by
  unfold Region.wanted
  cases hg : o.guard with
  | none => rfl
  | some gw =>
    obtain ⟨g, want⟩ := gw
    have hy : yielded ops a.tmps g = yielded ops b.tmps g := by
      unfold yielded
      cases ht : (ops[g]?).bind (·.dst) with
      | none => rfl
      | some t =>
        have := h t (by simp [Oper.looksAt, hg, ht])
        simp only [Option.bind_some, this]
    simp only [hy]
theorem exec_of_at {o : Oper} (hs : ∀ cs b, o.op ≠ .select cs b) {a b : Act} (h : ∀ t ∈ o.looksAt ops, a.tmps[t]? = b.tmps[t]?) : execOp a.eval o = execOp b.eval o := by
  refine execOp_congr o hs fun x hx => ?_
  cases x with
  | tmp t =>
    have := h t (List.mem_append_left _ (List.mem_filterMap.2 ⟨.tmp t, by simpa using hx, rfl⟩))
    simp only [Act.eval, Array.getD_eq_getD_getElem?, this]
  | _ => rfl
/-- May these come in any order, and nothing else beside them? -/
def blockOk (md : Region.Mode) (ops : Array Oper) (listed : Array Bool) (l : List Nat) : Bool :=
  (l.all fun i => !listed.getD i true && decide (i < ops.size)) && decide (listed.size = ops.size) &&
  decide l.Nodup &&
  (l.all fun i => (aftAt md ops i).all fun k => listed.getD k false || (l.takeWhile fun x => x != i).contains k) &&
  (l.all fun i => l.all fun j => decide (i = j) || (match dstOf ops i with
    | none => true
    | some d => decide (dstOf ops j ≠ some d) && (!(looksAt ops j).contains d || (aftAt md ops j).contains i || (aftAt md ops i).contains j))) &&
  ((List.range ops.size).all fun j => l.contains j || listed.getD j true || (l.all fun i => (aftAt md ops j).contains i) || ((aftAt md ops j).any fun k => !l.contains k && !listed.getD k true))
structure BlockOk (md : Region.Mode) (ops : Array Oper) (listed : Array Bool) (l : List Nat) : Prop where
  un : ∀ i ∈ l, listed.getD i true = false ∧ i < ops.size
  size : listed.size = ops.size
  nodup : l.Nodup
  ord : ∀ i ∈ l, ∀ k ∈ aftAt md ops i, listed.getD k false = true ∨ k ∈ l.takeWhile fun x => x != i
  ap : ∀ i ∈ l, ∀ j ∈ l, i ≠ j → ∀ d, dstOf ops i = some d → dstOf ops j ≠ some d ∧ (d ∈ looksAt ops j → i ∈ aftAt md ops j ∨ j ∈ aftAt md ops i)
  late : ∀ j, j < ops.size → j ∉ l → listed.getD j true = false → (∀ i ∈ l, i ∈ aftAt md ops j) ∨ ∃ k ∈ aftAt md ops j, k ∉ l ∧ listed.getD k true = false
theorem blockOk_spec {listed : Array Bool} {l : List Nat} (h : blockOk md ops listed l = true) : BlockOk md ops listed l := by
  simp only [blockOk, Bool.and_eq_true, List.all_eq_true, decide_eq_true_eq, Bool.not_eq_true', Bool.or_eq_true, List.contains_iff_mem] at h
  obtain ⟨⟨⟨⟨⟨h1, h2⟩, h3⟩, h4⟩, h5⟩, h6⟩ := h
  refine ⟨h1, h2, h3, h4, ?_, ?_⟩
  · intro i hi j hj hij d hd
    have h := (h5 i hi j hj).resolve_left hij
    rw [hd] at h
    simp only [Bool.and_eq_true, decide_eq_true_eq, Bool.or_eq_true, Bool.not_eq_true', List.contains_iff_mem] at h
    refine ⟨h.1, fun hl => ?_⟩
    rcases h.2 with (h7 | h7) | h7
    · rw [List.contains_eq_mem, decide_eq_false_iff_not] at h7
      exact absurd hl h7
    · exact .inl h7
    · exact .inr h7
  · intro j hj hjl hun
    rcases h6 j (List.mem_range.2 hj) with ((h7 | h7) | h7) | h7
    · exact absurd h7 hjl
    · rw [hun] at h7; cases h7
    · exact .inl h7
    · rw [List.any_eq_true] at h7
      obtain ⟨k, hk, h8⟩ := h7
      simp only [Bool.and_eq_true, Bool.not_eq_true', List.contains_eq_mem, decide_eq_false_iff_not] at h8
      exact .inr ⟨k, hk, h8.1, h8.2⟩
def setAll : List Nat → Array Bool → Array Bool
  | [], a => a
  | i :: l, a => setAll l (a.setIfInBounds i true)
theorem setAll_size : ∀ (l : List Nat) (a : Array Bool), (setAll l a).size = a.size
  | [], a => rfl
  | i :: l, a => by rw [setAll, setAll_size l, Array.size_setIfInBounds]
theorem setAll_at (j : Nat) : ∀ (l : List Nat) (a : Array Bool), j < a.size → (setAll l a).getD j true = (l.contains j || a.getD j true)
  | [], a, h => by simp [setAll]
  | i :: l, a, h => by
    rw [setAll, setAll_at j l _ (by simpa using h), List.contains_cons]
    by_cases e : j = i
    · subst e
      simp [h]
    · have e2 : (j == i) = false := by simp [e]
      have e3 : (a.setIfInBounds i true).getD j true = a.getD j true := getD_set_ne true (Ne.symm e)
      rw [e3, e2, Bool.false_or]
theorem getD_lt {a : Array Bool} {j : Nat} (h : j < a.size) (c d : Bool) : a.getD j c = a.getD j d := by simp [h]
section
variable {G : Type}
/-- What is to be shown of one operation of a block. -/
def Obl1 (P : Program) (md : Region.Mode) (ops : Array Oper) (I : World → Prop) (R : World → G → World → G → Prop) (N : Nat → G → Prop) (l : List Nat) (ps : List (Nat × (Value → World → G → Prop))) (a0 : Act) (w0 : World) (g0 : G) (j : Nat) (o : Oper) (p : Value → World → G → Prop) : Prop :=
  ∀ (vs : Nat → Value) (w : World) (g : G), R w0 g0 w g → N j g → AllIf (aftAt md ops j) ps vs w g → wpList P ops (Exit.then (fun b' w' => ∃ v, b' = (putAll ops vs (depsOf md ops l j) a0).put o.dst v ∧ ∃ g', R w g w' g' ∧ (∀ i, i ≠ j → N i g → N i g') ∧ p v w' g') (fun _ _ _ => False)) [o] (putAll ops vs (depsOf md ops l j) a0) w
def Obl (P : Program) (md : Region.Mode) (ops : Array Oper) (I : World → Prop) (R : World → G → World → G → Prop) (N : Nat → G → Prop) (l : List Nat) (ps : List (Nat × (Value → World → G → Prop))) (a0 : Act) (w0 : World) (g0 : G) : List (Nat × (Value → World → G → Prop)) → Prop
  | [] => True
  | (j, p) :: r => (∃ o, ops[j]? = some o ∧ Obl1 P md ops I R N l ps a0 w0 g0 j o p) ∧ Obl P md ops I R N l ps a0 w0 g0 r
theorem Obl.get {R : World → G → World → G → Prop} {N : Nat → G → Prop} {l : List Nat} {ps : List (Nat × (Value → World → G → Prop))} {a0 : Act} {w0 : World} {g0 : G} {qs : List (Nat × (Value → World → G → Prop))} (h : Obl P md ops I R N l ps a0 w0 g0 qs) : ∀ x ∈ qs, ∃ o, ops[x.1]? = some o ∧ Obl1 P md ops I R N l ps a0 w0 g0 x.1 o x.2 := by
  induction qs with
  | nil => intro x hx; cases hx
  | cons y r ih =>
    intro x hx
    rcases List.mem_cons.1 hx with rfl | hx
    · exact h.1
    · exact ih h.2 x hx
theorem filter_split {l : List Nat} (hn : l.Nodup) {j : Nat} (hj : j ∈ l) (f : Nat → Bool) (hf : f j = false) : ∃ A B, l.filter f = A ++ B ∧ (l.filter fun k => k == j || f k) = A ++ j :: B ∧ j ∉ A ∧ j ∉ B ∧ (∀ k ∈ A, k ∈ l) ∧ ∀ k ∈ B, k ∈ l := by
  obtain ⟨l1, l2, rfl⟩ := List.append_of_mem hj
  rw [List.nodup_append] at hn
  obtain ⟨n1, n2, n3⟩ := hn
  rw [List.nodup_cons] at n2
  have h1 : j ∉ l1 := fun h => n3 j h j (List.mem_cons_self ..) rfl
  have e1 : (l1.filter fun k => k == j || f k) = l1.filter f := List.filter_congr fun k hk => by
    have : (k == j) = false := by simp; intro e; exact h1 (e ▸ hk)
    rw [this, Bool.false_or]
  have e2 : (l2.filter fun k => k == j || f k) = l2.filter f := List.filter_congr fun k hk => by
    have : (k == j) = false := by simp; intro e; exact n2.1 (e ▸ hk)
    rw [this, Bool.false_or]
  refine ⟨l1.filter f, l2.filter f, ?_, ?_, fun h => h1 (List.mem_filter.1 h).1, fun h => n2.1 (List.mem_filter.1 h).1, fun k hk => List.mem_append_left _ (List.mem_filter.1 hk).1, fun k hk => List.mem_append_right _ (List.mem_cons_of_mem _ (List.mem_filter.1 hk).1)⟩
  · rw [List.filter_append, List.filter_cons_of_neg (by simp [hf])]
  · rw [List.filter_append, List.filter_cons_of_pos (by simp), e1, e2]
theorem wpAnyZ_block {R : World → G → World → G → Prop} {N : Nat → G → Prop} {listed0 : Array Bool} {l : List Nat} {ps : List (Nat × (Value → World → G → Prop))} {a0 : Act} {w0 : World} {g0 : G} {rest : Nat} (hsel : ∀ (j : Nat) (o : Oper) cs b, ops[j]? = some o → o.op ≠ .select cs b)
    (hb : BlockOk md ops listed0 l) (hl : ps.map (·.1) = l) (htr : ∀ w g w1 g1 w2 g2, R w g w1 g1 → R w1 g1 w2 g2 → R w g w2 g2) (hI : ∀ w g, R w0 g0 w g → I w) (hst : AllStable R ps)
    (hobl : Obl P md ops I R N l ps a0 w0 g0 ps) (hk : ∀ vs w g, R w0 g0 w g → AllP ps vs w g → wpAnyZ P md ops Q I z rest (setAll l listed0) (putAll ops vs l a0) w) :
    ∀ (n : Nat) (done : Nat → Bool) (vs : Nat → Value) (listed : Array Bool) (a : Act) (w : World) (g : G),
      (l.filter fun k => !done k).length = n → (∀ k, done k = true → k ∈ l) → listed.size = ops.size → (∀ j, j < ops.size → listed.getD j true = (listed0.getD j true || done j)) →
      R w0 g0 w g → (∀ i, done i = false → N i g) → (∀ x ∈ ps, done x.1 = true → x.2 (vs x.1) w g) → a = putAll ops vs (l.filter done) a0 → (∀ i, done i = true → ∀ k ∈ aftAt md ops i, listed.getD k false = true) →
      wpAnyZ P md ops Q I z (n + rest) listed a w := by
  intro n
  induction n with
  | zero =>
    intro done vs listed a w g hn hd hs hlist hR hN hP ha haft
    have hall : ∀ k ∈ l, done k = true := fun k hk => by
      cases hdk : done k
      · have : k ∈ l.filter fun k => !done k := List.mem_filter.2 ⟨hk, by simp [hdk]⟩
        rw [List.length_eq_zero_iff.1 hn] at this
        cases this
      · rfl
    have hfl : l.filter done = l := List.filter_eq_self.2 hall
    have hle : listed = setAll l listed0 := by
      refine Array.ext (by rw [setAll_size, hs, hb.size]) fun j h1 h2 => ?_
      have hj : j < ops.size := by omega
      have e1 := hlist j hj
      have e2 := setAll_at j l listed0 (by rw [hb.size]; exact hj)
      have e3 : done j = l.contains j := by
        cases hdj : done j
        · cases hc : l.contains j
          · rfl
          · rw [hall j (List.contains_iff_mem.1 hc)] at hdj; cases hdj
        · exact (List.contains_iff_mem.2 (hd j hdj)).symm
      rw [e3, Bool.or_comm, ← e2] at e1
      simpa [h1, h2] using e1
    rw [Nat.zero_add, ha, hfl, hle]
    exact hk vs w g hR (AllP.get fun x hx => hP x hx (hall x.1 (by rw [← hl]; exact List.mem_map.2 ⟨x, hx, rfl⟩)))
  | succ n ih =>
    intro done vs listed a w g hn hd hs hlist hR hN hP ha haft
    have hlt : ∀ j, ∀ c d : Bool, j < ops.size → listed.getD j c = listed.getD j d := fun j c d hj => getD_lt (by omega) c d
    -- one that has not come yet
    obtain ⟨m0, hm0⟩ : ∃ m, m ∈ l.filter fun k => !done k := List.exists_mem_of_length_pos (by omega)
    have hm0l := (List.mem_filter.1 hm0).1
    have hm0d : done m0 = false := by simpa using (List.mem_filter.1 hm0).2
    have hun0 : ∀ k, k ∈ l → done k = false → listed.getD k true = false := fun k hk hdk => by
      rw [hlist k (hb.un k hk).2, (hb.un k hk).1, hdk]; rfl
    have hjl : ∀ j, j ∈ Region.ready md ops listed → j ∈ l := fun j hj => by
      obtain ⟨hjun, oj, hoj, hall⟩ := mem_ready.1 hj
      have hjs : j < ops.size := (Array.getElem?_eq_some_iff.1 hoj).1
      have hjat : aftAt md ops j = aftOf md oj := by unfold aftAt; rw [hoj]
      have hall2 : ∀ k ∈ aftAt md ops j, listed.getD k false = true := fun k hk => by
        rw [hjat] at hk
        obtain ⟨e, he, rfl⟩ := List.mem_map.1 hk
        have he := List.mem_filter.1 he
        exact hall e (by simpa using he.1) he.2
      apply Classical.byContradiction
      intro hjn
      have h0 : listed0.getD j true = false := by
        have := hlist j hjs
        rw [hjun] at this
        cases h : listed0.getD j true
        · rfl
        · rw [h] at this; cases this
      rcases hb.late j hjs hjn h0 with h1 | ⟨k, hk, hkl, hku⟩
      · have h2 := hall2 m0 (h1 m0 hm0l)
        have h3 := hun0 m0 hm0l hm0d
        rw [getD_low h3] at h2; cases h2
      · have h2 := hall2 k hk
        have hks : k < listed0.size := by
          apply Classical.byContradiction
          intro h
          simp [Array.getElem?_eq_none (Nat.not_lt.1 h)] at hku
        have h3 := hlist k (by rw [← hb.size]; exact hks)
        have hdk : done k = false := by
          cases h : done k
          · rfl
          · exact absurd (hd k h) hkl
        rw [hku, hdk] at h3
        rw [getD_low h3] at h2; cases h2
    rw [show n + 1 + rest = (n + rest) + 1 by omega]
    refine ⟨fun hnil => ?_, fun j hj => ?_⟩
    · -- the first that has not come yet may come
      exfalso
      have hfind : ∃ j ∈ l, done j = false ∧ ∀ k ∈ l.takeWhile fun x => x != j, done k = true := by
        have gen : ∀ (l : List Nat), l.Nodup → (∃ m ∈ l, done m = false) → ∃ j ∈ l, done j = false ∧ ∀ k ∈ l.takeWhile fun x => x != j, done k = true := by
          intro l
          induction l with
          | nil => rintro _ ⟨m, hm, _⟩; cases hm
          | cons x l ihl =>
            rintro hnd ⟨m, hm, hmd⟩
            rw [List.nodup_cons] at hnd
            cases hx : done x
            · exact ⟨x, List.mem_cons_self .., hx, by simp⟩
            · have hml : m ∈ l := by
                rcases List.mem_cons.1 hm with rfl | h
                · rw [hmd] at hx; cases hx
                · exact h
              obtain ⟨j, hj, hjd, hjt⟩ := ihl hnd.2 ⟨m, hml, hmd⟩
              refine ⟨j, List.mem_cons_of_mem _ hj, hjd, fun k hk => ?_⟩
              have hxj : x ≠ j := fun e => hnd.1 (e ▸ hj)
              rw [List.takeWhile_cons_of_pos (by simpa using hxj)] at hk
              rcases List.mem_cons.1 hk with rfl | hk
              · exact hx
              · exact hjt k hk
        exact gen l hb.nodup ⟨m0, hm0l, hm0d⟩
      obtain ⟨j, hjl2, hjd, hjt⟩ := hfind
      obtain ⟨oj, hoj⟩ : ∃ o, ops[j]? = some o := ⟨_, Array.getElem?_eq_getElem (hb.un j hjl2).2⟩
      have hr : j ∈ Region.ready md ops listed := mem_ready.2 ⟨hun0 j hjl2 hjd, oj, hoj, fun e he hbd => by
        have hk : e.on ∈ aftAt md ops j := by
          unfold aftAt; rw [hoj]
          exact List.mem_map.2 ⟨e, List.mem_filter.2 ⟨by simpa using he, hbd⟩, rfl⟩
        rcases hb.ord j hjl2 e.on hk with h1 | h1
        · have hks : e.on < listed0.size := by
            apply Classical.byContradiction
            intro h
            simp [Array.getElem?_eq_none (Nat.not_lt.1 h)] at h1
          have hks2 : e.on < ops.size := by rw [← hb.size]; exact hks
          rw [hlt e.on false true hks2, hlist e.on hks2, getD_lt hks true false, h1]; rfl
        · have hkl := (List.takeWhile_prefix _).subset h1
          have hks2 := (hb.un _ hkl).2
          rw [hlt e.on false true hks2, hlist e.on hks2, hjt _ h1, Bool.or_true]⟩
      rw [hnil] at hr
      cases hr
    · have hjl2 := hjl j hj
      obtain ⟨hjun, oj, hoj, hall⟩ := mem_ready.1 hj
      have hjs : j < ops.size := (hb.un j hjl2).2
      have hjat : aftAt md ops j = aftOf md oj := by unfold aftAt; rw [hoj]
      have hlk : looksAt ops j = oj.looksAt ops := by unfold looksAt; rw [hoj]
      have hall2 : ∀ k ∈ aftAt md ops j, listed.getD k false = true := fun k hk => by
        rw [hjat] at hk
        obtain ⟨e, he, rfl⟩ := List.mem_map.1 hk
        have he := List.mem_filter.1 he
        exact hall e (by simpa using he.1) he.2
      have hjd : done j = false := by
        cases h : done j
        · rfl
        · have := hlist j hjs
          rw [hjun, h, Bool.or_true] at this; cases this
      have hdone : ∀ k ∈ l, k ∈ aftAt md ops j → done k = true := fun k hk hka => by
        have h1 := hall2 k hka
        cases h : done k
        · rw [getD_low (hun0 k hk h)] at h1; cases h1
        · rfl
      obtain ⟨x, hx, hxj⟩ : ∃ x ∈ ps, x.1 = j := by rw [← hl] at hjl2; exact List.mem_map.1 hjl2
      obtain ⟨o', ho', hob⟩ := hobl.get x hx
      rw [hxj] at ho' hob
      obtain rfl : o' = oj := Option.some.inj (ho'.symm.trans hoj)
      have hob := hob vs w g hR (hN j hjd) (AllIf.get fun y hy hya => hP y hy (hdone y.1 (by rw [← hl]; exact List.mem_map.2 ⟨y, hy, rfl⟩) (List.contains_iff_mem.1 hya)))
      have hat : ∀ t ∈ o'.looksAt ops, a.tmps[t]? = (putAll ops vs (depsOf md ops l j) a0).tmps[t]? := fun t ht => by
        rw [ha]
        unfold depsOf
        refine putAll_at ops vs t _ _ l a0 a0 (fun k hk hkd => ?_) rfl rfl
        rw [← hlk] at ht
        have hin : inDst ops k (looksAt ops j) = true := by unfold inDst; rw [hkd]; exact List.contains_iff_mem.2 ht
        rw [hin, Bool.and_true]
        cases hc : (aftAt md ops j).contains k
        · cases hdk : done k
          · rfl
          · exfalso
            have hkj : k ≠ j := fun e => by rw [e, hjd] at hdk; cases hdk
            rcases (hb.ap k hk j hjl2 hkj t hkd).2 ht with h1 | h1
            · rw [List.contains_iff_mem.2 h1] at hc; cases hc
            · have := haft k hdk j h1
              rw [getD_low hjun] at this; cases this
        · exact hdone k hk (List.contains_iff_mem.1 hc)
      have hsz : a.tmps.size = (putAll ops vs (depsOf md ops l j) a0).tmps.size := by rw [ha, putAll_size, putAll_size]
      refine wpOp_of_val hoj (exec_of_at (fun cs b => hsel j o' cs b hoj) hat) (wanted_of_at hat) hsz ?_ hob
      rintro v w' ⟨g', hR', hN', hp⟩
      have hR2 := htr _ _ _ _ _ _ hR hR'
      refine ⟨fun _ => hI w' g' hR2, ?_⟩
      refine ih (fun k => k == j || done k) (fun k => if k = j then v else vs k) _ _ w' g' ?_ ?_ ?_ ?_ hR2 (fun i hi => by
        simp only [Bool.or_eq_false_iff, beq_eq_false_iff_ne] at hi
        exact hN' i hi.1 (hN i hi.2)) ?_ ?_ ?_
      · obtain ⟨A, B, e1, e2, nA, nB, _, _⟩ := filter_split hb.nodup hjl2 (fun k => !done k && k != j) (by simp)
        have e3 : (l.filter fun k => !(k == j || done k)) = l.filter fun k => !done k && k != j := List.filter_congr fun k _ => by
          rw [Bool.not_or, Bool.and_comm]; rfl
        have e4 : (l.filter fun k => !done k) = l.filter fun k => k == j || (!done k && k != j) := List.filter_congr fun k _ => by
          by_cases h : k = j
          · subst h; simp [hjd]
          · have : (k == j) = false := by simp [h]
            cases done k <;> simp [bne, this]
        rw [e3, e1]
        rw [e4, e2] at hn
        simp only [List.length_append, List.length_cons] at hn ⊢
        omega
      · intro k hk
        simp only [Bool.or_eq_true, beq_iff_eq] at hk
        rcases hk with rfl | hk
        · exact hjl2
        · exact hd k hk
      · rw [Array.size_setIfInBounds]; exact hs
      · intro k hk
        by_cases e : k = j
        · subst e
          simp [hs, hk]
        · have h2 : (listed.setIfInBounds j true).getD k true = listed.getD k true := getD_set_ne true (Ne.symm e)
          have h3 : (k == j) = false := by simp [e]
          rw [h2, hlist k hk]
          simp only [h3, Bool.false_or]
      · intro y hy hyd
        by_cases e : y.1 = j
        · rw [if_pos e]
          have : y = x := by
            have hnd := hb.nodup
            rw [← hl] at hnd
            have key : ∀ (ps : List (Nat × (Value → World → G → Prop))), (ps.map (·.1)).Nodup → ∀ x ∈ ps, ∀ y ∈ ps, y.1 = x.1 → y = x := by
              intro ps
              induction ps with
              | nil => intro _ x hx; cases hx
              | cons q r ihq =>
                intro hnd x hx y hy hxy
                rw [List.map_cons, List.nodup_cons] at hnd
                rcases List.mem_cons.1 hx with ex | hx1
                · rcases List.mem_cons.1 hy with ey | hy1
                  · rw [ex, ey]
                  · exact (hnd.1 (List.mem_map.2 ⟨y, hy1, by rw [hxy, ex]⟩)).elim
                · rcases List.mem_cons.1 hy with ey | hy1
                  · exact (hnd.1 (List.mem_map.2 ⟨x, hx1, by rw [← hxy, ey]⟩)).elim
                  · exact ihq hnd.2 x hx1 y hy1 hxy
            exact key ps hnd x hx y hy (by rw [e, hxj])
          rw [this]
          exact hp
        · have h3 : (y.1 == j) = false := by simp [e]
          rw [if_neg e]
          rw [h3, Bool.false_or] at hyd
          exact hst.get y hy _ _ _ _ _ hR' (hP y hy hyd)
      · obtain ⟨A, B, e1, e2, nA, nB, hA, hB⟩ := filter_split hb.nodup hjl2 done hjd
        have hdst : dstOf ops j = o'.dst := by unfold dstOf; rw [hoj]; rfl
        rw [ha, e1, e2, putAll_append, putAll_append, putAll, if_pos rfl, hdst]
        have c1 : putAll ops (fun k => if k = j then v else vs k) A a0 = putAll ops vs A a0 := putAll_congr ops A a0 fun k hk => by show (if k = j then v else vs k) = vs k; exact if_neg fun (e : k = j) => nA (e ▸ hk)
        rw [c1]
        rw [putAll_congr ops (vs := fun k => if k = j then v else vs k) (us := vs) B _ fun k hk => by show (if k = j then v else vs k) = vs k; exact if_neg fun (e : k = j) => nB (e ▸ hk)]
        refine putAll_put ops vs o'.dst v B _ fun k hk t ht => ?_
        rw [← hdst] at ht
        exact (hb.ap j hjl2 k (hB k hk) (fun e => nB (e ▸ hk)) t ht).1
      · intro i hi k hk
        have hstep : listed.getD k false = true → (listed.setIfInBounds j true).getD k false = true := fun h => by
          by_cases e : k = j
          · subst e; simp [hs, hjs]
          · rw [getD_set_ne false (Ne.symm e)]; exact h
        by_cases e : i = j
        · subst e
          exact hstep (hall2 k hk)
        · have h3 : (i == j) = false := by simp [e]
          rw [h3, Bool.false_or] at hi
          exact hstep (haft i hi k hk)
end
/-! ### plans with blocks -/
inductive Step5 where
  | early (i : Nat) (B : List Nat)
  | big (i : Nat)
  | block (l : List Nat)
def planLen : List Step5 → Nat
  | [] => 0
  | .early _ _ :: r => planLen r + 1
  | .big _ :: r => planLen r + 1
  | .block l :: r => l.length + planLen r
def planOk5 (md : Region.Mode) (ops : Array Oper) (z : Nat) : List Step5 → Array Bool → Bool
  | [], listed => (Region.ready md ops listed).isEmpty
  | .big i :: rest, listed => decide (Region.ready md ops listed = [i]) && (decide (i ≠ z) || rest.isEmpty) && planOk5 md ops z rest (listed.setIfInBounds i true)
  | .early i B :: rest, listed =>
    (B.contains z || decide (ops.size ≤ z)) && (Region.ready md ops listed).contains i &&
    (match ops[i]? with
     | none => false
     | some oi =>
       (B.all fun j => decide (j ≠ i) && !listed.getD j true && (match ops[j]? with | none => false | some oj => oj.after.any fun e => Region.binds md e && (e.on == i || B.contains e.on))) &&
       ((List.range ops.size).all fun j => decide (j = i) || B.contains j || listed.getD j true || (match ops[j]? with | none => false | some oj => oi.apart ops oj))) &&
    planOk5 md ops z rest (listed.setIfInBounds i true)
  | .block l :: rest, listed => blockOk md ops listed l && planOk5 md ops z rest (setAll l listed)
/-- What is to be shown along a plan. -/
def wpPlan5 (P : Program) (md : Region.Mode) (ops : Array Oper) (Q : Exit → Act → World → Prop) (I : World → Prop) (z : Nat) : List Step5 → Act → World → Prop
  | [], a, w => Q .normal a w
  | .big i :: rest, a, w => wpList P ops (Exit.then (fun a' w' => (i ≠ z → I w') ∧ wpPlan5 P md ops Q I z rest a' w') Q) ((ops[i]?).toList) a w
  | .early i _ :: rest, a, w => ∃ a', (∀ w1, I w1 → wpStill P ops w1 (fun b => b = a') ((ops[i]?).toList) a) ∧ wpPlan5 P md ops Q I z rest a' w
  | .block l :: rest, a, w => ∃ (G : Type) (R : World → G → World → G → Prop) (N : Nat → G → Prop) (g0 : G) (ps : List (Nat × (Value → World → G → Prop))), ps.map (·.1) = l ∧ (∀ i, N i g0) ∧ R w g0 w g0 ∧ (∀ w g w1 g1 w2 g2, R w g w1 g1 → R w1 g1 w2 g2 → R w g w2 g2) ∧
      (∀ w' g', R w g0 w' g' → I w') ∧ AllStable R ps ∧ Obl P md ops I R N l ps a w g0 ps ∧ ∀ vs w' g', R w g0 w' g' → AllP ps vs w' g' → wpPlan5 P md ops Q I z rest (putAll ops vs l a) w'
theorem wpAny_of_plan5 (hsel : Region.noSelect ops = true) (hQ : ∀ c a w d v, Q (.panic c) (a.put d v) w → Q (.panic c) a w) :
    ∀ (l : List Step5) (listed : Array Bool) (a : Act) (w : World), planOk5 md ops z l listed = true → (l ≠ [] → I w) → wpPlan5 P md ops Q I z l a w → wpAnyZ P md ops Q I z (planLen l) listed a w
  | [], listed, a, w, hB, hI, h => ⟨by simpa [planOk5] using hB, h⟩
  | .big i :: l, listed, a, w, hB, hI, h => by
    simp only [planOk5, Bool.and_eq_true, decide_eq_true_eq] at hB
    obtain ⟨⟨hB1, hBz⟩, hB2⟩ := hB
    refine ⟨fun h1 => (by rw [hB1] at h1; cases h1), fun j hj => ?_⟩
    rw [hB1] at hj
    have hji : j = i := by simpa using hj
    subst hji
    have hr : j ∈ Region.ready md ops listed := by rw [hB1]; simp
    obtain ⟨_, oj, hoj, _⟩ := mem_ready.1 hr
    simp only [wpPlan5, hoj, Option.toList_some] at h
    have hw : wpOp P ops Q j (fun a' w' => (j ≠ z → I w') ∧ wpPlan5 P md ops Q I z l a' w') a w := by
      unfold wpOp
      simp only [hoj]
      unfold wpList at h
      split
      · rename_i hw
        rw [if_pos hw] at h
        rcases h with h | ⟨h1, h2⟩
        · left
          unfold Oper.wp at h ⊢
          generalize (execOp a.eval oj).run P w = r at h ⊢
          cases r with
          | ok n w' =>
            cases n <;> simp only [Oper.upon, wpList, Exit.then] at h ⊢ <;> first | exact h | (refine Calls.mono h fun e w'' he => ?_; cases e <;> first | exact he | skip)
          | halt x w' => cases x <;> simp only [Oper.upon, Exit.then] at h ⊢ <;> exact h
        · exact .inr ⟨h1, h2⟩
      · rename_i hw
        rw [if_neg hw] at h
        exact h
    exact wpOp_mono (fun a' w' h' => ⟨h'.1, wpAny_of_plan5 hsel hQ l _ a' w' hB2 (fun hl => h'.1 (by
      simp only [Bool.or_eq_true, decide_eq_true_eq, List.isEmpty_iff] at hBz
      exact hBz.resolve_right hl)) h'.2⟩) hw
  | .early i B :: l, listed, a, w, hB, hI, h => by
    simp only [planOk5, Bool.and_eq_true] at hB
    obtain ⟨⟨⟨hz0, hr⟩, hmid⟩, hrest⟩ := hB
    have hz : z ∈ B ∨ ops.size ≤ z := by simpa using hz0
    have hI := hI (by simp)
    have hr' : i ∈ Region.ready md ops listed := by simpa using hr
    obtain ⟨_, oi, hoi, _⟩ := mem_ready.1 hr'
    simp only [hoi, Bool.and_eq_true] at hmid
    obtain ⟨hb1, hb2⟩ := hmid
    simp only [wpPlan5, hoi, Option.toList_some] at h
    obtain ⟨a', hall, hK⟩ := h
    have hst : ∀ w1, I w1 → ∃ v, YieldsAt P ops w1 oi v a ∧ a.put oi.dst v = a' := fun w1 h1 => by
      have hs : stOp P ops w1 i (fun b => b = a') a := by unfold stOp; simp only [hoi]; exact hall w1 h1
      exact yieldsAt_of_stOp hoi hs
    obtain ⟨v, hv, rfl⟩ := hst w hI
    have hB1 : ∀ j ∈ B, j ≠ i ∧ listed.getD j true = false ∧ ∃ oj, ops[j]? = some oj ∧ ∃ e ∈ oj.after, Region.binds md e = true ∧ (e.on = i ∨ e.on ∈ B) := by
      intro j hj
      have h1 := List.all_eq_true.1 hb1 j hj
      simp only [Bool.and_eq_true, decide_eq_true_eq, Bool.not_eq_true'] at h1
      obtain ⟨⟨h2, h3⟩, h4⟩ := h1
      cases hoj : ops[j]? with
      | none => rw [hoj] at h4; simp at h4
      | some oj =>
        rw [hoj] at h4
        obtain ⟨e, he, hbe⟩ := Array.any_eq_true'.1 h4
        simp only [Bool.and_eq_true, Bool.or_eq_true, beq_iff_eq, List.contains_iff_mem] at hbe
        exact ⟨h2, h3, oj, rfl, e, he, hbe.1, hbe.2⟩
    have hfree : ∀ j oj, ops[j]? = some oj → j ≠ i → j ∉ B → listed.getD j true = false → oi.apart ops oj = true := by
      intro j oj hoj hji hjB hun
      have hlt : j < ops.size := (Array.getElem?_eq_some_iff.1 hoj).1
      have h1 := List.all_eq_true.1 hb2 j (List.mem_range.2 hlt)
      simp only [Bool.or_eq_true, decide_eq_true_eq, List.contains_iff_mem, hoj] at h1
      rcases h1 with ((h1 | h1) | h1) | h1
      · exact absurd h1 hji
      · exact absurd h1 hjB
      · rw [hun] at h1; cases h1
      · exact h1
    exact wpAnyZ_early (B := B) hoi (Region.noSelect_spec hsel) (fun c a w => hQ c a w oi.dst v) (fun j hj => ⟨(hB1 j hj).1, (hB1 j hj).2.2⟩) hz (planLen l) listed a w (fun j hj => (hB1 j hj).2.1) hfree hr' hI hst
      (wpAny_of_plan5 hsel hQ l _ _ w hrest (fun _ => hI) hK)
  | .block bl :: l, listed, a, w, hB, hI, h => by
    simp only [planOk5, Bool.and_eq_true] at hB
    obtain ⟨hbl, hrest⟩ := hB
    have hb := blockOk_spec hbl
    simp only [wpPlan5] at h
    obtain ⟨G, R, N, g0, ps, h1, hN0, h2, h3, h4, h5, h6, h7⟩ := h
    have := wpAnyZ_block (Q := Q) (z := z) (rest := planLen l) (Region.noSelect_spec hsel) hb h1 h3 h4 h5 h6 (fun vs w' g' hR hP => wpAny_of_plan5 hsel hQ l _ _ w' hrest (fun _ => h4 w' g' hR) (h7 vs w' g' hR hP))
      bl.length (fun _ => false) (fun _ => undef) listed a w g0 (by simp) (fun k hk => by cases hk) hb.size (fun j _ => (Bool.or_false _).symm) h2 (fun i _ => hN0 i) (fun _ _ hx => by cases hx)
      (by have : (bl.filter fun _ => false) = [] := by simp
          rw [this]; rfl) (fun _ hi => by cases hi)
    exact this
/-- A region that draws, walked along a plan. -/
theorem wp_region_plan5 {id : Nat} {a : Act} {w : World} {l : List Oper} (plan : List Step5) (z : Nat) (I : World → Prop) (hm : P.follows .mixedOrders = true)
    (hB : (Region.noSelect l.toArray && decide (planLen plan = l.toArray.size) && planOk5 .any l.toArray z plan (Array.replicate l.toArray.size false)) = true)
    (hQ : ∀ c a w d v, Q (.panic c) (a.put d v) w → Q (.panic c) a w) (hI : I w.drew)
    (h : wpPlan5 P .any l.toArray Q I z plan a w.drew) : (Code.region id l.toArray true).wp P Q a w := by
  simp only [Bool.and_eq_true, decide_eq_true_eq] at hB
  obtain ⟨⟨h1, h2⟩, h3⟩ := hB
  refine wp_region_any hm ?_
  have := (wpAny_of_plan5 h1 hQ plan _ a _ h3 (fun _ => hI) h).any
  rw [h2] at this
  exact this
theorem plan5_early {i : Nat} {B : List Nat} {rest : List Step5} {a : Act} {w : World} {o : Oper} (a' : Act) (hi : ops[i]? = some o)
    (h : ∀ w1, I w1 → wpStill P ops w1 (fun b => b = a') [o] a) (h2 : wpPlan5 P md ops Q I z rest a' w) : wpPlan5 P md ops Q I z (.early i B :: rest) a w := by
  simp only [wpPlan5, hi, Option.toList_some]; exact ⟨a', h, h2⟩
theorem plan5_big {i : Nat} {rest : List Step5} {a : Act} {w : World} {o : Oper} (hi : ops[i]? = some o)
    (h : wpList P ops (Exit.then (fun a' w' => (i ≠ z → I w') ∧ wpPlan5 P md ops Q I z rest a' w') Q) [o] a w) : wpPlan5 P md ops Q I z (.big i :: rest) a w := by
  simp only [wpPlan5, hi, Option.toList_some]; exact h
theorem plan5_nil {a : Act} {w : World} (h : Q .normal a w) : wpPlan5 P md ops Q I z [] a w := h
theorem plan5_blockN {G : Type} {R : World → G → World → G → Prop} (N : Nat → G → Prop) {g0 : G} {l : List Nat} {rest : List Step5} {a : Act} {w : World} (ps : List (Nat × (Value → World → G → Prop))) (hl : ps.map (·.1) = l) (hN : ∀ i, N i g0) (hr : R w g0 w g0) (ht : ∀ w g w1 g1 w2 g2, R w g w1 g1 → R w1 g1 w2 g2 → R w g w2 g2)
    (hI : ∀ w' g', R w g0 w' g' → I w') (hst : AllStable R ps) (ho : Obl P md ops I R N l ps a w g0 ps) (hk : ∀ vs w' g', R w g0 w' g' → AllP ps vs w' g' → wpPlan5 P md ops Q I z rest (putAll ops vs l a) w') : wpPlan5 P md ops Q I z (.block l :: rest) a w :=
  ⟨G, R, N, g0, ps, hl, hN, hr, ht, hI, hst, ho, hk⟩
theorem plan5_block {G : Type} {R : World → G → World → G → Prop} {g0 : G} {l : List Nat} {rest : List Step5} {a : Act} {w : World} (ps : List (Nat × (Value → World → G → Prop))) (hl : ps.map (·.1) = l) (hr : R w g0 w g0) (ht : ∀ w g w1 g1 w2 g2, R w g w1 g1 → R w1 g1 w2 g2 → R w g w2 g2)
    (hI : ∀ w' g', R w g0 w' g' → I w') (hst : AllStable R ps) (ho : Obl P md ops I R (fun _ _ => True) l ps a w g0 ps) (hk : ∀ vs w' g', R w g0 w' g' → AllP ps vs w' g' → wpPlan5 P md ops Q I z rest (putAll ops vs l a) w') : wpPlan5 P md ops Q I z (.block l :: rest) a w :=
  ⟨G, R, fun _ _ => True, g0, ps, hl, fun _ => trivial, hr, ht, hI, hst, ho, hk⟩
/-- Whatever there was stays as it was. -/
def RNew (w : World) (_ : Unit) (w' : World) (_ : Unit) : Prop := Below w.heap.size w w'
theorem plan5_new {l : List Nat} {rest : List Step5} {a : Act} {w : World} (ps : List (Nat × (Value → World → Unit → Prop))) (hl : ps.map (·.1) = l)
    (hI : ∀ w', Below w.heap.size w w' → I w') (hst : AllStable RNew ps) (ho : Obl P md ops I RNew (fun _ _ => True) l ps a w () ps) (hk : ∀ vs w', Below w.heap.size w w' → AllP ps vs w' () → wpPlan5 P md ops Q I z rest (putAll ops vs l a) w') : wpPlan5 P md ops Q I z (.block l :: rest) a w :=
  plan5_block (R := RNew) ps hl (Below.refl _ _) (fun w g w1 g1 w2 g2 h1 h2 => Below.trans h1 (Below.mono h2 h1.size)) (fun w' _ h => hI w' h) hst ho (fun vs w' _ => hk vs w')
/-- The slots that are set, told one by one. -/
def putD (vs : Nat → Value) : List (Nat × Tmp) → Act → Act
  | [], a => a
  | (i, d) :: r, a => putD vs r (a.put (some d) (vs i))
theorem putAll_putD (ops : Array Oper) (vs : Nat → Value) : ∀ (D : List (Nat × Tmp)) (l : List Nat) (a : Act), l = D.map (·.1) → (D.all fun x => decide (dstOf ops x.1 = some x.2)) = true → putAll ops vs l a = putD vs D a
  | [], l, a, h, _ => by subst h; rfl
  | (i, d) :: r, l, a, h, hd => by
    subst h
    simp only [List.all_cons, Bool.and_eq_true, decide_eq_true_eq] at hd
    rw [List.map_cons, putAll, putD, hd.1]
    exact putAll_putD ops vs r _ _ rfl hd.2
theorem obl_consN {G : Type} {R : World → G → World → G → Prop} {N : Nat → G → Prop} {l : List Nat} {ps : List (Nat × (Value → World → G → Prop))} {a0 : Act} {w0 : World} {g0 : G} {j : Nat} {p : Value → World → G → Prop} {r : List (Nat × (Value → World → G → Prop))} {o : Oper} (D : List (Nat × Tmp)) (hi : ops[j]? = some o)
    (hD : (decide (depsOf md ops l j = D.map (·.1)) && D.all fun x => decide (dstOf ops x.1 = some x.2)) = true)
    (h : ∀ (vs : Nat → Value) (w : World) (g : G), R w0 g0 w g → N j g → AllIf (aftAt md ops j) ps vs w g → wpList P ops (Exit.then (fun b' w' => ∃ v, b' = (putD vs D a0).put o.dst v ∧ ∃ g', R w g w' g' ∧ (∀ i, i ≠ j → N i g → N i g') ∧ p v w' g') (fun _ _ _ => False)) [o] (putD vs D a0) w)
    (h2 : Obl P md ops I R N l ps a0 w0 g0 r) : Obl P md ops I R N l ps a0 w0 g0 ((j, p) :: r) := by
  simp only [Bool.and_eq_true, decide_eq_true_eq] at hD
  refine ⟨⟨o, hi, fun vs w g hR hN hP => ?_⟩, h2⟩
  rw [putAll_putD ops vs D _ a0 hD.1 hD.2]
  exact h vs w g hR hN hP
theorem wpList_mono {o : Oper} {a : Act} {w : World} {K K' : Act → World → Prop} (hK : ∀ a w, K a w → K' a w) (h : wpList P ops (Exit.then K (fun _ _ _ => False)) [o] a w) : wpList P ops (Exit.then K' (fun _ _ _ => False)) [o] a w := by
  unfold wpList at h ⊢
  split
  · rename_i hw
    rw [if_pos hw] at h
    rcases h with h | ⟨_, _, _, h2⟩
    · left
      unfold Oper.wp at h ⊢
      generalize (execOp a.eval o).run P w = r at h ⊢
      cases r with
      | ok n w' =>
        cases n <;> simp only [Oper.upon, wpList, Exit.then] at h ⊢ <;>
          first
            | exact hK _ _ h
            | exact Calls.mono h (fun e w'' he => by cases e <;> first | exact hK _ _ he | exact he | exact he.elim | (obtain ⟨_, _, he⟩ := he; exact he.elim))
            | exact Rows.mono h (fun _ _ he => hK _ _ he)
      | halt x w' => cases x <;> simp only [Oper.upon, Exit.then] at h ⊢ <;> exact h
    · exact h2.elim
  · rename_i hw
    rw [if_neg hw] at h
    exact hK _ _ h
theorem obl_cons {G : Type} {R : World → G → World → G → Prop} {l : List Nat} {ps : List (Nat × (Value → World → G → Prop))} {a0 : Act} {w0 : World} {g0 : G} {j : Nat} {p : Value → World → G → Prop} {r : List (Nat × (Value → World → G → Prop))} {o : Oper} (D : List (Nat × Tmp)) (hi : ops[j]? = some o)
    (hD : (decide (depsOf md ops l j = D.map (·.1)) && D.all fun x => decide (dstOf ops x.1 = some x.2)) = true)
    (h : ∀ (vs : Nat → Value) (w : World) (g : G), R w0 g0 w g → AllIf (aftAt md ops j) ps vs w g → wpList P ops (Exit.then (fun b' w' => ∃ v, b' = (putD vs D a0).put o.dst v ∧ ∃ g', R w g w' g' ∧ p v w' g') (fun _ _ _ => False)) [o] (putD vs D a0) w)
    (h2 : Obl P md ops I R (fun _ _ => True) l ps a0 w0 g0 r) : Obl P md ops I R (fun _ _ => True) l ps a0 w0 g0 ((j, p) :: r) :=
  obl_consN D hi hD (fun vs w g hR _ hP => wpList_mono (fun b w' ⟨v, h1, g', h2, h3⟩ => ⟨v, h1, g', h2, fun _ _ _ => trivial, h3⟩) (h vs w g hR hP)) h2
theorem obl_nil {G : Type} {R : World → G → World → G → Prop} {N : Nat → G → Prop} {l : List Nat} {ps : List (Nat × (Value → World → G → Prop))} {a0 : Act} {w0 : World} {g0 : G} : Obl P md ops I R N l ps a0 w0 g0 [] := trivial
/-- Behind a block. -/
theorem plan5_after {vs : Nat → Value} {l : List Nat} {rest : List Step5} {a : Act} {w : World} (D : List (Nat × Tmp)) (D0 : List Nat) (hD : (decide (l.filter (fun i => (dstOf ops i).isSome) = D.map (·.1)) && D.all fun x => decide (dstOf ops x.1 = some x.2)) = true)
    (h : wpPlan5 P md ops Q I z rest (putD vs D a) w) : wpPlan5 P md ops Q I z rest (putAll ops vs l a) w := by
  simp only [Bool.and_eq_true, decide_eq_true_eq] at hD
  have key : ∀ (l : List Nat) (a : Act), putAll ops vs l a = putAll ops vs (l.filter fun i => (dstOf ops i).isSome) a := by
    intro l
    induction l with
    | nil => intro a; rfl
    | cons i l ih =>
      intro a
      cases hd : dstOf ops i with
      | none => rw [List.filter_cons_of_neg (by simp [hd]), putAll, hd]; exact ih a
      | some d => rw [List.filter_cons_of_pos (by simp [hd]), putAll, putAll]; exact ih _
  rw [key, putAll_putD ops vs D _ a hD.1 hD.2]
  exact h
end
end Go.PM
