/- Layer 2: a plain arena is the document's plain arena seen as what is live; plain facts about calls. -/
import Derived.Test.YtemibcglhbjaoaaCellsDoes
import Derived.Test.YtemibcglhbjaoaaCellsPure
set_option linter.unusedVariables false
set_option linter.unusedSimpArgs false
namespace Go.Proofs.Ytemibcglhbjaoaa
open Go.RowKit Go.PM

def entsFrom : Int → List (List Int) → List (Int × List Int)
  | _, [] => []
  | n, x :: l => if x.length = 0 then entsFrom (n + 1) l else (n, x) :: entsFrom (n + 1) l
def atFrom (n : Int) (l : List (List Int)) (b : Int) : List Int := if b < n ∨ n + l.length ≤ b then [] else l.getD (b - n).toNat []
theorem atFrom_nil (n b : Int) : atFrom n [] b = [] := by unfold atFrom; split <;> simp
theorem atFrom_cons (n b : Int) (x : List Int) (l : List (List Int)) : atFrom n (x :: l) b = if b = n then x else atFrom (n + 1) l b := by
  unfold atFrom
  by_cases hb : b = n
  · subst hb
    rw [if_neg (by simp; omega), if_pos rfl]
    simp
  · rw [if_neg hb]
    by_cases h2 : b < n ∨ n + (x :: l).length ≤ b
    · rw [if_pos h2, if_pos (by simp at h2 ⊢; omega)]
    · rw [if_neg h2, if_neg (by simp at h2 ⊢; omega)]
      have e : (b - n).toNat = (b - (n + 1)).toNat + 1 := by simp at h2; omega
      rw [e, List.getD_cons_succ]
theorem atFrom_low {n b : Int} (h : b < n) (l : List (List Int)) : atFrom n l b = [] := by unfold atFrom; rw [if_pos (.inl h)]
theorem ents_find (l : List (List Int)) : ∀ n b : Int, ((entsFrom n l).find? (fun p => p.1 == b)).map (·.2) = if (atFrom n l b).length = 0 then none else some (atFrom n l b) := by
  induction l with
  | nil => intro n b; simp [entsFrom, atFrom_nil]
  | cons x l ih =>
    intro n b
    rw [atFrom_cons]
    unfold entsFrom
    by_cases hx : x.length = 0
    · rw [if_pos hx, ih]
      by_cases hb : b = n
      · subst hb
        rw [if_pos rfl, if_pos hx, atFrom_low (by omega)]; rfl
      · rw [if_neg hb]
    · rw [if_neg hx, List.find?_cons]
      by_cases hb : b = n
      · subst hb
        simp [hx]
      · have : (n == b) = false := by simp; omega
        simp only [this, if_neg hb]
        exact ih _ _
theorem ents_append (l : List (List Int)) (x : List Int) (hx : 0 < x.length) : ∀ n : Int, entsFrom n (l ++ [x]) = entsFrom n l ++ [(n + l.length, x)] := by
  induction l with
  | nil => intro n; simp only [List.nil_append, entsFrom, if_neg (show ¬x.length = 0 by omega), List.length_nil]; simp
  | cons y l ih =>
    intro n
    have e : n + 1 + (l.length : Int) = n + ((y :: l).length : Nat) := by simp; omega
    simp only [List.cons_append, entsFrom, ih, e]
    split <;> rfl
theorem ents_erase (l : List (List Int)) : ∀ (n : Int) (j : Nat) (hj : j < l.length) (h : 0 < l[j].length), entsFrom n (l.set j []) = (entsFrom n l).eraseP (fun p => p.1 == n + (j : Int)) := by
  induction l with
  | nil => intro n j hj; simp at hj
  | cons x l ih =>
    intro n j hj h
    cases j with
    | zero =>
      simp only [List.getElem_cons_zero] at h
      simp only [List.set_cons_zero, entsFrom, if_neg (show ¬x.length = 0 by omega)]
      rw [List.eraseP_cons_of_pos (by simp)]
      simp
    | succ j =>
      simp only [List.getElem_cons_succ] at h
      have e : n + ((j + 1 : Nat) : Int) = n + 1 + (j : Int) := by omega
      simp only [List.set_cons_succ, entsFrom, e]
      rw [ih (n + 1) j (by simpa using hj) h]
      split
      · rfl
      · rw [List.eraseP_cons_of_neg (by simp; omega)]
theorem ents_low (l : List (List Int)) : ∀ (n b : Int) (i : Nat) (v : Int), b < n → setAt (entsFrom n l) b i v = entsFrom n l := by
  induction l with
  | nil => intro n b i v h; rfl
  | cons x l ih =>
    intro n b i v h
    have hn : (n == b) = false := by simp; omega
    have := ih (n + 1) b i v (by omega)
    unfold setAt at this ⊢
    unfold entsFrom
    split
    · exact this
    · simp only [List.map_cons, hn, this]; rfl
theorem ents_set (l : List (List Int)) : ∀ (n : Int) (j : Nat) (i : Nat) (v : Int) (hj : j < l.length), setAt (entsFrom n l) (n + (j : Int)) i v = entsFrom n (l.set j (l[j].set i v)) := by
  induction l with
  | nil => intro n j i v hj; simp at hj
  | cons x l ih =>
    intro n j i v hj
    cases j with
    | zero =>
      have h0 : n + ((0 : Nat) : Int) = n := by simp
      have hl := ents_low l (n + 1) n i v (by omega)
      rw [h0]
      simp only [List.getElem_cons_zero, List.set_cons_zero, entsFrom, List.length_set]
      split
      · exact hl
      · unfold setAt at hl ⊢
        simp only [List.map_cons, hl, beq_self_eq_true, if_true]
    | succ j =>
      have e : n + ((j + 1 : Nat) : Int) = n + 1 + (j : Int) := by omega
      have hn : (n == n + 1 + (j : Int)) = false := by simp; omega
      have := ih (n + 1) j i v (by simpa using hj)
      simp only [List.getElem_cons_succ, List.set_cons_succ, entsFrom, e]
      unfold setAt at this ⊢
      split
      · exact this
      · simp only [List.map_cons, hn, this]; rfl
theorem ents_len (l : List (List Int)) : ∀ n : Int, (entsFrom n l).length = nlive l := by
  induction l with
  | nil => intro n; rfl
  | cons x l ih =>
    intro n
    unfold entsFrom
    by_cases hx : x.length = 0
    · rw [if_pos hx, ih]
      simp [nlive, List.filter_cons, hx]
    · have : 0 < x.length := by omega
      rw [if_neg hx, List.length_cons, ih]
      simp only [nlive, List.filter_cons, this, decide_true, if_true, List.length_cons]
theorem mlive_append (l : List (List Int)) (x : List Int) : mlive (l ++ [x]) = mlive l + x.length := by simp [mlive]
theorem mlive_set (l : List (List Int)) : ∀ (j : Nat) (hj : j < l.length) (y : List Int), mlive (l.set j y) + l[j].length = mlive l + y.length := by
  induction l with
  | nil => intro j hj; simp at hj
  | cons x l ih =>
    intro j hj y
    cases j with
    | zero => simp [mlive]; omega
    | succ j =>
      have := ih j (by simpa using hj) y
      simp only [mlive, List.set_cons_succ, List.map_cons, List.sum_cons, List.getElem_cons_succ] at this ⊢
      omega
/-- What is live of the document's arena. -/
def abs (A : RA) : AV := ⟨A.most, (mlive A.blocks : Nat), (A.blocks.length : Nat), A.faults, entsFrom 1 A.blocks⟩
section
variable {A : RA}
theorem RA.blk_from (A : RA) (b : Int) : A.blk b = atFrom 1 A.blocks b := by
  unfold RA.blk atFrom
  by_cases h : b < 1 ∨ (A.blocks.length : Int) < b
  · rw [if_pos h, if_pos (by omega)]
  · rw [if_neg h, if_neg (by omega)]
theorem abs_find (b : Int) : (abs A).find b = if (A.blk b).length = 0 then none else some (A.blk b) := by
  rw [RA.blk_from]
  exact ents_find A.blocks 1 b
theorem abs_is (b : Int) : A.is b = true → (abs A).find b = some (A.blk b) := by
  intro h
  rw [abs_find, if_neg]
  unfold RA.is at h
  simp at h
  omega
theorem abs_isnt (b : Int) : A.is b = false → (abs A).find b = none := by
  intro h
  rw [abs_find, if_pos]
  unfold RA.is at h
  simpa using h
theorem abs_err (b i : Int) : (abs A).err b i = A.reachErr b i := by
  unfold AV.err RA.reachErr
  by_cases h : A.is b = true
  · rw [abs_is b h, if_pos h]
    show (if 0 ≤ i ∧ i < ((A.blk b).length : Int) then (0 : Int) else 1) = _
    by_cases h2 : 0 ≤ i ∧ i < ((A.blk b).length : Int)
    · rw [if_pos h2, if_neg (by omega)]
    · rw [if_neg h2, if_pos (by omega)]
  · have h : A.is b = false := by simpa using h
    rw [abs_isnt b h, if_neg (by simp [h])]
theorem abs_val (b i : Int) : (abs A).val b i = cellOld A b i := by
  unfold AV.val cellOld RA.reachErr
  by_cases h : A.is b = true
  · rw [abs_is b h, if_pos h]
    show (if 0 ≤ i ∧ i < ((A.blk b).length : Int) then (A.blk b).getD i.toNat 0 else 0) = _
    by_cases h2 : 0 ≤ i ∧ i < ((A.blk b).length : Int)
    · rw [if_pos h2, if_neg (by omega : ¬(i < 0 ∨ ((A.blk b).length : Int) ≤ i)), if_pos rfl]
    · rw [if_neg h2, if_pos (by omega : i < 0 ∨ ((A.blk b).length : Int) ≤ i), if_neg (by decide)]
  · have h : A.is b = false := by simpa using h
    rw [abs_isnt b h, if_neg (by simp [h] : ¬A.is b = true), if_neg (by decide)]
theorem abs_touch (b : Int) : (abs A).touch b = abs (A.reach b) := by
  unfold AV.touch RA.reach
  by_cases h : A.is b = true
  · rw [abs_is b h, if_pos h]
  · have h : A.is b = false := by simpa using h
    rw [abs_isnt b h, if_neg (by simp [h])]
    rfl
theorem abs_freeErr (b : Int) : (abs A).freeErr b = A.freeErr b := by
  unfold AV.freeErr RA.freeErr
  by_cases h : A.is b = true
  · rw [abs_is b h, if_pos h]
  · have h : A.is b = false := by simpa using h
    rw [abs_isnt b h, if_neg (by simp [h])]
theorem abs_free (b : Int) : (abs A).free b = abs (A.free b) := by
  unfold AV.free RA.free
  by_cases h : A.is b = true
  · rw [abs_is b h, if_pos h]
    obtain ⟨j, rfl, hj, hpos⟩ := RA.is_in h
    rw [RA.blk_in hj]
    have e1 : ((j : Int) + 1 - 1).toNat = j := by omega
    have e2 : (j : Int) + 1 = 1 + (j : Int) := by omega
    have h1 := ents_erase A.blocks 1 j hj hpos
    have h2 := mlive_set A.blocks j hj []
    simp only [abs, RA.put, e1, List.length_set]
    rw [e2, h1]
    simp only [List.length_nil, Nat.add_zero] at h2
    congr 1
    omega
  · have h : A.is b = false := by simpa using h
    rw [abs_isnt b h, if_neg (by simp [h])]
    rfl
theorem abs_allocErr (n : Int) : (abs A).allocErr n = A.allocErr n := by
  unfold AV.allocErr RA.allocErr
  show (if n < 1 ∨ 256 < n then (1 : Int) else if A.most - (mlive A.blocks : Nat) < n then 21 else 0) = _
  by_cases h : n < 1 ∨ 256 < n
  · rw [if_pos h, if_pos h]
  · rw [if_neg h, if_neg h]
    by_cases h2 : A.most - (mlive A.blocks : Nat) < n
    · rw [if_pos h2, if_pos (by omega)]
    · rw [if_neg h2, if_neg (by omega)]
theorem RA.alloc_size {n : Int} (h : A.allocErr n = 0) : 1 ≤ n ∧ n ≤ 256 := by
  unfold RA.allocErr at h
  split at h
  · cases h
  · omega
theorem abs_alloc (n : Int) : (abs A).alloc n = abs (A.alloc n) := by
  unfold AV.alloc RA.alloc
  rw [abs_allocErr]
  by_cases h : A.allocErr n = 0
  · obtain ⟨h1, h2⟩ := RA.alloc_size h
    rw [if_pos h, if_pos h]
    have h3 := ents_append A.blocks (List.replicate n.toNat 0) (by rw [List.length_replicate]; omega) 1
    have h4 := mlive_append A.blocks (List.replicate n.toNat 0)
    rw [List.length_replicate] at h4
    have e : (A.blocks.length : Int) + 1 = 1 + (A.blocks.length : Int) := by omega
    simp only [abs, h3, h4, e, List.length_append, List.length_singleton]
    congr 1
    · show (mlive A.blocks : Int) + n = ((mlive A.blocks + n.toNat : Nat) : Int); omega
    · show 1 + (A.blocks.length : Int) = ((A.blocks.length + 1 : Nat) : Int); omega
  · rw [if_neg h, if_neg h]
theorem abs_set {b i : Int} (h : A.reachErr b i = 0) (v : Int) : (abs A).set b i v = abs (A.set b i v) := by
  obtain ⟨j, ii, rfl, rfl, hj, hii, _⟩ := RA.reach_ok h
  have e1 : ((j : Int) + 1 - 1).toNat = j := by omega
  have e2 : (j : Int) + 1 = 1 + (j : Int) := by omega
  have h1 := ents_set A.blocks 1 j ii v hj
  have h2 := mlive_set A.blocks j hj (A.blocks[j].set ii v)
  rw [List.length_set] at h2
  unfold RA.set AV.set
  rw [RA.blk_in hj]
  simp only [abs, RA.put, e1, Int.toNat_natCast, List.length_set]
  rw [e2, h1]
  congr 1
  omega
theorem abs_store (b i v : Int) : (abs A).store b i v = if A.reachErr b i = 0 then abs (A.set b i v) else abs (A.reach b) := by
  unfold AV.store
  rw [abs_err, abs_touch]
  by_cases h : A.reachErr b i = 0
  · rw [if_pos h, if_pos h, abs_set h]
  · rw [if_neg h, if_neg h]
theorem abs_size (b : Int) : (abs A).size b = ((A.blk b).length : Int) := by
  unfold AV.size
  rw [abs_find]
  by_cases h : (A.blk b).length = 0
  · rw [if_pos h, h]; rfl
  · rw [if_neg h]
theorem abs_swapOk (b i x : Int) : (abs A).swapOk b i x = (A.reachErr b i == 0 && cellOld A b i == x) := by unfold AV.swapOk; rw [abs_err, abs_val]
theorem abs_addVal (b i x : Int) : (abs A).addVal b i x = if A.reachErr b i = 0 then wrap64 (cellOld A b i + x) else 0 := by unfold AV.addVal; rw [abs_err, abs_val]
theorem abs_cell (kd b i x y : Int) : cellOk (abs A) A kd b i x y = true ∧ cellV (abs A) kd b i x y = abs (cellR A kd b i x y) := by
  refine ⟨?_, ?_⟩
  · unfold cellOk
    rw [abs_err, abs_val, abs_swapOk, abs_addVal]
    by_cases h : A.reachErr b i = 0
    · simp [h]
      repeat' split
      all_goals simp_all
    · simp [h]
  · unfold cellV cellR AV.swap AV.add
    rw [abs_store, abs_store, abs_touch, abs_swapOk, abs_addVal]
    by_cases h : A.reachErr b i = 0
    · have hr : A.reach b = A := RA.reach_same h
      have hs := abs_set h
      simp only [h, hr, hs]
      by_cases h3 : kd = 3
      · simp [h3]
      by_cases h4 : kd = 4
      · simp [h4]
      by_cases h5 : kd = 5
      · by_cases ho : cellOld A b i = x <;> simp [h5, ho]
      simp [h3, h4, h5]
    · have h' : (A.reachErr b i == 0) = false := by simp [h]
      simp [h, h']
theorem abs_ask (kd b i x y : Int) : askOk (abs A) A kd b i x y = true ∧ askV (abs A) kd b i x y = abs (askR A kd b i x y) := by
  refine ⟨?_, ?_⟩
  · unfold askOk
    by_cases h1 : kd = 1
    · rw [if_pos h1, abs_allocErr]
      simp only [AV.allocId, RA.allocId, abs_allocErr, beq_self_eq_true, Bool.and_true]
      simp [abs]
    rw [if_neg h1]
    by_cases h2 : kd = 2
    · rw [if_pos h2, abs_freeErr, beq_self_eq_true]
    rw [if_neg h2]
    by_cases h7 : kd = 7
    · rw [if_pos h7]
      unfold sizeOk
      rw [abs_freeErr, abs_size]
      unfold RA.freeErr RA.reachErr RA.is
      by_cases hp : 0 < (A.blk b).length
      · have : ¬(((0 : Int) < 0) ∨ ((A.blk b).length : Int) ≤ 0) := by omega
        have hne : A.blk b ≠ [] := by intro h; rw [h] at hp; simp at hp
        simp [hp, this, hne]
      · have : (A.blk b).length = 0 := by omega
        simp [hp, this]
    rw [if_neg h7]
    split
    · exact (abs_cell kd b i x y).1
    · rfl
  · unfold askV askR
    by_cases h1 : kd = 1
    · rw [if_pos h1, if_pos h1, abs_alloc]
    rw [if_neg h1, if_neg h1]
    by_cases h2 : kd = 2
    · rw [if_pos h2, if_pos h2, abs_free]
    rw [if_neg h2, if_neg h2]
    by_cases h7 : kd = 7
    · rw [if_pos h7, if_pos h7, abs_touch]
    rw [if_neg h7, if_neg h7]
    by_cases h3 : kd = 3 ∨ kd = 4 ∨ kd = 5 ∨ kd = 6
    · rw [if_pos h3, if_pos h3, (abs_cell kd b i x y).2]
    · rw [if_neg h3, if_neg h3]
/-- What a call may turn. -/
structure Step (A A' : RA) : Prop where
  most : A'.most = A.most
  len : A.blocks.length ≤ A'.blocks.length ∧ A'.blocks.length ≤ A.blocks.length + 1
  faults : A.faults ≤ A'.faults ∧ A'.faults ≤ A.faults + 1
theorem Step.refl (A : RA) : Step A A := ⟨rfl, ⟨Nat.le_refl _, by omega⟩, Int.le_refl _, by omega⟩
theorem Step.put (b : Int) (x : List Int) : Step A (A.put b x) := ⟨rfl, ⟨by simp [RA.put], by simp [RA.put]⟩, Int.le_refl _, by show A.faults ≤ A.faults + 1; omega⟩
theorem Step.fault : Step A A.fault := ⟨rfl, ⟨Nat.le_refl _, by show A.blocks.length ≤ _; omega⟩, by show A.faults ≤ A.faults + 1; omega, Int.le_refl _⟩
theorem Step.reach (b : Int) : Step A (A.reach b) := by
  unfold RA.reach
  split
  · exact Step.refl A
  · exact Step.fault
theorem Step.cell (kd b i x y : Int) : Step A (cellR A kd b i x y) := by
  unfold cellR
  repeat' split
  all_goals first | exact Step.refl A | exact Step.reach b | exact Step.put _ _
theorem Step.ask (kd b i x y : Int) : Step A (askR A kd b i x y) := by
  unfold askR
  split
  · unfold RA.alloc
    split
    · exact ⟨rfl, ⟨by simp, by simp⟩, Int.le_refl _, by show A.faults ≤ A.faults + 1; omega⟩
    · exact Step.refl A
  split
  · unfold RA.free
    split
    · exact Step.put _ _
    · exact Step.fault
  split
  · exact Step.reach b
  split
  · exact Step.cell kd b i x y
  · exact Step.refl A
end
theorem abs_fresh (most : Int) : abs (RA.fresh most) = AV.fresh most := rfl
end Go.Proofs.Ytemibcglhbjaoaa
