/- Layer 3, plain facts: how a step turns lists that lie in an arena. No program in sight. -/
import Derived.Test.YtkfinhakhhiabaaAtomsNew
set_option maxRecDepth 20000
set_option linter.unusedVariables false
set_option linter.unusedSimpArgs false
namespace Go.Proofs.Ytkfinhakhhiabaa
open Go.RowKit Go.PM

section
variable {V : AV} {T : TV} {O : OV} {ls : Nat → List Int}
/-! ### what a change of the arena leaves -/
theorem find_set (V : AV) (b i v c : Int) : (V.set b i v).find c = if c = b then (V.find b).map (fun xs => xs.set i.toNat v) else V.find c := by
  have key : ∀ l : List (Int × List Int), ((setAt l b i.toNat v).find? (fun p => p.1 == c)).map (·.2) = if c = b then ((l.find? (fun p => p.1 == b)).map (·.2)).map (fun xs => xs.set i.toNat v) else (l.find? (fun p => p.1 == c)).map (·.2) := by
    intro l
    induction l with
    | nil => simp [setAt]
    | cons x l ih =>
      unfold setAt at ih ⊢
      rw [List.map_cons]
      by_cases hx : x.1 = b
      · have h1 : (x.1 == b) = true := by simp [hx]
        rw [if_pos h1, List.find?_cons, List.find?_cons, List.find?_cons]
        by_cases hc : c = b
        · subst hc
          simp [hx]
        · have h2 : (x.1 == c) = false := by rw [hx]; simp [Ne.symm hc]
          rw [if_neg hc] at ih ⊢
          simp only [h2]
          exact ih
      · have h1 : (x.1 == b) = false := by simp [hx]
        rw [if_neg (by rw [h1]; decide), List.find?_cons, List.find?_cons, List.find?_cons]
        simp only [h1]
        by_cases hc : x.1 = c
        · have h2 : (x.1 == c) = true := by simp [hc]
          have h3 : c ≠ b := by rw [← hc]; exact hx
          simp only [h2]
          rw [if_neg h3]
        · have h2 : (x.1 == c) = false := by simp [hc]
          simp only [h2]
          exact ih
  exact key V.ents
theorem find_store {b v : Int} {i : Nat} {xs : List Int} (h : V.find b = some xs) (hi : i < xs.length) (c : Int) : (V.store b i v).find c = (if c = b then some (xs.set i v) else V.find c) ∧ (V.store b i v).faults = V.faults ∧ (V.store b i v).live = V.live ∧ (V.store b i v).most = V.most := by
  have he := (AV.val_at h hi).2.1
  unfold AV.store
  rw [if_pos he]
  refine ⟨?_, rfl, rfl, rfl⟩
  rw [find_set, h, Int.toNat_natCast]
  rfl
theorem find_alloc (hok : V.Ok) {n : Int} (h : V.allocErr n = 0) (c : Int) : (V.alloc n).find c = (if c = V.made + 1 then some (List.replicate n.toNat 0) else V.find c) ∧ V.find (V.made + 1) = none ∧ (V.alloc n).faults = V.faults ∧ (V.alloc n).live = V.live + n ∧ (V.alloc n).most = V.most := by
  have hn : V.ents.find? (fun p => p.1 == V.made + 1) = none := by
    rw [List.find?_eq_none]
    intro p hp
    have := hok.ents p hp
    simp
    omega
  have h0 : V.find (V.made + 1) = none := by unfold AV.find; rw [hn]; rfl
  unfold AV.alloc
  rw [if_pos h]
  refine ⟨?_, h0, rfl, rfl, rfl⟩
  show (List.find? (fun p : Int × List Int => p.1 == c) (V.ents ++ [(V.made + 1, List.replicate n.toNat 0)])).map (fun p : Int × List Int => p.2) = _
  rw [List.find?_append]
  by_cases hc : c = V.made + 1
  · subst hc
    rw [hn, if_pos rfl]
    simp
  · rw [if_neg hc]
    have h1 : ([(V.made + 1, List.replicate n.toNat (0 : Int))] : List (Int × List Int)).find? (fun p => p.1 == c) = none := by simp [Ne.symm hc]
    rw [h1]
    unfold AV.find
    cases V.ents.find? (fun p => p.1 == c) <;> rfl
theorem find_free (hok : V.Ok) {b : Int} {xs : List Int} (h : V.find b = some xs) (c : Int) : (V.free b).find c = (if c = b then none else V.find c) ∧ (V.free b).faults = V.faults ∧ (V.free b).most = V.most ∧ (V.free b).live = V.live - xs.length := by
  unfold AV.free
  rw [h]
  refine ⟨?_, rfl, rfl, rfl⟩
  show ((V.ents.eraseP (fun p => p.1 == b)).find? (fun p => p.1 == c)).map (·.2) = _
  by_cases hc : c = b
  · subst hc
    rw [if_pos rfl, eraseP_find_eq c V.ents hok.keys]
    rfl
  · rw [if_neg hc, eraseP_find_ne V.ents b c hc]
    rfl
/-! ### the lists -/
theorem ChainOk.keep {V V' : AV} : ∀ {l : List Int}, ChainOk V l → (∀ b ∈ l, V'.find b = V.find b) → ChainOk V' l
  | [], _, _ => trivial
  | x :: l, h, hk => ⟨h.1, by rw [hk x (by simp)]; exact h.2.1, ChainOk.keep h.2.2 fun b hb => hk b (List.mem_cons_of_mem _ hb)⟩
theorem ChainOk.at_ : ∀ {l : List Int}, ChainOk V l → ∀ b ∈ l, 0 < b ∧ ∃ y, V.find b = some [y]
  | [], _, b, hb => by cases hb
  | x :: l, h, b, hb => by
    rcases List.mem_cons.1 hb with rfl | hb
    · exact ⟨h.1, _, h.2.1⟩
    · exact h.2.2.at_ b hb
theorem ChainOk.suffix : ∀ {pre s : List Int}, ChainOk V (pre ++ s) → ChainOk V s
  | [], _, h => h
  | _ :: _, _, h => ChainOk.suffix h.2.2
/-- The block of the table has more than one cell: no list's block is it. -/
theorem Tab.block_ne (h : Tab V T ls) {b y : Int} (hb : V.find b = some [y]) : b ≠ T.block := by
  rintro rfl
  obtain ⟨xs, hx, hl, _⟩ := h.root
  rw [hb] at hx
  have := Option.some.inj hx
  rw [← this] at hl
  have := h.bk
  simp at hl
  omega
theorem Tab.not_block (h : Tab V T ls) {c : Nat} (h1 : 1 ≤ c) (h2 : (c : Int) ≤ T.buckets) {b : Int} (hb : b ∈ ls c) : b ≠ T.block := by
  obtain ⟨_, y, hy⟩ := (h.chain c h1 h2).at_ b hb
  exact h.block_ne hy
/-- A change that leaves the table's block and the lists' blocks. -/
theorem Tab.keep {V' : AV} {T' : TV} (h : Tab V T ls) (e1 : T'.block = T.block) (e2 : T'.buckets = T.buckets) (h0 : V'.find T.block = V.find T.block) (hk : ∀ c : Nat, 1 ≤ c → (c : Int) ≤ T.buckets → ∀ b ∈ ls c, V'.find b = V.find b) : Tab V' T' ls := by
  refine ⟨by rw [e2]; exact h.bk, ?_, fun c h1 h2 => (h.chain c h1 (by rw [← e2]; exact h2)).keep (hk c h1 (by rw [← e2]; exact h2))⟩
  obtain ⟨xs, hx, hl, hh⟩ := h.root
  exact ⟨xs, by rw [e1, h0]; exact hx, by rw [e2]; exact hl, fun c h1 h2 => hh c h1 (by rw [← e2]; exact h2)⟩
/-- The table's first cell is no list's. -/
theorem Tab.count {d : Int} (h : Tab V T ls) : Tab (V.add T.block 0 d) T ls ∧ (V.add T.block 0 d).faults = V.faults ∧ (∀ b, b ≠ T.block → (V.add T.block 0 d).find b = V.find b) ∧ (V.add T.block 0 d).live = V.live ∧ (V.add T.block 0 d).most = V.most := by
  obtain ⟨xs, hx, hl, hh⟩ := h.root
  have hb := h.bk
  have hi : 0 < xs.length := by omega
  have hf := fun c => find_store (v := V.addVal T.block 0 d) hx hi c
  have he : V.add T.block 0 d = V.store T.block ((0 : Nat) : Int) (V.addVal T.block 0 d) := rfl
  rw [he]
  refine ⟨⟨hb, ⟨xs.set 0 (V.addVal T.block 0 d), ?_, by rw [List.length_set]; exact hl, fun c h1 h2 => ?_⟩, fun c h1 h2 => (h.chain c h1 h2).keep fun b hb => ?_⟩, (hf 0).2.1, fun b hb => ?_, (hf 0).2.2.1, (hf 0).2.2.2⟩
  · rw [(hf T.block).1, if_pos rfl]
  · rw [List.getD_eq_getElem?_getD, List.getElem?_set_ne (by omega), ← List.getD_eq_getElem?_getD]
    exact hh c h1 h2
  · rw [(hf b).1, if_neg (h.not_block h1 h2 hb)]
  · rw [(hf b).1, if_neg hb]
/-- A list with one block more. -/
def push (ls : Nat → List Int) (c : Nat) (x : Int) : Nat → List Int := fun d => if d = c then x :: ls c else ls d
theorem Tab.swap (h : Tab V T ls) {c : Nat} (h1 : 1 ≤ c) (h2 : (c : Int) ≤ T.buckets) (old new : Int) : (V.swapOk T.block c old = true ↔ hd (ls c) = old) ∧
    (hd (ls c) ≠ old → V.swap T.block c old new = V) ∧
    (hd (ls c) = old → 0 < new → V.find new = some [old] → Tab (V.swap T.block c old new) T (push ls c new) ∧ (V.swap T.block c old new).faults = V.faults ∧ (∀ b, b ≠ T.block → (V.swap T.block c old new).find b = V.find b) ∧ (V.swap T.block c old new).live = V.live ∧ (V.swap T.block c old new).most = V.most ∧
      ∃ xs, V.find T.block = some xs ∧ (V.swap T.block c old new).find T.block = some (xs.set c new)) := by
  obtain ⟨e1, e2, e3⟩ := h.head h1 h2
  have hsw : V.swapOk T.block c old = (hd (ls c) == old) := by
    unfold AV.swapOk
    rw [e1, e2]
    rfl
  refine ⟨by rw [hsw]; simp, fun hn => ?_, fun he hnew hfn => ?_⟩
  · unfold AV.swap
    rw [hsw, if_neg (by simpa using hn)]
    exact e3
  · obtain ⟨xs, hx, hl, hh⟩ := h.root
    have hi : c < xs.length := by omega
    have hsv : V.swap T.block c old new = V.store T.block (c : Nat) new := by
      unfold AV.swap AV.store
      rw [hsw, if_pos (by simp [he]), if_pos e2]
    have hf := fun b => find_store (v := new) hx hi b
    rw [hsv]
    refine ⟨⟨h.bk, ⟨xs.set c new, by rw [(hf T.block).1, if_pos rfl], by rw [List.length_set]; exact hl, fun d d1 d2 => ?_⟩, fun d d1 d2 => ?_⟩, (hf 0).2.1, fun b hb => by rw [(hf b).1, if_neg hb], (hf 0).2.2.1, (hf 0).2.2.2, xs, hx, by rw [(hf T.block).1, if_pos rfl]⟩
    · by_cases hdc : d = c
      · subst hdc
        unfold push
        rw [if_pos rfl, List.getD_eq_getElem?_getD, List.getElem?_set_self hi]
        rfl
      · unfold push
        rw [if_neg hdc, List.getD_eq_getElem?_getD, List.getElem?_set_ne (Ne.symm hdc), ← List.getD_eq_getElem?_getD]
        exact hh d d1 d2
    · have keep : ∀ e : Nat, 1 ≤ e → (e : Int) ≤ T.buckets → ChainOk (V.store T.block (c : Nat) new) (ls e) := fun e q1 q2 => (h.chain e q1 q2).keep fun b hb => by rw [(hf b).1, if_neg (h.not_block q1 q2 hb)]
      unfold push
      by_cases hdc : d = c
      · subst hdc
        rw [if_pos rfl]
        refine ⟨hnew, ?_, keep d d1 d2⟩
        rw [(hf new).1, if_neg (h.block_ne hfn), hfn, he]
      · rw [if_neg hdc]; exact keep d d1 d2
theorem hd_zero {l0 : List Int} (h : ChainOk V l0) : hd l0 = 0 ↔ l0 = [] := by
  cases l0 with
  | nil => simp [hd]
  | cons x l =>
    have := h.1
    simp [hd]
    omega
end
end Go.Proofs.Ytkfinhakhhiabaa
