/- Plain facts about plain arenas and plain yards: what every call keeps true of a yard over an arena. No program in sight. -/
import Derived.Test.YtefhngbeodnldaaEpochRetire
import Derived.Test.YtefhngbeodnldaaEpochNew
set_option linter.unusedVariables false
set_option linter.unusedSimpArgs false
namespace Go.Proofs.Ytefhngbeodnldaa
open Go.RowKit Go.PM
theorem AV.find_none_of_gt {V : AV} (h : V.Ok) {b : Int} (hb : V.made < b ∨ b < 1) : V.find b = none := by
  unfold AV.find
  rw [Option.map_eq_none_iff, List.find?_eq_none]
  intro p hp hk
  have := h.ents p hp
  simp only [beq_iff_eq] at hk
  omega
theorem AV.find_alloc_new {V : AV} (h : V.Ok) {n : Int} (he : V.allocErr n = 0) : (V.alloc n).find (V.made + 1) = some (List.replicate n.toNat 0) := by
  have h0 := AV.find_none_of_gt h (b := V.made + 1) (by omega)
  unfold AV.find at h0
  rw [Option.map_eq_none_iff] at h0
  simp only [AV.alloc, he, if_true, AV.find, List.find?_append, h0]
  simp
theorem AV.find_alloc_old {V : AV} {n b : Int} (hb : b ≠ V.made + 1) : (V.alloc n).find b = V.find b := by
  by_cases he : V.allocErr n = 0
  · simp only [AV.alloc, he, if_true, AV.find, List.find?_append]
    have : ((V.made + 1 : Int) == b) = false := by simp; omega
    simp [this]
  · simp [AV.alloc, he]
theorem AV.made_alloc {V : AV} {n : Int} (he : V.allocErr n = 0) : (V.alloc n).made = V.made + 1 ∧ (V.alloc n).live = V.live + n ∧ (V.alloc n).most = V.most ∧ (V.alloc n).faults = V.faults := by
  simp [AV.alloc, he]
theorem AV.allocErr_eq {V : AV} {n : Int} (h1 : 1 ≤ n) (h2 : n ≤ 256) (h3 : n ≤ V.most - V.live) : V.allocErr n = 0 := by
  unfold AV.allocErr
  rw [if_neg (by omega), if_neg (by omega)]
theorem AV.allocErr_arg {V : AV} {n : Int} (h1 : n < 1 ∨ 256 < n) : V.allocErr n = 1 := by
  unfold AV.allocErr
  rw [if_pos h1]
theorem map_inj {α β : Type} (f : α → β) {l : List α} (h : (l.map f).Nodup) {p q : α} (hp : p ∈ l) (hq : q ∈ l) (e : f p = f q) : p = q := by
  induction l with
  | nil => cases hp
  | cons x l ih =>
    rw [List.map_cons, List.nodup_cons] at h
    rcases List.mem_cons.1 hp with hp2 | hp
    · rcases List.mem_cons.1 hq with hq2 | hq
      · rw [hp2, hq2]
      · exact absurd (List.mem_map_of_mem (f := f) hq) (by rw [← e, hp2]; exact h.1)
    · rcases List.mem_cons.1 hq with hq2 | hq
      · exact absurd (List.mem_map_of_mem (f := f) hp) (by rw [e, hq2]; exact h.1)
      · exact ih h.2 hp hq
theorem erase_find (l : List (Int × List Int)) (b c : Int) (h : c ≠ b) : (l.eraseP (fun p => p.1 == b)).find? (fun p => p.1 == c) = l.find? (fun p => p.1 == c) := by
  induction l with
  | nil => rfl
  | cons x l ih =>
    by_cases hx : (x.1 == b) = true
    · have h2 : (x.1 == c) = false := by
        have : x.1 = b := by simpa using hx
        simp [this, Ne.symm h]
      rw [List.eraseP_cons_of_pos (by exact hx), List.find?_cons, h2]
    · rw [List.eraseP_cons_of_neg (by exact hx), List.find?_cons, List.find?_cons, ih]
theorem find_free_ne (V : AV) {b c : Int} (h : c ≠ b) : (V.free b).find c = V.find c := by
  unfold AV.free
  cases V.find b with
  | none => rfl
  | some xs =>
    show ((V.ents.eraseP (fun p => p.1 == b)).find? (fun p => p.1 == c)).map (·.2) = (V.ents.find? (fun p => p.1 == c)).map (·.2)
    rw [erase_find _ _ _ h]
theorem free_faults {V : AV} {b : Int} {xs : List Int} (h : V.find b = some xs) : (V.free b).faults = V.faults := by
  unfold AV.free; rw [h]
theorem free_made (V : AV) (b : Int) : (V.free b).made = V.made := by
  unfold AV.free; cases V.find b <;> rfl
theorem find_free_eq {V : AV} (hk : V.ents.Pairwise fun p q => p.1 ≠ q.1) (b : Int) : (V.free b).find b = none := by
  have key : ∀ l : List (Int × List Int), (l.Pairwise fun p q => p.1 ≠ q.1) → (l.eraseP (fun p => p.1 == b)).find? (fun p => p.1 == b) = none := by
    intro l
    induction l with
    | nil => intro _; rfl
    | cons x l ih =>
      intro h
      rw [List.pairwise_cons] at h
      by_cases hx : (x.1 == b) = true
      · rw [List.eraseP_cons_of_pos (by exact hx), List.find?_eq_none]
        intro y hy
        have h1 : x.1 = b := by simpa using hx
        have := h.1 y hy
        rw [h1] at this
        simp [Ne.symm this]
      · rw [List.eraseP_cons_of_neg (by exact hx), List.find?_cons]
        have h1 : (x.1 == b) = false := by simpa using hx
        rw [h1]
        exact ih h.2
  unfold AV.free
  cases hf : V.find b with
  | none => exact hf
  | some xs =>
    show ((V.ents.eraseP (fun p => p.1 == b)).find? (fun p => p.1 == b)).map (·.2) = none
    rw [key _ hk]
    rfl
theorem free_keys {V : AV} (hk : V.ents.Pairwise fun p q => p.1 ≠ q.1) (b : Int) : (V.free b).ents.Pairwise fun p q => p.1 ≠ q.1 := by
  unfold AV.free
  cases V.find b with
  | none => exact hk
  | some xs => exact hk.sublist (List.eraseP_sublist (l := V.ents))
theorem alloc_find {V : AV} {b : Int} {xs : List Int} (n : Int) (h : V.find b = some xs) : (V.alloc n).find b = some xs := by
  unfold AV.alloc
  split
  · show (List.find? (fun p : Int × List Int => p.1 == b) (V.ents ++ [(V.made + 1, List.replicate n.toNat 0)])).map (fun p : Int × List Int => p.2) = some xs
    unfold AV.find at h
    rw [List.find?_append]
    cases hx : V.ents.find? (fun p => p.1 == b) with
    | none => rw [hx] at h; cases h
    | some p => rw [hx] at h; exact h
  · exact h
theorem alloc_faults (V : AV) (n : Int) : (V.alloc n).faults = V.faults := by unfold AV.alloc; split <;> rfl
theorem alloc_made (V : AV) (n : Int) : (V.alloc n).made ≤ V.made + 1 := by
  unfold AV.alloc
  split
  · exact Int.le_refl _
  · omega
theorem touch_find (V : AV) (b c : Int) : (V.touch b).find c = V.find c := by unfold AV.touch; cases V.find b <;> rfl
theorem touch_made (V : AV) (b : Int) : (V.touch b).made = V.made := by unfold AV.touch; cases V.find b <;> rfl
theorem touch_faults_le (V : AV) (b : Int) : (V.touch b).faults ≤ V.faults + 1 := by
  unfold AV.touch
  cases V.find b with
  | none => exact Int.le_refl _
  | some _ => show V.faults ≤ V.faults + 1; omega
/-! ### a sweep -/
theorem dropsV_find (Y : YV) (c : Int) (l : List (Int × Int × Int)) : ∀ V : AV, (∀ p ∈ l, Y.held p = false → p.1 ≠ c) → (dropsV Y V l).find c = V.find c := by
  induction l with
  | nil => intro V _; rfl
  | cons x l ih =>
    intro V h
    show (dropsV Y (dropV Y V x) l).find c = _
    rw [ih _ (fun p hp => h p (List.mem_cons_of_mem _ hp))]
    unfold dropV
    cases hx : Y.held x with
    | true => rfl
    | false => exact find_free_ne V (Ne.symm (h x (by simp) hx))
theorem dropsV_made (Y : YV) (l : List (Int × Int × Int)) : ∀ V : AV, (dropsV Y V l).made = V.made := by
  induction l with
  | nil => intro V; rfl
  | cons x l ih =>
    intro V
    show (dropsV Y (dropV Y V x) l).made = _
    rw [ih]
    unfold dropV
    split
    · rfl
    · exact free_made _ _
theorem dropsV_keys (Y : YV) (l : List (Int × Int × Int)) : ∀ V : AV, (V.ents.Pairwise fun p q => p.1 ≠ q.1) → (dropsV Y V l).ents.Pairwise fun p q => p.1 ≠ q.1 := by
  induction l with
  | nil => intro V h; exact h
  | cons x l ih =>
    intro V h
    show (dropsV Y (dropV Y V x) l).ents.Pairwise fun p q => p.1 ≠ q.1
    refine ih _ ?_
    unfold dropV
    split
    · exact h
    · exact free_keys h _
theorem dropsV_still (Y : YV) (l : List (Int × Int × Int)) : ∀ V : AV, (l.map (·.1)).Nodup → (∀ p ∈ l, ∃ xs, V.find p.1 = some xs) → (dropsV Y V l).faults = V.faults := by
  induction l with
  | nil => intro V _ _; rfl
  | cons x l ih =>
    intro V hn h
    rw [List.map_cons, List.nodup_cons] at hn
    show (dropsV Y (dropV Y V x) l).faults = _
    obtain ⟨xs, hx⟩ := h x (by simp)
    have h1 : (dropV Y V x).faults = V.faults := by
      unfold dropV
      split
      · rfl
      · exact free_faults hx
    rw [ih _ hn.2 ?_, h1]
    intro p hp
    obtain ⟨ys, hy⟩ := h p (List.mem_cons_of_mem _ hp)
    refine ⟨ys, ?_⟩
    unfold dropV
    split
    · exact hy
    · rw [find_free_ne V (fun e => hn.1 (by rw [← e]; exact List.mem_map_of_mem (f := (·.1)) hp))]; exact hy
theorem dropsV_gone (Y : YV) (c : Int) (l : List (Int × Int × Int)) : ∀ V : AV, (V.ents.Pairwise fun p q => p.1 ≠ q.1) → (∃ p ∈ l, p.1 = c ∧ Y.held p = false) → (dropsV Y V l).find c = none := by
  have stay : ∀ (l : List (Int × Int × Int)) (V : AV), V.find c = none → (V.ents.Pairwise fun p q => p.1 ≠ q.1) → (dropsV Y V l).find c = none := by
    intro l
    induction l with
    | nil => intro V h _; exact h
    | cons x l ih =>
      intro V h hk
      show (dropsV Y (dropV Y V x) l).find c = none
      unfold dropV
      split
      · exact ih _ h hk
      · refine ih _ ?_ (free_keys hk _)
        by_cases hc : c = x.1
        · rw [hc]; exact find_free_eq hk _
        · rw [find_free_ne V hc]; exact h
  induction l with
  | nil => intro V _ h; obtain ⟨p, hp, _⟩ := h; cases hp
  | cons x l ih =>
    intro V hk h
    show (dropsV Y (dropV Y V x) l).find c = none
    by_cases hx : x.1 = c ∧ Y.held x = false
    · unfold dropV
      rw [hx.2, hx.1]
      exact stay l _ (find_free_eq hk _) (free_keys hk _)
    · refine ih _ ?_ ?_
      · unfold dropV
        split
        · exact hk
        · exact free_keys hk _
      · obtain ⟨p, hp, h1, h2⟩ := h
        rcases List.mem_cons.1 hp with rfl | hp
        · exact absurd ⟨h1, h2⟩ hx
        · exact ⟨p, hp, h1, h2⟩
/-! ### what every script keeps -/
structure Bd (i : Int) (Y : YV) (V : AV) : Prop where
  live : ∀ p ∈ Y.limbo, ∃ xs, V.find p.1 = some xs
  nodup : (Y.limbo.map (·.1)).Nodup
  rng : ∀ p ∈ Y.limbo, 1 ≤ p.2.1 ∧ p.2.1 ≤ 8
  cnt : ∀ t, (Y.limboN t : Int) ≤ Y.bound
  len : Y.ent.length ≤ 9
  zero : Y.ent.getD 0 0 = 0
  faults : V.faults ≤ i
  made : V.made ≤ i
  now : Y.now ≤ i
theorem Bd.fresh (threads bound most : Int) : Bd 0 (YV.fresh threads bound) (AV.fresh most) := by
  refine ⟨fun p hp => by simp [YV.fresh] at hp, by simp [YV.fresh], fun p hp => by simp [YV.fresh] at hp, fun t => ?_, ?_, ?_, by simp [AV.fresh], by simp [AV.fresh], by simp [YV.fresh]⟩
  · show ((0 : Nat) : Int) ≤ min (max bound 0) 64; omega
  · simp [YV.fresh]; omega
  · have h : ∀ n : Nat, (List.replicate (1 + n) (0 : Int)).getD 0 0 = 0 := by intro n; rw [Nat.add_comm, List.replicate_succ]; rfl
    exact h _
theorem Bd.mono {i j : Int} {Y : YV} {V : AV} (h : Bd i Y V) (hij : i ≤ j) : Bd j Y V :=
  ⟨h.live, h.nodup, h.rng, h.cnt, h.len, h.zero, by have := h.faults; omega, by have := h.made; omega, by have := h.now; omega⟩
theorem kept_mem {Y : YV} {l : List (Int × Int × Int)} {p : Int × Int × Int} : p ∈ keptL Y l ↔ p ∈ l ∧ Y.held p = true := List.mem_filter
theorem kept_sub (Y : YV) (l : List (Int × Int × Int)) : (keptL Y l).Sublist l := List.filter_sublist
theorem Bd.sweep {i : Int} {Y : YV} {V : AV} (h : Bd i Y V) : Bd i Y.sweep (dropsV Y V Y.limbo) := by
  refine ⟨fun p hp => ?_, h.nodup.sublist ((kept_sub Y Y.limbo).map _), fun p hp => h.rng p (kept_mem.1 hp).1, fun t => ?_, h.len, h.zero, ?_, ?_, h.now⟩
  · obtain ⟨h1, h2⟩ := kept_mem.1 hp
    obtain ⟨xs, hx⟩ := h.live p h1
    refine ⟨xs, ?_⟩
    rw [dropsV_find Y p.1 Y.limbo V fun q hq hf e => ?_]
    · exact hx
    · have := map_inj (·.1) h.nodup hq h1 e
      rw [this, h2] at hf
      cases hf
  · have h1 := ((kept_sub Y Y.limbo).filter (fun p => p.2.1 == t)).length_le
    have h2 := h.cnt t
    show ((((keptL Y Y.limbo).filter (fun p => p.2.1 == t)).length : Nat) : Int) ≤ Y.bound
    unfold YV.limboN at h2
    omega
  · rw [dropsV_still Y Y.limbo V h.nodup h.live]; exact h.faults
  · rw [dropsV_made]; exact h.made
theorem Bd.enter {i : Int} {Y : YV} {V : AV} (h : Bd i Y V) (t : Int) : Bd (i + 1) (Y.enter t) V := by
  have hn := h.now
  unfold YV.enter
  split
  · rename_i he
    have ht : 1 ≤ t := by
      unfold YV.enterErr at he
      split at he
      · cases he
      · rename_i hb
        unfold YV.bad at hb
        simp at hb
        omega
    refine ⟨h.live, h.nodup, h.rng, h.cnt, by rw [List.length_set]; exact h.len, ?_, (h.mono (by omega)).faults, (h.mono (by omega)).made, by show Y.now + 1 ≤ i + 1; omega⟩
    rw [List.getD_eq_getElem?_getD, List.getElem?_set_ne (by omega), ← List.getD_eq_getElem?_getD]
    exact h.zero
  · exact h.mono (by omega)
theorem leave_ent (Y : YV) (t : Int) (ht : 0 ≤ t) (j : Nat) : (Y.leave t).ent.getD j 0 = if j = t.toNat ∧ 1 ≤ t then 0 else Y.ent.getD j 0 := by
  unfold YV.leave
  split
  · rename_i he
    have ht : 1 ≤ t := by
      unfold YV.leaveErr at he
      split at he
      · cases he
      · rename_i hb
        unfold YV.bad at hb
        simp at hb
        omega
    show (Y.ent.set t.toNat 0).getD j 0 = _
    by_cases hj : j = t.toNat
    · subst hj
      rw [if_pos ⟨rfl, ht⟩, List.getD_eq_getElem?_getD, List.getElem?_set_self']
      cases Y.ent[t.toNat]? <;> rfl
    · rw [if_neg (fun h => hj h.1), List.getD_eq_getElem?_getD, List.getElem?_set_ne (by omega), ← List.getD_eq_getElem?_getD]
  · rename_i he
    by_cases hj : j = t.toNat ∧ 1 ≤ t
    · rw [if_pos hj]
      obtain ⟨rfl, ht⟩ := hj
      unfold YV.leaveErr at he
      split at he
      · rename_i hb
        unfold YV.bad at hb
        simp at hb
        rw [List.getD_eq_getElem?_getD, List.getElem?_eq_none (by omega)]
        rfl
      · split at he
        · rename_i h2; exact h2
        · exact absurd rfl he
    · rw [if_neg hj]
theorem Bd.leave {i : Int} {Y : YV} {V : AV} (h : Bd i Y V) (t : Int) : Bd i (Y.leave t) V := by
  unfold YV.leave
  split
  · refine ⟨h.live, h.nodup, h.rng, h.cnt, by rw [List.length_set]; exact h.len, ?_, h.faults, h.made, h.now⟩
    rw [List.getD_eq_getElem?_getD]
    by_cases ht : t.toNat = 0
    · rw [ht, List.getElem?_set_self']; cases Y.ent[0]? <;> rfl
    · rw [List.getElem?_set_ne ht, ← List.getD_eq_getElem?_getD]; exact h.zero
  · exact h
theorem freeErr_find {V : AV} {b : Int} (h : V.freeErr b = 0) : ∃ xs, V.find b = some xs := by
  unfold AV.freeErr at h
  cases hx : V.find b with
  | none => rw [hx] at h; cases h
  | some xs => exact ⟨xs, rfl⟩
theorem anyR_not {Y : YV} {b : Int} (h : anyR Y b = false) : ∀ p ∈ Y.limbo, p.1 ≠ b := by
  intro p hp e
  unfold anyR at h
  rw [List.any_eq_false] at h
  exact h p hp (by simp [e])
theorem Bd.retire {i : Int} {Y : YV} {V : AV} (h : Bd i Y V) (t b : Int) : Bd (i + 1) (Y.retire V t b) (retireV Y V t b) := by
  have hn := h.now
  have hm := h.mono (show i ≤ i + 1 by omega)
  unfold YV.retire retireV
  cases hb : Y.bad t with
  | true => exact hm
  | false =>
    cases ha : anyR Y b with
    | true => exact hm
    | false =>
      by_cases hf : V.freeErr b = 0
      · have hs := h.sweep
        have hsm := hs.mono (show i ≤ i + 1 by omega)
        simp only [Bool.false_eq_true, if_false, if_pos hf]
        cases hfu : Y.full t with
        | true => exact hsm
        | false =>
          simp only [Bool.false_eq_true, if_false]
          have hnb := anyR_not ha
          have ht : 1 ≤ t ∧ t ≤ 8 := by
            have := h.len
            unfold YV.bad at hb
            simp at hb
            omega
          have hfl : (Y.sweep.limboN t : Int) < Y.bound := by
            unfold YV.full at hfu
            simp at hfu
            exact hfu
          refine ⟨fun p hp => ?_, ?_, fun p hp => ?_, fun s => ?_, hsm.len, hsm.zero, hsm.faults, hsm.made, ?_⟩
          · have hp : p ∈ Y.sweep.limbo ++ [(b, t, Y.sweep.now + 1)] := hp
            rcases List.mem_append.1 hp with hp | hp
            · exact hs.live p hp
            · rw [List.mem_singleton] at hp
              subst hp
              obtain ⟨xs, hx⟩ := freeErr_find hf
              exact ⟨xs, by rw [dropsV_find Y b Y.limbo V fun q hq _ => hnb q hq]; exact hx⟩
          · show ((Y.sweep.limbo ++ [(b, t, Y.sweep.now + 1)]).map (·.1)).Nodup
            rw [List.map_append, List.nodup_append]
            refine ⟨hs.nodup, by simp, fun x hx y hy e => ?_⟩
            rw [List.map_singleton, List.mem_singleton] at hy
            subst hy
            obtain ⟨q, hq, e2⟩ := List.mem_map.1 hx
            exact hnb q (kept_mem.1 hq).1 (by rw [e2]; exact e)
          · have hp : p ∈ Y.sweep.limbo ++ [(b, t, Y.sweep.now + 1)] := hp
            rcases List.mem_append.1 hp with hp | hp
            · exact hs.rng p hp
            · rw [List.mem_singleton] at hp
              subst hp
              exact ht
          · have h2 := hs.cnt s
            show ((((Y.sweep.limbo ++ [(b, t, Y.sweep.now + 1)]).filter (fun p => p.2.1 == s)).length : Nat) : Int) ≤ Y.bound
            rw [List.filter_append, List.length_append]
            unfold YV.limboN at h2 hfl
            by_cases hts : t = s
            · subst hts
              have h3 : ([(b, t, Y.sweep.now + 1)].filter (fun p => p.2.1 == t)).length = 1 := by simp
              rw [h3]
              omega
            · have h3 : ([(b, t, Y.sweep.now + 1)].filter (fun p => p.2.1 == s)).length = 0 := by simp [hts]
              rw [h3]
              exact h2
          · show Y.now + 1 ≤ i + 1
            omega
      · simp only [Bool.false_eq_true, if_false, if_neg hf]
        refine ⟨fun p hp => by rw [touch_find]; exact h.live p hp, h.nodup, h.rng, h.cnt, h.len, h.zero, ?_, by rw [touch_made]; exact hm.made, hm.now⟩
        have := touch_faults_le V b
        have := h.faults
        omega
theorem Bd.alloc {i : Int} {Y : YV} {V : AV} (h : Bd i Y V) (n : Int) : Bd (i + 1) Y (V.alloc n) := by
  have hm := h.mono (show i ≤ i + 1 by omega)
  refine ⟨fun p hp => ?_, h.nodup, h.rng, h.cnt, h.len, h.zero, by rw [alloc_faults]; exact hm.faults, ?_, hm.now⟩
  · obtain ⟨xs, hx⟩ := h.live p hp
    exact ⟨xs, alloc_find n hx⟩
  · have := alloc_made V n
    have := h.made
    omega
/-! ### how many wait -/
def sumN (Y : YV) (k : Nat) : Nat := (Y.limbo.filter fun p => decide (p.2.1 < (k : Int))).length
theorem sumN_succ {i : Int} {Y : YV} {V : AV} (h : Bd i Y V) (k : Nat) : sumN Y (k + 1) = sumN Y k + Y.limboN k := by
  unfold sumN YV.limboN
  generalize Y.limbo = l
  induction l with
  | nil => rfl
  | cons x l ih =>
    simp only [List.filter_cons]
    by_cases h1 : x.2.1 = (k : Int)
    · have a1 : decide (x.2.1 < ((k + 1 : Nat) : Int)) = true := by simp; omega
      have a2 : decide (x.2.1 < (k : Int)) = false := by simp; omega
      have a3 : (x.2.1 == (k : Int)) = true := by simp [h1]
      rw [a1, a2, a3]
      simp only [if_true, Bool.false_eq_true, if_false, List.length_cons, ih]
      omega
    · have a3 : (x.2.1 == (k : Int)) = false := by simp [h1]
      by_cases h2 : x.2.1 < (k : Int)
      · have a1 : decide (x.2.1 < ((k + 1 : Nat) : Int)) = true := by simp; omega
        have a2 : decide (x.2.1 < (k : Int)) = true := by simp; omega
        rw [a1, a2, a3]
        simp only [if_true, Bool.false_eq_true, if_false, List.length_cons, ih]
        omega
      · have a1 : decide (x.2.1 < ((k + 1 : Nat) : Int)) = false := by simp; omega
        have a2 : decide (x.2.1 < (k : Int)) = false := by simp; omega
        rw [a1, a2, a3]
        simp only [Bool.false_eq_true, if_false, ih]
theorem sumN_one {i : Int} {Y : YV} {V : AV} (h : Bd i Y V) : sumN Y 1 = 0 := by
  unfold sumN
  rw [List.length_eq_zero_iff, List.filter_eq_nil_iff]
  intro p hp
  have := h.rng p hp
  simp
  omega
theorem sumN_nine {i : Int} {Y : YV} {V : AV} (h : Bd i Y V) : sumN Y 9 = Y.limbo.length := by
  unfold sumN
  rw [List.filter_eq_self.2]
  intro p hp
  have := h.rng p hp
  simp
  omega
theorem Bd.few {i : Int} {Y : YV} {V : AV} (h : Bd i Y V) (hb : Y.bound ≤ 64) : Y.limbo.length ≤ 512 := by
  have h1 := sumN_one h
  have h9 := sumN_nine h
  have c := fun k : Nat => h.cnt k
  have s := sumN_succ h
  have s1 : sumN Y 2 = sumN Y 1 + Y.limboN 1 := s 1
  have c1 : (Y.limboN 1 : Int) ≤ Y.bound := c 1
  have s2 : sumN Y 3 = sumN Y 2 + Y.limboN 2 := s 2
  have c2 : (Y.limboN 2 : Int) ≤ Y.bound := c 2
  have s3 : sumN Y 4 = sumN Y 3 + Y.limboN 3 := s 3
  have c3 : (Y.limboN 3 : Int) ≤ Y.bound := c 3
  have s4 : sumN Y 5 = sumN Y 4 + Y.limboN 4 := s 4
  have c4 : (Y.limboN 4 : Int) ≤ Y.bound := c 4
  have s5 : sumN Y 6 = sumN Y 5 + Y.limboN 5 := s 5
  have c5 : (Y.limboN 5 : Int) ≤ Y.bound := c 5
  have s6 : sumN Y 7 = sumN Y 6 + Y.limboN 6 := s 6
  have c6 : (Y.limboN 6 : Int) ≤ Y.bound := c 6
  have s7 : sumN Y 8 = sumN Y 7 + Y.limboN 7 := s 7
  have c7 : (Y.limboN 7 : Int) ≤ Y.bound := c 7
  have s8 : sumN Y 9 = sumN Y 8 + Y.limboN 8 := s 8
  have c8 : (Y.limboN 8 : Int) ≤ Y.bound := c 8
  omega
end Go.Proofs.Ytefhngbeodnldaa
