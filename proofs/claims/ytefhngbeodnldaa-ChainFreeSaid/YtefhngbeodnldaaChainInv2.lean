/- Layer 5, plain: a sweep, a decision; how a step is told. No program in sight. -/
import Derived.Test.YtefhngbeodnldaaChainInv
set_option linter.unusedVariables false
set_option linter.unusedSimpArgs false
namespace Go.Proofs.Ytefhngbeodnldaa
open Go.RowKit Go.PM
theorem find_set (V : AV) (b i v c : Int) : (V.set b i v).find c = if c = b then (V.find b).map (fun xs => xs.set i.toNat v) else V.find c := by
  unfold AV.find AV.set setAt
  simp only []
  rw [List.find?_map]
  have hp : ((fun p : Int × List Int => p.1 == c) ∘ fun p => if p.1 == b then (p.1, p.2.set i.toNat v) else p) = fun p => p.1 == c := by
    funext p
    simp only [Function.comp]
    split <;> rfl
  rw [hp]
  by_cases hc : c = b
  · subst hc
    rw [if_pos rfl]
    cases hf : V.ents.find? (fun p => p.1 == c) with
    | none => rfl
    | some p =>
      have := List.find?_some hf
      simp only [Option.map_some, this, if_true]
  · rw [if_neg hc]
    cases hf : V.ents.find? (fun p => p.1 == c) with
    | none => rfl
    | some p =>
      have := List.find?_some hf
      have h2 : (p.1 == b) = false := by
        simp only [beq_iff_eq] at this
        simp only [beq_eq_false_iff_ne]
        omega
      simp only [Option.map_some, h2, Bool.false_eq_true, if_false]
theorem since_nat (Y : YV) (t : Nat) : Y.since (t : Int) = Y.ent.getD t 0 := by unfold YV.since; rw [Int.toNat_natCast]
theorem getD_set_same (l : List Int) (i : Nat) (x : Int) (h : i < l.length) : (l.set i x).getD i 0 = x := by
  rw [List.getD_eq_getElem?_getD, List.getElem?_set_self h]; rfl
theorem getD_set_ne {α : Type} (l : List α) {i j : Nat} (x d : α) (h : i ≠ j) : (l.set i x).getD j d = l.getD j d := by
  rw [List.getD_eq_getElem?_getD, List.getElem?_set_ne h, ← List.getD_eq_getElem?_getD]
/-- Who is inside holds what is retired behind. -/
theorem held_of {Y : YV} {t : Int} {p : Int × Int × Int} (h : 0 < Y.since t) (h2 : Y.since t < p.2.2) : Y.held p = true := by
  unfold YV.held
  rw [List.any_eq_true]
  refine ⟨Y.since t, ?_, ?_⟩
  · unfold YV.since at h ⊢
    by_cases hl : t.toNat < Y.ent.length
    · rw [List.getD_eq_getElem?_getD, List.getElem?_eq_getElem hl]; exact List.getElem_mem hl
    · rw [List.getD_eq_getElem?_getD, List.getElem?_eq_none (by omega)] at h; exact absurd h (by decide)
  · unfold holdsB; simp [h, h2]
section
variable {M : Nat} {r : Int → Role} {O : CO}
theorem HeldAt.mono {N N' : Int} {V : AV} {Y : YV} {K : List Int} (h : HeldAt M N V Y r O K) (hN : N ≤ N') : HeldAt M N' V Y r O K := ⟨h.pos, h.find, h.role, h.lim, h.l1, h.l2, h.s1, Int.le_trans h.s2 hN⟩
theorem HeldAt.as {N : Int} {V : AV} {Y : YV} {K : List Int} {O' : CO} (h : HeldAt M N V Y r O K) (e1 : O'.old = O.old) (e2 : O'.chain = O.chain) (e3 : O'.t = O.t) : HeldAt M N V Y r O' K := ⟨by rw [e1]; exact h.pos, by rw [e1]; exact h.find, by rw [e1, e2]; exact h.role, by rw [e1, e3]; exact h.lim, h.l1, h.l2, h.s1, h.s2⟩
theorem Held.as {N : Int} {V : AV} {Y : YV} {K : List Int} {O' : CO} (h : Held M N V Y r O K) (e1 : O'.old = O.old) (e2 : O'.chain = O.chain) (e3 : O'.t = O.t) : Held M N V Y r O' K := h.imp (fun h => ⟨by rw [e1]; exact h.1, h.2⟩) (fun h => h.as e1 e2 e3)
theorem Held.mono {N N' : Int} {V : AV} {Y : YV} {K : List Int} (h : Held M N V Y r O K) (hN : N ≤ N') : Held M N' V Y r O K := h.imp id (fun h => h.mono hN)
end
structure Swept (N : Int) (r : Int → Role) (V : AV) (Y : YV) (V' : AV) (Y' : YV) : Prop where
  bd : Bd N Y' V'
  bound : Y'.bound = Y.bound
  faults : V'.faults = V.faults
  now : Y'.now = Y.now
  ent : Y'.ent = Y.ent
  lim : ∀ p ∈ Y'.limbo, p ∈ Y.limbo
  find : ∀ b, r b ≠ .gone → V'.find b = V.find b
  env : ∀ t2, Env t2 V Y r V' Y' r
theorem Swept.same {N : Int} {r : Int → Role} {V : AV} {Y : YV} (h : Bd N Y V) : Swept N r V Y V Y := ⟨h, rfl, rfl, rfl, rfl, fun _ h => h, fun _ _ => rfl, fun _ => Env.refl⟩
theorem Swept.sweep {N : Int} {r : Int → Role} {V : AV} {Y : YV} (h : Bd N Y V) (hl : ∀ p ∈ Y.limbo, r p.1 = .gone) : Swept N r V Y (dropsV Y V Y.limbo) Y.sweep := by
  have hf : ∀ b, r b ≠ .gone → (dropsV Y V Y.limbo).find b = V.find b := fun b hb => dropsV_find Y b Y.limbo V fun p hp _ e => hb (by rw [← e]; exact hl p hp)
  refine ⟨h.sweep, rfl, dropsV_still Y Y.limbo V h.nodup h.live, rfl, rfl, fun p hp => (kept_mem.1 hp).1, hf, fun t2 => ⟨rfl, fun b F h1 h2 => ⟨h2, by rw [hf b (by rw [h2]; intro h; cases h)]; exact h1⟩, fun _ _ _ _ k => .inl k, fun _ _ _ k => k, fun b K h1 h2 h3 h4 => ⟨?_, fun p hp he => h4 p (kept_mem.1 hp).1 he⟩⟩⟩
  rw [dropsV_find Y b Y.limbo V fun p hp hh he => ?_]
  · exact h1
  · have := held_of h3 (h4 p hp he)
    rw [this] at hh
    cases hh
section
variable {M m : Nat} {N : Int} {V V' : AV} {Y Y' : YV} {r : Int → Role} {t : Nat} {A : AskV} {did : Bool} {want : AnsV} {O O' : CO} {K F : List Int} {B : BV}
theorem dec_either (V : AV) (Y : YV) (O : CO) : (decV V Y O = V ∧ decY Y O = Y) ∨ (decV V Y O = dropsV Y V Y.limbo ∧ decY Y O = Y.sweep) := by
  unfold decV decY
  split
  · exact .inr ⟨rfl, rfl⟩
  · exact .inl ⟨rfl, rfl⟩
theorem Bd.dec (h : Bd N Y V) (hl : ∀ p ∈ Y.limbo, r p.1 = .gone) (O : CO) : Swept N r V Y (decV V Y O) (decY Y O) := by
  rcases dec_either V Y O with ⟨h1, h2⟩ | ⟨h1, h2⟩
  · rw [h1, h2]; exact .same h
  · rw [h1, h2]; exact .sweep h hl
theorem lidx_neg (l : List Int) (v : Int) : lidx l v < 0 ↔ l.contains v = false := by
  unfold lidx idxP
  cases h : l.findIdx? (fun y => v == y) with
  | none =>
    rw [List.findIdx?_eq_none_iff] at h
    constructor
    · intro _
      rw [List.contains_eq_any_beq, List.any_eq_false]
      intro x hx; rw [h x hx]; simp
    · intro _; show (-1 : Int) < 0; decide
  | some i =>
    obtain ⟨hi, hp, _⟩ := List.findIdx?_eq_some_iff_getElem.1 h
    constructor
    · intro hh; have hh : (i : Int) < 0 := hh; omega
    · intro hh
      rw [List.contains_eq_any_beq, List.any_eq_false] at hh
      exact absurd hp (hh _ (List.getElem_mem hi))
theorem lidx_erase (l : List Int) (v : Int) (h : l.contains v = true) : l.eraseIdx (lidx l v).toNat = l.erase v := by
  induction l with
  | nil => simp at h
  | cons x l ih =>
    unfold lidx idxP at ih ⊢
    rw [List.findIdx?_cons]
    by_cases hx : v = x
    · subst hx; simp
    · have h1 : (v == x) = false := by simp [hx]
      have h2 : (x == v) = false := by simp [Ne.symm hx]
      rw [h1]
      have hc : l.contains v = true := by simpa [hx] using h
      have ih := ih hc
      rw [List.erase_cons_tail (by simp [h2])]
      cases hf : l.findIdx? (fun y => v == y) with
      | none =>
        rw [List.findIdx?_eq_none_iff] at hf
        rw [List.contains_eq_any_beq, List.any_eq_true] at hc
        obtain ⟨y, hy, hvy⟩ := hc
        rw [hf y hy] at hvy
        cases hvy
      | some i =>
        rw [hf] at ih
        simp only [Bool.false_eq_true, if_false, Option.map_some] at ih ⊢
        show (x :: l).eraseIdx (((i + 1 : Nat) : Int)).toNat = x :: l.erase v
        rw [Int.toNat_natCast, List.eraseIdx_cons_succ]
        rw [← ih]
        rfl
theorem aft_len (A : AskV) (l : List Int) : (aft A l).length ≤ l.length + 1 := by
  unfold aft addL
  split
  · exact Nat.le_trans (List.length_erase_le) (by omega)
  · split <;> simp
/-- What comes of a decision. -/
structure DecOut (M : Nat) (N : Int) (V : AV) (Y : YV) (r : Int → Role) (m t : Nat) (A : AskV) (want : AnsV) (O O' : CO) : Prop where
  st : Stg M N V Y r m t A want O'
  done : O'.done = O.done
  n : O'.next ≠ 0 ∧ O'.next ≠ 11
  t : O'.t = O.t
  ch : O'.chain = O.chain
  what : O'.what = O.what
  val : O'.value = O.value
  fd : O'.found = O.found
  ll : O'.list.length ≤ 1000
  vl : O'.values.length ≤ 1000
theorem dec_out (hV : V' = decV V Y O) (hY : Y' = decY Y O) (hb : Bd N Y V) (hl : ∀ p ∈ Y.limbo, r p.1 = .gone) (hM : M ≤ 200) (ht : O.t = (t : Int)) (hk : 1 ≤ A.kind ∧ A.kind ≤ 4) (hw : (A.kind = 1 → O.what = 0) ∧ (A.kind = 2 → O.what = 1) ∧ (A.kind = 3 → O.what = 2) ∧ (A.kind = 4 → O.what = 3)) (hv : A.kind ≤ 3 → O.value = A.v)
    (hK : Held M N V Y r O K) (hs : 0 < Y.since O.t) (fd : O.found = K) (f : O.fresh = 0) (d : O.done = decide (A.kind = 4)) (al : A.kind = 4 → want = ⟨0, true, hd0 K, K.drop 1⟩) (ll : O.list.length ≤ 1000) (vl : O.values.length ≤ 1000) :
    DecOut M N V' Y' r m t A want O (decO V Y O) := by
  have hsw := hb.dec hl O
  rw [← hV, ← hY] at hsw
  have hK' := hK.move (hsw.env t) ht hs (Int.le_refl N)
  have hKl : K.length ≤ 201 := by
    rcases hK with ⟨_, h⟩ | h
    · rw [h]; simp
    · have := h.l2; omega
  have hnow : O.now = K.drop 1 := by unfold CO.now; rw [fd]
  have hst : O.st = hd0 K := by unfold CO.st; rw [fd]
  have hdl : (K.drop 1).length ≤ 200 := by rw [List.length_drop]; omega
  unfold decO
  by_cases w3 : O.what = 3
  · rw [if_pos w3]
    have hk4 : A.kind = 4 := by
      rcases hw with ⟨h1, h2, h3, h4⟩
      by_cases a : A.kind = 1
      · have := h1 a; omega
      by_cases b : A.kind = 2
      · have := h2 b; omega
      by_cases c : A.kind = 3
      · have := h3 c; omega
      omega
    have hd : O.done = true := by rw [d]; simp [hk4]
    refine ⟨.s10 rfl f (fun _ => ?_) (fun h => ?_), rfl, by constructor <;> (show (10 : Int) ≠ _; decide), rfl, rfl, rfl, rfl, rfl, ll, by rw [hnow]; show (K.drop 1).length ≤ 1000; omega⟩
    · rw [al hk4, hst, hnow]
    · have h : O.done = false := h
      rw [hd] at h; cases h
  · rw [if_neg w3]
    have hk3 : A.kind ≤ 3 := by
      rcases hw with ⟨h1, h2, h3, h4⟩
      by_cases a : A.kind = 4
      · exact absurd (h4 a) w3
      · omega
    have hd : O.done = false := by rw [d, decide_eq_false (by omega)]
    by_cases w2 : O.what = 2
    · have k3 : A.kind = 3 := by
        rcases hw with ⟨h1, h2, h3, h4⟩
        by_cases a : A.kind = 1
        · have := h1 a; omega
        by_cases b : A.kind = 2
        · have := h2 b; omega
        omega
      rw [hnow, hv hk3]
      by_cases hi : lidx (K.drop 1) A.v < 0
      · rw [if_pos ⟨w2, hi⟩]
        exact ⟨.s4 K rfl hd f (hK'.as rfl rfl rfl) fd k3 ((lidx_neg _ _).1 hi), rfl, by constructor <;> (show (4 : Int) ≠ _; decide), rfl, rfl, rfl, hv hk3 ▸ rfl, rfl, ll, vl⟩
      · rw [if_neg (fun h => hi h.2), if_neg (fun h => h.1 w2)]
        have hc : (K.drop 1).contains A.v = true := by
          cases hc : (K.drop 1).contains A.v with
          | true => rfl
          | false => exact absurd ((lidx_neg _ _).2 hc) hi
        have hpre : O.pre = aft A (K.drop 1) := by
          unfold CO.pre aft
          rw [if_pos w2, if_pos k3, hnow, hv hk3, lidx_erase _ _ hc]
        split
        · have hfa : (O.built.fail 43).next = 10 := by unfold CO.fail CO.built; simp [f]
          refine ⟨.s10 hfa f (fun h => ?_) (fun _ => ⟨rfl, rfl, rfl, .inr ⟨.inl rfl, by omega⟩⟩), rfl, by constructor <;> (rw [hfa]; decide), rfl, rfl, rfl, rfl, rfl, ?_, by show (0 : Nat) ≤ 1000; omega⟩
          · have h : O.done = true := h
            rw [hd] at h; cases h
          · show (O.pre).length + 1 ≤ 1000
            rw [hpre]; have := aft_len A (K.drop 1); omega
        · refine ⟨.s5 K rfl hd f (hK'.as rfl rfl rfl) ⟨hk3, fd, ?_, fun _ => hc, fun h => absurd k3 h⟩, rfl, by constructor <;> (show (5 : Int) ≠ _; decide), rfl, rfl, rfl, rfl, rfl, ?_, vl⟩
          · show (O.st + 1) :: O.pre = _
            rw [hst, hpre]
          · show (O.pre).length + 1 ≤ 1000
            rw [hpre]; have := aft_len A (K.drop 1); omega
    · rw [if_neg (fun h => w2 h.1)]
      have hkn : A.kind ≠ 3 := fun h => w2 (hw.2.2.1 h)
      rw [hnow]
      by_cases hfull : 200 ≤ (K.drop 1).length
      · rw [if_pos ⟨w2, hfull⟩]
        have hfa : (CO.fail { O with next := 5, list := K.drop 1 } 3).next = 10 := by unfold CO.fail; simp [f]
        refine ⟨.s10 hfa f (fun h => ?_) (fun _ => ⟨rfl, rfl, rfl, .inl ⟨rfl, by omega⟩⟩), rfl, by constructor <;> (rw [hfa]; decide), rfl, rfl, rfl, rfl, rfl, ?_, by show (0 : Nat) ≤ 1000; omega⟩
        · have h : O.done = true := h
          rw [hd] at h; cases h
        · show (K.drop 1).length ≤ 1000
          omega
      · rw [if_neg (fun h => hfull h.2)]
        have hpre : O.pre = aft A (K.drop 1) := by
          unfold CO.pre aft
          rw [if_neg w2, if_neg hkn, hnow, hv hk3]
          by_cases k2 : A.kind = 2
          · rw [if_pos (hw.2.1 k2), decide_eq_true k2]; rfl
          · rw [if_neg (by rw [hw.1 (by omega)]; decide), decide_eq_false k2]; rfl
        split
        · have hfa : (O.built.fail 43).next = 10 := by unfold CO.fail CO.built; simp [f]
          refine ⟨.s10 hfa f (fun h => ?_) (fun _ => ⟨rfl, rfl, rfl, .inr ⟨.inl rfl, by omega⟩⟩), rfl, by constructor <;> (rw [hfa]; decide), rfl, rfl, rfl, rfl, rfl, ?_, by show (0 : Nat) ≤ 1000; omega⟩
          · have h : O.done = true := h
            rw [hd] at h; cases h
          · show (O.pre).length + 1 ≤ 1000
            rw [hpre]; have := aft_len A (K.drop 1); omega
        · refine ⟨.s5 K rfl hd f (hK'.as rfl rfl rfl) ⟨hk3, fd, ?_, fun h => absurd h hkn, fun _ => by omega⟩, rfl, by constructor <;> (show (5 : Int) ≠ _; decide), rfl, rfl, rfl, rfl, rfl, ?_, vl⟩
          · show (O.st + 1) :: O.pre = _
            rw [hst, hpre]
          · show (O.pre).length + 1 ≤ 1000
            rw [hpre]; have := aft_len A (K.drop 1); omega
end
end Go.Proofs.Ytefhngbeodnldaa
