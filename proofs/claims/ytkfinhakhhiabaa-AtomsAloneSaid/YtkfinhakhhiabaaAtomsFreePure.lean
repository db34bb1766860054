/- AtomsFree, the plain law: operations under way, how many steps each has left. No program in sight. -/
import Derived.Test.YtkfinhakhhiabaaAtomsPure
set_option maxRecDepth 20000
set_option linter.unusedVariables false
set_option linter.unusedSimpArgs false
namespace Go.Proofs.Ytkfinhakhhiabaa
open Go.RowKit Go.PM

/-- A block that is no list's yet. -/
def Priv (V : AV) (T : TV) (ls : Nat → List Int) (x : Int) : Prop := 0 < x ∧ (∃ y, V.find x = some [y]) ∧ ∀ c : Nat, 1 ≤ c → (c : Int) ≤ T.buckets → x ∉ ls c
/-- How many steps more there are where the list was read too early. -/
def stale (ls : Nat → List Int) (c : Nat) (O : OV) : Nat := if O.first = hd (ls c) then 0 else (ls c).length + 5
/-- What is true of an operation in its state, and how many steps it has left. -/
def Ph (V : AV) (ls : Nat → List Int) (c : Nat) (O : OV) (p : Nat) : Prop :=
  (O.next = 0 ∧ O.node = 0 ∧ p = (ls c).length + 8) ∨ (O.next = 1 ∧ p = (ls c).length + (if O.node = 0 then 7 else 5)) ∨
  (O.next = 2 ∧ ∃ pre s, ls c = pre ++ s ∧ O.at_ = hd s ∧ p = s.length + (if O.node = 0 then 6 else 4) + stale ls c O) ∨
  (O.next = 3 ∧ O.node = 0 ∧ p = 5 + stale ls c O) ∨ (O.next = 4 ∧ O.node = 0 ∧ p = 4 + stale ls c O) ∨ (O.next = 5 ∧ 0 < O.node ∧ p = 3 + stale ls c O) ∨
  (O.next = 6 ∧ 0 < O.node ∧ V.find O.node = some [O.first] ∧ p = 2 + stale ls c O) ∨ (O.next = 7 ∧ 0 < O.node ∧ p = 2) ∨ (O.next = 8 ∧ O.node = 0 ∧ p = 1) ∨ (O.next = 9 ∧ p = 0)
structure OpP (V : AV) (T : TV) (ls : Nat → List Int) (O : OV) (p : Nat) : Prop where
  node : 0 ≤ O.node
  priv : O.next ≠ 9 → 0 < O.node → Priv V T ls O.node
  ph : ∃ c : Nat, O.cell = c ∧ 1 ≤ c ∧ (c : Int) ≤ T.buckets ∧ Ph V ls c O p
section
variable {V : AV} {T : TV} {O : OV} {ls : Nat → List Int} {p : Nat}
/-- What a step does, for the others: the lists are as before, or one is longer by the operation's own block. -/
structure StepP (V V' : AV) (T T' : TV) (ls ls' : Nat → List Int) (O O' : OV) (p p' : Nat) : Prop where
  tab : Tab V' T' ls'
  op : OpP V' T' ls' O' p'
  table : T'.block = T.block ∧ T'.buckets = T.buckets ∧ T'.most = T.most
  faults : V'.faults = V.faults
  keep : ∀ x, x ≠ T.block → (0 < O.node → x ≠ O.node) → ∀ y, V.find x = some [y] → V'.find x = some [y]
  node : O'.node = O.node ∨ O'.node = 0 ∨ (O.node = 0 ∧ V.find O'.node = none)
  lists : (O'.next ≠ 9 → ls' = ls ∧ p' < p) ∧ (ls' = ls ∨ ∃ c : Nat, 1 ≤ c ∧ (c : Int) ≤ T.buckets ∧ 0 < O.node ∧ O.next = 6 ∧ ls' = push ls c O.node)
theorem Priv.keep {V' : AV} {T' : TV} {x : Int} (h : Priv V T ls x) (hb : T'.buckets = T.buckets) (hk : ∀ y, V.find x = some [y] → V'.find x = some [y]) : Priv V' T' ls x := by
  obtain ⟨h1, ⟨y, h2⟩, h3⟩ := h
  exact ⟨h1, ⟨y, hk y h2⟩, fun c q1 q2 => h3 c q1 (by rw [← hb]; exact q2)⟩
theorem OV.fin_node (O : OV) (id e : Int) : (O.fin id e).node = O.node ∧ (O.fin id e).cell = O.cell ∧ (O.fin id e).next = (if 0 < O.node then 7 else if O.reserved then 8 else 9) := ⟨rfl, rfl, rfl⟩
theorem fin_op {c : Nat} (hc : O.cell = c) (h1 : 1 ≤ c) (h2 : (c : Int) ≤ T.buckets) (hn : 0 ≤ O.node) (hp : 0 < O.node → Priv V T ls O.node) (id e : Int) : ∃ p', OpP V T ls (O.fin id e) p' ∧ p' ≤ 2 ∧ (O.node = 0 → p' ≤ 1) := by
  by_cases hpos : 0 < O.node
  · have hx : (O.fin id e).next = 7 := by show (if 0 < O.node then (7 : Int) else _) = 7; rw [if_pos hpos]
    exact ⟨2, ⟨hn, fun _ _ => hp hpos, c, hc, h1, h2, .inr (.inr (.inr (.inr (.inr (.inr (.inr (.inl ⟨hx, hpos, rfl⟩)))))))⟩, Nat.le_refl _, fun h0 => by omega⟩
  · have h0 : O.node = 0 := by omega
    cases hr : O.reserved with
    | true =>
      have hx : (O.fin id e).next = 8 := by show (if 0 < O.node then (7 : Int) else if O.reserved then 8 else 9) = 8; rw [if_neg hpos, hr]; rfl
      exact ⟨1, ⟨hn, fun _ h => absurd h hpos, c, hc, h1, h2, .inr (.inr (.inr (.inr (.inr (.inr (.inr (.inr (.inl ⟨hx, h0, rfl⟩))))))))⟩, by omega, fun _ => Nat.le_refl _⟩
    | false =>
      have hx : (O.fin id e).next = 9 := by show (if 0 < O.node then (7 : Int) else if O.reserved then 8 else 9) = 9; rw [if_neg hpos, hr]; rfl
      exact ⟨0, ⟨hn, fun h _ => absurd hx h, c, hc, h1, h2, .inr (.inr (.inr (.inr (.inr (.inr (.inr (.inr (.inr ⟨hx, rfl⟩))))))))⟩, by omega, fun _ => by omega⟩
theorem step_free (hok : V.Ok) (hT : Tab V T ls) (hO : OpP V T ls O p) (h9 : O.next ≠ 9) : ∃ ls' p', StepP V (stepV V T O) T (stepT V T O) ls ls' O (stepO V T O) p p' := by
  obtain ⟨hnode, hpriv, c, hc, hc1, hc2, hph⟩ := hO
  have hpriv := hpriv h9
  obtain ⟨hd1, hd2, hd3⟩ := hT.head hc1 hc2
  rcases hph with ⟨hn, hn0, hp⟩ | ⟨hn, hp⟩ | ⟨hn, pre, s, hps, hat, hp⟩ | ⟨hn, hn0, hp⟩ | ⟨hn, hn0, hp⟩ | ⟨hn, hpos, hp⟩ | ⟨hn, hpos, hfn, hp⟩ | ⟨hn, hpos, hp⟩ | ⟨hn, hn0, hp⟩ | ⟨hn, hp⟩
  · -- start
    have eV : stepV V T O = V := by unfold stepV; rw [if_pos hn]
    have eT : stepT V T O = T := by unfold stepT; rw [if_pos hn]
    have eO : stepO V T O = step0 O := by unfold stepO; rw [if_pos hn]
    rw [eV, eT, eO]
    unfold step0
    by_cases hs : 64 < O.name.size
    · rw [if_pos hs]
      obtain ⟨p', h1, h2, h3⟩ := fin_op (V := V) (T := T) (ls := ls) (O := { O with next := 1 }) hc hc1 hc2 hnode hpriv 0 2
      exact ⟨ls, p', hT, h1, ⟨rfl, rfl, rfl⟩, rfl, fun x _ _ y h => h, .inl rfl, fun _ => ⟨rfl, by omega⟩, .inl rfl⟩
    · rw [if_neg hs]
      exact ⟨ls, (ls c).length + 7, hT, ⟨hnode, fun _ => hpriv, c, hc, hc1, hc2, .inr (.inl ⟨rfl, by show _ = _ + (if O.node = 0 then 7 else 5); rw [if_pos hn0]⟩)⟩, ⟨rfl, rfl, rfl⟩, rfl, fun x _ _ y h => h, .inl rfl, fun _ => ⟨rfl, by omega⟩, .inl rfl⟩
  · -- head
    have eV : stepV V T O = V := by unfold stepV; rw [if_neg (by omega), if_pos hn]; exact hd3
    have eT : stepT V T O = T := by unfold stepT; rw [if_neg (by omega), if_pos hn]
    have eO : stepO V T O = { O with first := V.val T.block O.cell, at_ := V.val T.block O.cell, next := 2 } := by unfold stepO; rw [if_neg (by omega), if_pos hn]
    rw [eV, eT, eO, hc, hd1]
    refine ⟨ls, (ls c).length + (if O.node = 0 then 6 else 4), hT, ⟨hnode, fun _ => hpriv, c, rfl, hc1, hc2, .inr (.inr (.inl ⟨rfl, [], ls c, rfl, rfl, ?_⟩))⟩, ⟨rfl, rfl, rfl⟩, rfl, fun x _ _ y h => h, .inl rfl, fun _ => ⟨rfl, ?_⟩, .inl rfl⟩
    · show _ = (ls c).length + (if O.node = 0 then 6 else 4) + (if hd (ls c) = hd (ls c) then 0 else _)
      rw [if_pos rfl, Nat.add_zero]
    · rw [hp]; split <;> omega
  · -- walk
    have eV : stepV V T O = lookV V T O := by unfold stepV; rw [if_neg (by omega), if_neg (by omega), if_pos hn]
    have eT : stepT V T O = T := by unfold stepT; rw [if_neg (by omega), if_neg (by omega), if_pos hn]
    have eO : stepO V T O = lookO V T O := by unfold stepO; rw [if_neg (by omega), if_neg (by omega), if_pos hn]
    rw [eV, eT, eO]
    have hch : ChainOk V s := by have := hT.chain c hc1 hc2; rw [hps] at this; exact this.suffix
    unfold lookV lookO
    cases s with
    | nil =>
      have h0 : O.at_ = 0 := hat
      rw [if_pos h0, if_pos h0]
      by_cases hpos : 0 < O.node
      · rw [if_pos hpos]
        exact ⟨ls, 3 + stale ls c O, hT, ⟨hnode, fun _ => hpriv, c, hc, hc1, hc2, .inr (.inr (.inr (.inr (.inr (.inl ⟨rfl, hpos, rfl⟩)))))⟩, ⟨rfl, rfl, rfl⟩, rfl, fun x _ _ y h => h, .inl rfl, fun _ => ⟨rfl, by rw [if_neg (by omega)] at hp; simp at hp; omega⟩, .inl rfl⟩
      · have hn0 : O.node = 0 := by omega
        rw [if_neg hpos]
        exact ⟨ls, 5 + stale ls c O, hT, ⟨hnode, fun _ => hpriv, c, hc, hc1, hc2, .inr (.inr (.inr (.inl ⟨rfl, hn0, rfl⟩)))⟩, ⟨rfl, rfl, rfl⟩, rfl, fun x _ _ y h => h, .inl rfl, fun _ => ⟨rfl, by rw [if_pos hn0] at hp; simp at hp; omega⟩, .inl rfl⟩
    | cons x s =>
      have hx : O.at_ = x := hat
      have h0 : O.at_ ≠ 0 := by have := hch.1; omega
      obtain ⟨v1, v2, v3⟩ := AV.val_one hch.2.1
      rw [if_neg h0, if_neg h0]
      by_cases hnm : (T.nm O.at_).toList = O.name.toList
      · rw [if_pos hnm, if_pos hnm]
        obtain ⟨p', h1, h2, h3⟩ := fin_op (V := V) (T := T) (ls := ls) (O := O) hc hc1 hc2 hnode hpriv O.at_ 0
        exact ⟨ls, p', hT, h1, ⟨rfl, rfl, rfl⟩, rfl, fun x _ _ y h => h, .inl rfl, fun _ => ⟨rfl, by rw [hp, List.length_cons]; split <;> omega⟩, .inl rfl⟩
      · rw [if_neg hnm, if_neg hnm, hx, v1, v3]
        refine ⟨ls, s.length + (if O.node = 0 then 6 else 4) + stale ls c O, hT, ⟨hnode, fun _ => hpriv, c, hc, hc1, hc2, .inr (.inr (.inl ⟨hn, pre ++ [x], s, by rw [hps]; simp, rfl, rfl⟩))⟩, ⟨rfl, rfl, rfl⟩, rfl, fun x _ _ y h => h, .inl rfl, fun _ => ⟨rfl, by rw [hp, List.length_cons]; omega⟩, .inl rfl⟩
  · -- reserve
    have eV : stepV V T O = V.add T.block 0 1 := by unfold stepV; rw [if_neg (by omega), if_neg (by omega), if_neg (by omega), if_pos hn]
    have eT : stepT V T O = T := by unfold stepT; rw [if_neg (by omega), if_neg (by omega), if_neg (by omega), if_pos hn]
    have eO : stepO V T O = step3 V T O := by unfold stepO; rw [if_neg (by omega), if_neg (by omega), if_neg (by omega), if_pos hn]
    obtain ⟨t1, t2, t3, _, _⟩ := hT.count (d := 1)
    rw [eV, eT, eO]
    unfold step3
    by_cases hs : T.most < V.addVal T.block 0 1
    · rw [if_pos hs]
      obtain ⟨p', h1, h2, h3⟩ := fin_op (V := V.add T.block 0 1) (T := T) (ls := ls) (O := { O with reserved := true, next := 4 }) hc hc1 hc2 hnode (fun h => absurd h (by show ¬ 0 < O.node; omega)) 0 3
      exact ⟨ls, p', t1, h1, ⟨rfl, rfl, rfl⟩, t2, fun x hx _ y h => by rw [t3 x hx]; exact h, .inl rfl, fun _ => ⟨rfl, by omega⟩, .inl rfl⟩
    · rw [if_neg hs]
      exact ⟨ls, 4 + stale ls c O, t1, ⟨hnode, fun _ h => absurd h (by show ¬ 0 < O.node; omega), c, hc, hc1, hc2, .inr (.inr (.inr (.inr (.inl ⟨rfl, hn0, rfl⟩))))⟩, ⟨rfl, rfl, rfl⟩, t2, fun x hx _ y h => by rw [t3 x hx]; exact h, .inl rfl, fun _ => ⟨rfl, by omega⟩, .inl rfl⟩
  · -- makeOne
    have eV : stepV V T O = V.alloc 1 := by unfold stepV; rw [if_neg (by omega), if_neg (by omega), if_neg (by omega), if_neg (by omega), if_pos hn]
    have eO : stepO V T O = step4 V O := by unfold stepO; rw [if_neg (by omega), if_neg (by omega), if_neg (by omega), if_neg (by omega), if_pos hn]
    have eT : stepT V T O = if V.allocErr 1 = 0 then T.put (V.made + 1) O.name else T := by unfold stepT; rw [if_neg (by omega), if_neg (by omega), if_neg (by omega), if_neg (by omega), if_pos hn]
    rw [eV, eT, eO]
    unfold step4
    by_cases hs : V.allocErr 1 = 0
    · rw [if_pos hs, if_pos hs]
      have hfa := fun b => find_alloc hok hs b
      have hnone := (hfa 0).2.1
      have hmd := hok.made
      have hkeep : ∀ b y, V.find b = some y → (V.alloc 1).find b = some y := fun b y h => by
        rw [(hfa b).1, if_neg (fun e => by rw [e, hnone] at h; cases h)]; exact h
      have hnl : ∀ e : Nat, 1 ≤ e → (e : Int) ≤ T.buckets → V.made + 1 ∉ ls e := fun e q1 q2 hm => by
        obtain ⟨_, y, hy⟩ := (hT.chain e q1 q2).at_ _ hm
        rw [hnone] at hy; cases hy
      refine ⟨ls, 3 + stale ls c O, hT.keep rfl rfl ?_ fun e q1 q2 b hb => ?_, ⟨by show (0 : Int) ≤ V.made + 1; omega, fun _ _ => ⟨by show (0 : Int) < V.made + 1; omega, ⟨0, by rw [(hfa (V.made + 1)).1, if_pos rfl]; rfl⟩, hnl⟩, c, hc, hc1, hc2, .inr (.inr (.inr (.inr (.inr (.inl ⟨rfl, by show (0 : Int) < V.made + 1; omega, rfl⟩)))))⟩, ⟨rfl, rfl, rfl⟩, (hfa 0).2.2.1,
        fun x _ _ y h => hkeep x [y] h, .inr (.inr ⟨hn0, hnone⟩), fun _ => ⟨rfl, by omega⟩, .inl rfl⟩
      · obtain ⟨xs, hx, _⟩ := hT.root
        rw [hkeep _ _ hx, hx]
      · obtain ⟨_, y, hy⟩ := (hT.chain e q1 q2).at_ b hb
        rw [hkeep b _ hy, hy]
    · rw [if_neg hs, if_neg hs]
      have hv : V.alloc 1 = V := by unfold AV.alloc; rw [if_neg hs]
      rw [hv]
      obtain ⟨p', h1, h2, h3⟩ := fin_op (V := V) (T := T) (ls := ls) (O := { O with next := 5 }) hc hc1 hc2 hnode hpriv 0 (V.allocErr 1)
      exact ⟨ls, p', hT, h1, ⟨rfl, rfl, rfl⟩, rfl, fun x _ _ y h => h, .inl rfl, fun _ => ⟨rfl, by omega⟩, .inl rfl⟩
  · -- lay
    have eV : stepV V T O = V.store O.node ((0 : Nat) : Int) O.first := by unfold stepV; rw [if_neg (by omega), if_neg (by omega), if_neg (by omega), if_neg (by omega), if_neg (by omega), if_pos hn]; rfl
    have eT : stepT V T O = T := by unfold stepT; rw [if_neg (by omega), if_neg (by omega), if_neg (by omega), if_neg (by omega), if_neg (by omega), if_pos hn]
    have eO : stepO V T O = { O with next := 6 } := by unfold stepO; rw [if_neg (by omega), if_neg (by omega), if_neg (by omega), if_neg (by omega), if_neg (by omega), if_pos hn]
    obtain ⟨q1, ⟨y, hy⟩, q3⟩ := hpriv hpos
    have hf := fun b => find_store (v := O.first) hy (i := 0) (by simp) b
    have hne := hT.block_ne hy
    rw [eV, eT, eO]
    refine ⟨ls, 2 + stale ls c O, hT.keep rfl rfl ?_ fun e r1 r2 b hb => ?_, ⟨hnode, fun _ _ => ⟨q1, ⟨O.first, by show (V.store O.node ((0 : Nat) : Int) O.first).find O.node = _; rw [(hf O.node).1, if_pos rfl]; rfl⟩, q3⟩, c, hc, hc1, hc2, .inr (.inr (.inr (.inr (.inr (.inr (.inl ⟨rfl, hpos, by show (V.store O.node ((0 : Nat) : Int) O.first).find O.node = _; rw [(hf O.node).1, if_pos rfl]; rfl, rfl⟩))))))⟩, ⟨rfl, rfl, rfl⟩, (hf 0).2.1,
      fun x _ hx y h => by rw [(hf x).1, if_neg (hx hpos)]; exact h, .inl rfl, fun _ => ⟨rfl, by omega⟩, .inl rfl⟩
    · rw [(hf T.block).1, if_neg (Ne.symm hne)]
    · rw [(hf b).1, if_neg (fun e2 => q3 e r1 r2 (by rw [← e2]; exact hb))]
  · -- publish
    have eV : stepV V T O = V.swap T.block c O.first O.node := by unfold stepV lastV; rw [if_neg (by omega), if_neg (by omega), if_neg (by omega), if_neg (by omega), if_neg (by omega), if_neg (by omega), if_pos hn, hc]
    have eT : stepT V T O = T := by unfold stepT lastT; rw [if_neg (by omega), if_neg (by omega), if_neg (by omega), if_neg (by omega), if_neg (by omega), if_neg (by omega), if_neg (by omega)]
    have eO : stepO V T O = if V.swapOk T.block c O.first then { O with id := O.node, next := 9 } else { O with next := 1 } := by unfold stepO lastO; rw [if_neg (by omega), if_neg (by omega), if_neg (by omega), if_neg (by omega), if_neg (by omega), if_neg (by omega), if_pos hn, hc]
    obtain ⟨s1, s2, s3⟩ := hT.swap hc1 hc2 O.first O.node
    rw [eV, eT, eO]
    by_cases he : hd (ls c) = O.first
    · obtain ⟨t1, t2, t3, _, _, _⟩ := s3 he hpos hfn
      rw [if_pos (s1.2 he)]
      exact ⟨push ls c O.node, 0, t1, ⟨hnode, fun h _ => absurd rfl h, c, hc, hc1, hc2, .inr (.inr (.inr (.inr (.inr (.inr (.inr (.inr (.inr ⟨rfl, rfl⟩))))))))⟩, ⟨rfl, rfl, rfl⟩, t2, fun x hx _ y h => by rw [t3 x hx]; exact h, .inl rfl, fun h => absurd rfl h, .inr ⟨c, hc1, hc2, hpos, hn, rfl⟩⟩
    · rw [s2 he, if_neg (fun h => he (s1.1 h))]
      refine ⟨ls, (ls c).length + 5, hT, ⟨hnode, fun _ => hpriv, c, hc, hc1, hc2, .inr (.inl ⟨rfl, by show _ = _ + (if O.node = 0 then 7 else 5); rw [if_neg (by omega)]⟩)⟩, ⟨rfl, rfl, rfl⟩, rfl, fun x _ _ y h => h, .inl rfl, fun _ => ⟨rfl, ?_⟩, .inl rfl⟩
      unfold stale at hp
      rw [if_neg (Ne.symm he)] at hp
      omega
  · -- drop
    have eV : stepV V T O = V.free O.node := by unfold stepV lastV; rw [if_neg (by omega), if_neg (by omega), if_neg (by omega), if_neg (by omega), if_neg (by omega), if_neg (by omega), if_neg (by omega), if_pos hn]
    have eT : stepT V T O = T.del O.node := by unfold stepT lastT; rw [if_neg (by omega), if_neg (by omega), if_neg (by omega), if_neg (by omega), if_neg (by omega), if_neg (by omega), if_pos hn]
    have eO : stepO V T O = { O with node := 0, next := 8 } := by unfold stepO lastO; rw [if_neg (by omega), if_neg (by omega), if_neg (by omega), if_neg (by omega), if_neg (by omega), if_neg (by omega), if_neg (by omega), if_pos hn]
    obtain ⟨q1, ⟨y, hy⟩, q3⟩ := hpriv hpos
    have hf := fun b => find_free hok hy b
    have hne := hT.block_ne hy
    rw [eV, eT, eO]
    refine ⟨ls, 1, hT.keep rfl rfl ?_ fun e r1 r2 b hb => ?_, ⟨Int.le_refl _, fun _ h => absurd h (by show ¬ (0 : Int) < 0; omega), c, hc, hc1, hc2, .inr (.inr (.inr (.inr (.inr (.inr (.inr (.inr (.inl ⟨rfl, rfl, rfl⟩))))))))⟩, ⟨rfl, rfl, rfl⟩, (hf 0).2.1, fun x _ hx y h => by rw [(hf x).1, if_neg (hx hpos)]; exact h, .inr (.inl rfl), fun _ => ⟨rfl, by omega⟩, .inl rfl⟩
    · rw [(hf T.block).1, if_neg (Ne.symm hne)]
    · rw [(hf b).1, if_neg (fun e2 => q3 e r1 r2 (by rw [← e2]; exact hb))]
  · -- giveBack
    have eV : stepV V T O = V.add T.block 0 (-1) := by unfold stepV lastV; rw [if_neg (by omega), if_neg (by omega), if_neg (by omega), if_neg (by omega), if_neg (by omega), if_neg (by omega), if_neg (by omega), if_neg (by omega), if_pos hn]
    have eT : stepT V T O = T := by unfold stepT lastT; rw [if_neg (by omega), if_neg (by omega), if_neg (by omega), if_neg (by omega), if_neg (by omega), if_neg (by omega), if_neg (by omega)]
    have eO : stepO V T O = { O with next := 9 } := by unfold stepO lastO; rw [if_neg (by omega), if_neg (by omega), if_neg (by omega), if_neg (by omega), if_neg (by omega), if_neg (by omega), if_neg (by omega), if_neg (by omega), if_pos hn]
    obtain ⟨t1, t2, t3, _, _⟩ := hT.count (d := -1)
    rw [eV, eT, eO]
    exact ⟨ls, 0, t1, ⟨hnode, fun h _ => absurd rfl h, c, hc, hc1, hc2, .inr (.inr (.inr (.inr (.inr (.inr (.inr (.inr (.inr ⟨rfl, rfl⟩))))))))⟩, ⟨rfl, rfl, rfl⟩, t2, fun x hx _ y h => by rw [t3 x hx]; exact h, .inl rfl, fun h => absurd rfl h, .inl rfl⟩
  · exact absurd hn h9
/-! ### the others -/
theorem OpP.over {V : AV} {T : TV} {O : OV} {ls : Nat → List Int} {p : Nat} (h : OpP V T ls O p) (h9 : O.next = 9) : p = 0 := by
  obtain ⟨c, _, _, _, hph⟩ := h.ph
  rcases hph with h | h | h | h | h | h | h | h | h | h
  all_goals first | exact h.2 | (have := h.1; omega)
theorem OpP.pos {V : AV} {T : TV} {O : OV} {ls : Nat → List Int} {p : Nat} (h : OpP V T ls O p) (h9 : O.next ≠ 9) : 1 ≤ p := by
  obtain ⟨c, _, _, _, hph⟩ := h.ph
  rcases hph with ⟨_, _, h⟩ | ⟨_, h⟩ | ⟨_, _, _, _, _, h⟩ | ⟨_, _, h⟩ | ⟨_, _, h⟩ | ⟨_, _, h⟩ | ⟨_, _, _, h⟩ | ⟨_, _, h⟩ | ⟨_, _, h⟩ | ⟨h, _⟩
  · omega
  · split at h <;> omega
  · split at h <;> omega
  all_goals first | omega | exact absurd h h9
theorem OpP.le {V : AV} {T : TV} {O : OV} {ls : Nat → List Int} {p M : Nat} (h : OpP V T ls O p) (hM : ∀ c : Nat, 1 ≤ c → (c : Int) ≤ T.buckets → (ls c).length ≤ M) : p ≤ 2 * M + 11 := by
  obtain ⟨c, _, h1, h2, hph⟩ := h.ph
  have hl := hM c h1 h2
  have hst : stale ls c O ≤ M + 5 := by unfold stale; split <;> omega
  rcases hph with ⟨_, _, h⟩ | ⟨_, h⟩ | ⟨_, pre, s, e, _, h⟩ | ⟨_, _, h⟩ | ⟨_, _, h⟩ | ⟨_, _, h⟩ | ⟨_, _, _, h⟩ | ⟨_, _, h⟩ | ⟨_, _, h⟩ | ⟨_, h⟩
  · omega
  · split at h <;> omega
  · have : s.length ≤ (ls c).length := by rw [e, List.length_append]; omega
    split at h <;> omega
  all_goals omega
/-- Another operation behind a step. -/
theorem OpP.other {V V' : AV} {T T' : TV} {Oj Oj' O : OV} {ls ls' : Nat → List Int} {pj pj' p : Nat} (h : OpP V T ls O p) (hT : Tab V T ls) (hs : StepP V V' T T' ls ls' Oj Oj' pj pj') (hne : O.next ≠ 9 → 0 < O.node → 0 < Oj.node → O.node ≠ Oj.node) :
    ∃ p', OpP V' T' ls' O p' ∧ (ls' = ls → p' = p) := by
  obtain ⟨hnode, hpriv, c, hc, h1, h2, hph⟩ := h
  have hb := hs.table.2.1
  have hk : O.next ≠ 9 → 0 < O.node → ∀ y, V.find O.node = some [y] → V'.find O.node = some [y] := fun h9 hp y hy => hs.keep O.node (hT.block_ne hy) (hne h9 hp) y hy
  have hpv : O.next ≠ 9 → 0 < O.node → Priv V' T' ls' O.node := fun h9 hp => by
    have hq := (hpriv h9 hp).keep (T' := T') hb (hk h9 hp)
    rcases hs.lists.2 with rfl | ⟨d, d1, d2, hjn, _, rfl⟩
    · exact hq
    · refine ⟨hq.1, hq.2.1, fun e e1 e2 => ?_⟩
      unfold push
      split
      · rename_i he
        subst he
        intro hm
        rcases List.mem_cons.1 hm with hm | hm
        · exact hne h9 hp hjn hm
        · exact hq.2.2 e e1 e2 hm
      · exact hq.2.2 e e1 e2
  rcases hs.lists.2 with rfl | ⟨d, d1, d2, hjn, _, rfl⟩
  · refine ⟨p, ⟨hnode, hpv, c, hc, h1, by rw [hb]; exact h2, ?_⟩, fun _ => rfl⟩
    rcases hph with h | h | h | h | h | h | ⟨q1, q2, q3, q4⟩ | h | h | h
    · exact .inl h
    · exact .inr (.inl h)
    · exact .inr (.inr (.inl h))
    · exact .inr (.inr (.inr (.inl h)))
    · exact .inr (.inr (.inr (.inr (.inl h))))
    · exact .inr (.inr (.inr (.inr (.inr (.inl h)))))
    · exact .inr (.inr (.inr (.inr (.inr (.inr (.inl ⟨q1, q2, hk (by omega) q2 _ q3, q4⟩))))))
    · exact .inr (.inr (.inr (.inr (.inr (.inr (.inr (.inl h)))))))
    · exact .inr (.inr (.inr (.inr (.inr (.inr (.inr (.inr (.inl h))))))))
    · exact .inr (.inr (.inr (.inr (.inr (.inr (.inr (.inr (.inr h))))))))
  · have hne2 : ∀ e, push ls d Oj.node e = ls e → False ∨ True := fun _ _ => .inr trivial
    have mk : ∀ p', Ph V' (push ls d Oj.node) c O p' → ∃ p', OpP V' T' (push ls d Oj.node) O p' ∧ (push ls d Oj.node = ls → p' = p) := fun p' hp' =>
      ⟨p', ⟨hnode, hpv, c, hc, h1, by rw [hb]; exact h2, hp'⟩, fun e => by
        exfalso
        have := congrFun e d
        unfold push at this
        rw [if_pos rfl] at this
        have := congrArg List.length this
        simp at this⟩
    have hsuf : ∀ pre s, ls c = pre ++ s → ∃ pre', push ls d Oj.node c = pre' ++ s := fun pre s e => by
      unfold push
      split
      · rename_i he
        exact ⟨Oj.node :: pre, by rw [← he, e]; rfl⟩
      · exact ⟨pre, e⟩
    rcases hph with ⟨q1, q2, q3⟩ | ⟨q1, q3⟩ | ⟨q1, pre, s, e, q2, q3⟩ | ⟨q1, q2, q3⟩ | ⟨q1, q2, q3⟩ | ⟨q1, q2, q3⟩ | ⟨q1, q2, q3, q4⟩ | ⟨q1, q2, q3⟩ | ⟨q1, q2, q3⟩ | ⟨q1, q3⟩
    · exact mk _ (.inl ⟨q1, q2, rfl⟩)
    · exact mk _ (.inr (.inl ⟨q1, rfl⟩))
    · obtain ⟨pre', e'⟩ := hsuf pre s e
      exact mk _ (.inr (.inr (.inl ⟨q1, pre', s, e', q2, rfl⟩)))
    · exact mk _ (.inr (.inr (.inr (.inl ⟨q1, q2, rfl⟩))))
    · exact mk _ (.inr (.inr (.inr (.inr (.inl ⟨q1, q2, rfl⟩)))))
    · exact mk _ (.inr (.inr (.inr (.inr (.inr (.inl ⟨q1, q2, rfl⟩))))))
    · exact mk _ (.inr (.inr (.inr (.inr (.inr (.inr (.inl ⟨q1, q2, hk (by omega) q2 _ q3, rfl⟩)))))))
    · exact mk _ (.inr (.inr (.inr (.inr (.inr (.inr (.inr (.inl ⟨q1, q2, rfl⟩))))))))
    · exact mk _ (.inr (.inr (.inr (.inr (.inr (.inr (.inr (.inr (.inl ⟨q1, q2, rfl⟩)))))))))
    · exact mk _ (.inr (.inr (.inr (.inr (.inr (.inr (.inr (.inr (.inr ⟨q1, rfl⟩)))))))))
/-! ### how long the lists are -/
theorem totalN_ge (ls : Nat → List Int) : ∀ (nb c : Nat), 1 ≤ c → c ≤ nb → (ls c).length ≤ totalN ls nb
  | 0, c, h1, h2 => by omega
  | nb + 1, c, h1, h2 => by
    show _ ≤ totalN ls nb + (ls (nb + 1)).length
    by_cases he : c = nb + 1
    · subst he; omega
    · have := totalN_ge ls nb c h1 (by omega); omega
theorem totalN_push (ls : Nat → List Int) (d : Nat) (x : Int) : ∀ nb, totalN (push ls d x) nb ≤ totalN ls nb + 1 ∧ (nb < d → totalN (push ls d x) nb = totalN ls nb)
  | 0 => ⟨by simp [totalN], fun _ => rfl⟩
  | nb + 1 => by
    obtain ⟨h1, h2⟩ := totalN_push ls d x nb
    have e : (push ls d x (nb + 1)).length = (ls (nb + 1)).length + (if nb + 1 = d then 1 else 0) := by
      unfold push
      by_cases hd : nb + 1 = d
      · rw [if_pos hd, if_pos hd, ← hd]; simp
      · rw [if_neg hd, if_neg hd]; rfl
    show totalN (push ls d x) nb + (push ls d x (nb + 1)).length ≤ totalN ls nb + (ls (nb + 1)).length + 1 ∧ (nb + 1 < d → totalN (push ls d x) nb + (push ls d x (nb + 1)).length = totalN ls nb + (ls (nb + 1)).length)
    rw [e]
    by_cases hd : nb + 1 = d
    · rw [if_pos hd]
      have := h2 (by omega)
      exact ⟨by omega, fun h => by omega⟩
    · rw [if_neg hd]
      exact ⟨by omega, fun h => by have := h2 (by omega); omega⟩
/-- A step makes the lists longer by one block at most, and just where the operation is over. -/
theorem StepP.total {V V' : AV} {T T' : TV} {ls ls' : Nat → List Int} {O O' : OV} {p p' : Nat} (h : StepP V V' T T' ls ls' O O' p p') (nb : Nat) : totalN ls' nb ≤ totalN ls nb + 1 := by
  rcases h.lists.2 with rfl | ⟨d, _, _, _, _, rfl⟩
  · omega
  · exact (totalN_push ls d O.node nb).1
/-! ### one operation alone: from its beginning to its end -/
theorem begin_op {V : AV} {T : TV} {ls : Nat → List Int} (hT : Tab V T ls) (s : ByteArray) : ∃ p, OpP V T ls (OV.begin_ T s) p := by
  have hr := hashN_range hT.bk.1 s.data.toList
  have hb := hT.bk
  refine ⟨_, Int.le_refl _, fun _ h => absurd h (by show ¬ (0 : Int) < 0; omega), (1 + hashN T.buckets s.data.toList).toNat, ?_, ?_, ?_, .inl ⟨rfl, rfl, rfl⟩⟩
  · show 1 + hashN T.buckets s.data.toList = _; omega
  · omega
  · omega
theorem alloc_ok (hok : AV.Ok V) (n : Int) (hm : V.made < 1000000000000000) : True := trivial
end
end Go.Proofs.Ytkfinhakhhiabaa
