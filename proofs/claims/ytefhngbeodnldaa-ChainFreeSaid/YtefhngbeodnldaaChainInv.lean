/- Layer 5, plain: what whoever steps keeps true of the chains and of all operations under way. No program in sight. -/
import Derived.Test.YtefhngbeodnldaaChainBd
import Derived.Test.YtefhngbeodnldaaChainSd
set_option linter.unusedVariables false
set_option linter.unusedSimpArgs false
namespace Go.Proofs.Ytefhngbeodnldaa
open Go.RowKit Go.PM
/-- What a block is there for. -/
inductive Role where
  | none
  | base
  | chain (c : Nat)
  | fresh (t : Nat)
  | gone
/-- The block that an operation has found, and K, what it holds. -/
structure HeldAt (M : Nat) (N : Int) (V : AV) (Y : YV) (r : Int → Role) (O : CO) (K : List Int) : Prop where
  pos : 0 < O.old
  find : V.find O.old = some K
  role : r O.old = .chain (O.chain - 1).toNat ∨ r O.old = .gone
  lim : ∀ p ∈ Y.limbo, p.1 = O.old → Y.since O.t < p.2.2
  l1 : 1 ≤ K.length
  l2 : K.length ≤ M + 1
  s1 : 0 ≤ hd0 K
  s2 : hd0 K ≤ N
def Held (M : Nat) (N : Int) (V : AV) (Y : YV) (r : Int → Role) (O : CO) (K : List Int) : Prop := (O.old = 0 ∧ K = []) ∨ HeldAt M N V Y r O K
structure FreshAt (V : AV) (r : Int → Role) (t : Nat) (O : CO) (F : List Int) : Prop where
  pos : 0 < O.fresh
  role : r O.fresh = .fresh t
  find : V.find O.fresh = some F
  len : F.length = O.list.length
def aft (A : AskV) (l : List Int) : List Int := if A.kind = 3 then l.erase A.v else addL l A.v (decide (A.kind = 2))
structure ToBe (A : AskV) (O : CO) (K : List Int) : Prop where
  kind : A.kind ≤ 3
  found : O.found = K
  list : O.list = (hd0 K + 1) :: aft A (K.drop 1)
  has : A.kind = 3 → (K.drop 1).contains A.v = true
  few : A.kind ≠ 3 → (K.drop 1).length < 200
/-- What is so in each stage. -/
inductive Stg (M : Nat) (N : Int) (V : AV) (Y : YV) (r : Int → Role) (m : Nat) (t : Nat) (A : AskV) (want : AnsV) (O : CO) : Prop where
  | s0 (n : O.next = 0) (z : Y.since O.t = 0) (d : O.done = false) (f : O.fresh = 0)
  | s1 (n : O.next = 1) (d : O.done = false) (f : O.fresh = 0)
  | s2 (K : List Int) (n : O.next = 2) (d : O.done = decide (A.kind = 4)) (f : O.fresh = 0) (h : HeldAt M N V Y r O K) (fd : O.found = []) (al : A.kind = 4 → want = ⟨0, true, hd0 K, K.drop 1⟩)
  | s3 (K : List Int) (n : O.next = 3) (d : O.done = decide (A.kind = 4)) (f : O.fresh = 0) (h : HeldAt M N V Y r O K) (fd : O.found = K.take O.found.length) (lt : O.found.length < K.length) (ct : O.count = K.length) (al : A.kind = 4 → want = ⟨0, true, hd0 K, K.drop 1⟩)
  | s4 (K : List Int) (n : O.next = 4) (d : O.done = false) (f : O.fresh = 0) (h : Held M N V Y r O K) (fd : O.found = K) (kd : A.kind = 3) (no : (K.drop 1).contains A.v = false)
  | s5 (K : List Int) (n : O.next = 5) (d : O.done = false) (f : O.fresh = 0) (h : Held M N V Y r O K) (tb : ToBe A O K)
  | s6 (K F : List Int) (c : Nat) (n : O.next = 6) (d : O.done = false) (h : Held M N V Y r O K) (tb : ToBe A O K) (fr : FreshAt V r t O F) (ct : O.count = (c : Int)) (cl : c < O.list.length) (tk : F.take c = O.list.take c)
  | s7 (K : List Int) (n : O.next = 7) (d : O.done = false) (h : Held M N V Y r O K) (tb : ToBe A O K) (fr : FreshAt V r t O O.list)
  | s8 (F : List Int) (n : O.next = 8) (d : O.done = false) (fr : FreshAt V r t O F) (er : O.err = 0)
  | s9 (K : List Int) (n : O.next = 9) (d : O.done = true) (f : O.fresh = 0) (h : HeldAt M N V Y r O K) (g : r O.old = .gone) (an : want = ⟨O.err, O.ok, O.stamp, O.values⟩)
  | s10 (n : O.next = 10) (f : O.fresh = 0) (an : O.done = true → want = ⟨O.err, O.ok, O.stamp, O.values⟩) (no : O.done = false → O.ok = false ∧ O.stamp = 0 ∧ O.values = [] ∧ ((O.err = 3 ∧ A.kind < 3) ∨ ((O.err = 43 ∨ O.err = 21) ∧ A.kind < 4)))
/-- An operation under way. -/
structure OpI (M : Nat) (N : Int) (V : AV) (Y : YV) (r : Int → Role) (m : Nat) (t : Nat) (A : AskV) (did : Bool) (want : AnsV) (O : CO) : Prop where
  tt : O.t = (t : Int)
  kind : 1 ≤ A.kind ∧ A.kind ≤ 4
  ch : O.chain = A.chain
  what : (A.kind = 1 → O.what = 0) ∧ (A.kind = 2 → O.what = 1) ∧ (A.kind = 3 → O.what = 2) ∧ (A.kind = 4 → O.what = 3)
  val : A.kind ≤ 3 → O.value = A.v
  did : did = O.done
  ins : O.next ≠ 0 → 0 < Y.since O.t ∧ 1 ≤ O.chain ∧ O.chain ≤ (m : Int)
  fl : O.found.length ≤ 299
  ll : O.list.length ≤ 1000
  vl : O.values.length ≤ 1000
  st : Stg M N V Y r m t A want O
def ChainOk (M : Nat) (N : Int) (V : AV) (r : Int → Role) (k : Int) (p : List Int × Int) (c : Nat) : Prop :=
  (k = 0 ∧ p = ([], 0)) ∨ (0 < k ∧ V.find k = some (p.2 :: p.1) ∧ r k = .chain c ∧ p.1.length ≤ M ∧ 0 ≤ p.2 ∧ p.2 ≤ N)
structure GI (M : Nat) (N : Int) (r : Int → Role) (ks : List Int) (L : LV) : Prop where
  m200 : M ≤ 200
  bd : Bd N L.Y L.V
  bound : L.Y.bound ≤ 64
  f0 : L.V.faults = 0
  ent : L.Y.ent.length = 9
  lim : ∀ p ∈ L.Y.limbo, r p.1 = .gone ∧ p.2.2 ≤ L.Y.now
  snow : ∀ t : Nat, t < 9 → 0 ≤ L.Y.since t ∧ L.Y.since t ≤ L.Y.now
  blk : L.V.find L.B.block = some ks
  blkr : r L.B.block = .base
  len : ks.length = L.m.length
  chs : L.B.chains = (L.m.length : Nat)
  m64 : 1 ≤ L.m.length ∧ L.m.length ≤ 64
  ch : ∀ c, c < L.m.length → ChainOk M N L.V r (ks.getD c 0) (L.m.getD c ([], 0)) c
  op : ∀ t O, t < 9 → L.op t = some O → 1 ≤ t ∧ OpI M N L.V L.Y r L.m.length t (L.what t) (L.did t) (L.want t) O
  idle : ∀ t : Nat, t < 9 → L.op t = none → L.Y.since t = 0
/-- What thread t2's operation sees of a step of another one. -/
structure Env (t2 : Nat) (V : AV) (Y : YV) (r : Int → Role) (V' : AV) (Y' : YV) (r' : Int → Role) : Prop where
  since : Y'.since t2 = Y.since t2
  fresh : ∀ b F, V.find b = some F → r b = .fresh t2 → r' b = .fresh t2 ∧ V'.find b = some F
  chain : ∀ b K c, V.find b = some K → r b = .chain c → r' b = .chain c ∨ r' b = .gone
  gone : ∀ b K, V.find b = some K → r b = .gone → r' b = .gone
  held : ∀ b K, V.find b = some K → ((∃ c, r b = .chain c) ∨ r b = .gone) → 0 < Y.since t2 → (∀ p ∈ Y.limbo, p.1 = b → Y.since t2 < p.2.2) → V'.find b = some K ∧ ∀ p ∈ Y'.limbo, p.1 = b → Y'.since t2 < p.2.2
section
variable {M m : Nat} {N N' : Int} {V V' : AV} {Y Y' : YV} {r r' : Int → Role} {t t2 : Nat} {A : AskV} {did : Bool} {want : AnsV} {O O' : CO} {K F : List Int}
theorem Env.refl : Env t V Y r V Y r := ⟨rfl, fun _ _ h k => ⟨k, h⟩, fun _ _ _ _ k => .inl k, fun _ _ _ k => k, fun _ _ h _ _ k => ⟨h, k⟩⟩
theorem HeldAt.move (h : HeldAt M N V Y r O K) (e : Env t V Y r V' Y' r') (ht : O.t = (t : Int)) (hs : 0 < Y.since O.t) (hN : N ≤ N') : HeldAt M N' V' Y' r' O K := by
  rw [ht] at hs
  obtain ⟨h1, h2⟩ := e.held O.old K h.find (h.role.imp (fun h => ⟨_, h⟩) id) hs (by have := h.lim; rw [ht] at this; exact this)
  refine ⟨h.pos, h1, ?_, by rw [ht]; exact h2, h.l1, h.l2, h.s1, Int.le_trans h.s2 hN⟩
  rcases h.role with h3 | h3
  · exact e.chain _ _ _ h.find h3
  · exact .inr (e.gone _ _ h.find h3)
theorem Held.move (h : Held M N V Y r O K) (e : Env t V Y r V' Y' r') (ht : O.t = (t : Int)) (hs : 0 < Y.since O.t) (hN : N ≤ N') : Held M N' V' Y' r' O K := h.imp id (fun h => h.move e ht hs hN)
theorem FreshAt.move (h : FreshAt V r t O F) (e : Env t V Y r V' Y' r') : FreshAt V' r' t O F := by
  obtain ⟨h1, h2⟩ := e.fresh _ _ h.find h.role
  exact ⟨h.pos, h1, h2, h.len⟩
theorem OpI.move (h : OpI M N V Y r m t A did want O) (e : Env t V Y r V' Y' r') (hN : N ≤ N') : OpI M N' V' Y' r' m t A did want O := by
  obtain ⟨h1, h2, h3, h4, h5, h6, h7, h8, h9, hv, h10⟩ := h
  have hs : Y'.since O.t = Y.since O.t := by rw [h1]; exact e.since
  refine ⟨h1, h2, h3, h4, h5, h6, fun hn => by rw [hs]; exact h7 hn, h8, h9, hv, ?_⟩
  cases h10 with
  | s0 n z d f => exact .s0 n (by rw [hs]; exact z) d f
  | s1 n d f => exact .s1 n d f
  | s2 K n d f h fd al => exact .s2 K n d f (h.move e h1 (h7 (by omega)).1 hN) fd al
  | s3 K n d f h fd lt ct al => exact .s3 K n d f (h.move e h1 (h7 (by omega)).1 hN) fd lt ct al
  | s4 K n d f h fd kd no => exact .s4 K n d f (h.move e h1 (h7 (by omega)).1 hN) fd kd no
  | s5 K n d f h tb => exact .s5 K n d f (h.move e h1 (h7 (by omega)).1 hN) tb
  | s6 K F c n d h tb fr ct cl tk => exact .s6 K F c n d (h.move e h1 (h7 (by omega)).1 hN) tb (fr.move e) ct cl tk
  | s7 K n d h tb fr => exact .s7 K n d (h.move e h1 (h7 (by omega)).1 hN) tb (fr.move e)
  | s8 F n d fr er => exact .s8 F n d (fr.move e) er
  | s9 K n d f h g an => exact .s9 K n d f (h.move e h1 (h7 (by omega)).1 hN) (e.gone _ _ h.find g) an
  | s10 n f an no => exact .s10 n f an no
theorem ChainOk.mono {k : Int} {p : List Int × Int} {c : Nat} (h : ChainOk M N V r k p c) (hN : N ≤ N') (hf : ∀ K, 0 < k → V.find k = some K → r k = .chain c → V'.find k = some K ∧ r' k = .chain c) : ChainOk M N' V' r' k p c := by
  rcases h with h | ⟨h1, h2, h3, h4, h5, h6⟩
  · exact .inl h
  · obtain ⟨h7, h8⟩ := hf _ h1 h2 h3
    exact .inr ⟨h1, h7, h8, h4, h5, Int.le_trans h6 hN⟩
end
theorem upd_upd {α : Type} (f : Nat → α) (t : Nat) (x y : α) : upd (upd f t x) t y = upd f t y := by
  funext i
  unfold upd
  split <;> rfl
theorem upd_id {α : Type} (f : Nat → α) (t : Nat) : upd f t (f t) = f := by
  funext i
  unfold upd
  split
  · rename_i h; rw [h]
  · rfl
/-- A step's end. -/
theorem GI.put {M : Nat} {N N' : Int} {r r' : Int → Role} {ks ks' : List Int} {L : LV} {t : Nat} (h : GI M N r ks L) (hN : N ≤ N') (ht : t < 9) {V' : AV} {Y' : YV} {m' : RB} {o' : Option CO} {did' : Nat → Bool} {want' : Nat → AnsV}
    (bd : Bd N' Y' V') (hb : Y'.bound = L.Y.bound) (f0 : V'.faults = 0) (ent : Y'.ent.length = 9) (lim : ∀ p ∈ Y'.limbo, r' p.1 = .gone ∧ p.2.2 ≤ Y'.now) (snow : ∀ t : Nat, t < 9 → 0 ≤ Y'.since t ∧ Y'.since t ≤ Y'.now)
    (blk : V'.find L.B.block = some ks') (blkr : r' L.B.block = .base) (len : ks'.length = m'.length) (ml : m'.length = L.m.length) (ch : ∀ c, c < L.m.length → ChainOk M N' V' r' (ks'.getD c 0) (m'.getD c ([], 0)) c)
    (env : ∀ t2, t2 ≠ t → Env t2 L.V L.Y r V' Y' r') (hd : ∀ t2, t2 ≠ t → did' t2 = L.did t2) (hw : ∀ t2, t2 ≠ t → want' t2 = L.want t2) (t1 : 1 ≤ t)
    (own : ∀ O', o' = some O' → OpI M N' V' Y' r' L.m.length t (L.what t) (did' t) (want' t) O') (idle : o' = none → Y'.since t = 0) :
    GI M N' r' ks' { L with V := V', Y := Y', m := m', op := upd L.op t o', did := did', want := want' } := by
  refine ⟨h.m200, bd, by rw [hb]; exact h.bound, f0, ent, lim, snow, blk, blkr, len, by rw [h.chs, ml], by rw [ml]; exact h.m64, by rw [ml]; exact ch, fun i Oi hi ho => ?_, fun i hi ho => ?_⟩
  · by_cases hit : i = t
    · subst hit
      have ho : upd L.op i o' i = some Oi := ho
      rw [upd_same] at ho
      exact ⟨t1, by rw [ml]; exact own Oi ho⟩
    · have ho : upd L.op t o' i = some Oi := ho
      rw [upd_ne _ _ hit] at ho
      obtain ⟨h1, h2⟩ := h.op i Oi hi ho
      refine ⟨h1, ?_⟩
      have h3 := h2.move (env i hit) hN
      rw [← ml, ← hd i hit, ← hw i hit] at h3
      exact h3
  · by_cases hit : i = t
    · subst hit
      have ho : upd L.op i o' i = none := ho
      rw [upd_same] at ho
      exact idle ho
    · have ho : upd L.op t o' i = none := ho
      rw [upd_ne _ _ hit] at ho
      rw [(env i hit).since]
      exact h.idle i hi ho
end Go.Proofs.Ytefhngbeodnldaa
