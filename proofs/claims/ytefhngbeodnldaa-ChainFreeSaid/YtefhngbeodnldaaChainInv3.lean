/- Layer 5, plain: one step, stage by stage. No program in sight. -/
import Derived.Test.YtefhngbeodnldaaChainInv2
set_option linter.unusedVariables false
set_option linter.unusedSimpArgs false
namespace Go.Proofs.Ytefhngbeodnldaa
open Go.RowKit Go.PM
section
variable {L : LV} {t : Nat} {O : CO}
theorem LV.step_q {V' : AV} {Y' : YV} {O' : CO} (eV : stV L.V L.Y L.B O = V') (eY : stY L.V L.Y L.B O = Y') (eO : stO L.V L.Y L.B O = O') (hd : ¬ (O.done = false ∧ O'.done = true)) (hn : O'.next ≠ 11) :
    L.step t O = { L with V := V', Y := Y', op := upd L.op t (some O') } := by
  unfold LV.step LV.mid LV.run
  rw [eV, eY, eO, if_neg hn, if_neg hd]
theorem LV.step_e {V' : AV} {Y' : YV} {O' : CO} (eV : stV L.V L.Y L.B O = V') (eY : stY L.V L.Y L.B O = Y') (eO : stO L.V L.Y L.B O = O') (hd : O.done = false ∧ O'.done = true) (hn : O'.next ≠ 11) :
    L.step t O = { L with V := V', Y := Y', m := effM L.m (L.what t), op := upd L.op t (some O'), did := upd L.did t true, want := upd L.want t (effA L.m (L.what t)) } := by
  unfold LV.step LV.mid LV.eff LV.run
  rw [eV, eY, eO, if_neg hn, if_pos hd]
theorem LV.step_o {V' : AV} {Y' : YV} {O' : CO} (eV : stV L.V L.Y L.B O = V') (eY : stY L.V L.Y L.B O = Y') (eO : stO L.V L.Y L.B O = O') (hd : ¬ (O.done = false ∧ O'.done = true)) (hn : O'.next = 11) :
    L.step t O = { L with V := V', Y := Y', op := upd L.op t none } := by
  unfold LV.step LV.mid LV.run
  rw [eV, eY, eO, if_pos hn, if_neg hd]
theorem LV.mid_q {O' : CO} (eO : stO L.V L.Y L.B O = O') (hd : ¬ (O.done = false ∧ O'.done = true)) : L.mid t O = L.run t O := by
  unfold LV.mid
  rw [eO, if_neg hd]
end
section
variable {M : Nat} {N : Int} {r : Int → Role} {ks : List Int} {L : LV} {t : Nat} {O : CO}
theorem hd0_next (K fd : List Int) (h : fd = K.take fd.length) (lt : fd.length < K.length) : hd0 (fd ++ [K[fd.length]]) = hd0 K := by
  cases K with
  | nil => simp at lt
  | cons y k =>
    cases fd with
    | nil => rfl
    | cons x l =>
      simp only [List.length_cons, List.take_succ_cons, List.cons.injEq] at h
      exact h.1
theorem GI.mb (h : GI M N r ks L) (hN : N ≤ 1000000000000000) : ∀ p ∈ L.m, p.1.length ≤ 900 ∧ 0 ≤ p.2 ∧ p.2 ≤ 1000000000000000 := by
  intro p hp
  obtain ⟨c, hc, he⟩ := List.getElem_of_mem hp
  have h1 := h.ch c hc
  have h2 : L.m.getD c ([], 0) = p := by rw [List.getD_eq_getElem?_getD, List.getElem?_eq_getElem hc, he]; rfl
  rw [h2] at h1
  have := h.m200
  rcases h1 with ⟨_, h1⟩ | ⟨_, _, _, h1, h3, h4⟩
  · rw [h1]; simp
  · omega
theorem GI.sok (h : GI M N r ks L) (hN : N ≤ 1000000000000000) {O' : CO} (hk : StOk L.V L.Y L.B O) (was : O.done = true → O'.done = true) (vl : O'.values.length ≤ 1000) (hn : O'.next ≠ 11) : StepOk L t O O' :=
  ⟨hk, was, h.mb hN, vl, fun h => absurd h hn, fun h => absurd h hn⟩
theorem GI.stok (h : GI M N r ks L) (hN : N < 100000000000000) (ht : t < 9) (ho : L.op t = some O) : StOk L.V L.Y L.B O := by
  obtain ⟨t1, hp⟩ := h.op t O ht ho
  have hb := h.bd
  have hfew := hb.few h.bound
  have hm := hb.made
  have hw := hb.now
  have hm2 := h.m64
  have hf := h.f0
  have hst := hp.st
  have n0 : 0 ≤ O.next := by cases hst <;> omega
  have n10 : O.next ≤ 10 := by cases hst <;> omega
  refine ⟨by omega, by omega, by omega, by omega, by omega, n0, n10, fun hn => ?_, hp.fl, hp.ll, fun hn => ?_, fun hn => ?_, fun hn => ?_⟩
  · have := (hp.ins hn).2
    omega
  · cases hst with
    | s6 K F c n d h tb fr ct cl tk => omega
    | _ => omega
  · cases hst with
    | s7 K n d h tb fr => rw [tb.list]; simp
    | _ => omega
  · cases hst with
    | s3 K n d f h fd lt ct al =>
      have h1 := h.s1
      have h2 := h.s2
      have : (readO L.V O).st = hd0 K := by
        unfold CO.st readO
        simp only []
        rw [AV.val_hit h.find lt]
        exact hd0_next K O.found fd lt
      rw [this]
      omega
    | _ => omega
/-- What the chain's cell tells. -/
theorem GI.cell (h : GI M N r ks L) {c : Nat} (hc : c < L.m.length) {x : Int} (hx : x = (c : Int) + 1) : L.V.val L.B.block (x - 1) = ks.getD c 0 := by
  have hl := h.len
  have e : x - 1 = (c : Int) := by omega
  rw [e, AV.val_hit h.blk (j := c) (by omega), List.getD_eq_getElem?_getD, List.getElem?_eq_getElem (by omega)]
  rfl
theorem GI.cellok (h : GI M N r ks L) {c : Nat} (hc : c < L.m.length) {x : Int} (hx : x = (c : Int) + 1) : L.V.err L.B.block (x - 1) = 0 := by
  have hl := h.len
  exact AV.err_hit h.blk (by omega)
theorem chain_nat {x : Int} {m : Nat} (h : 1 ≤ x ∧ x ≤ (m : Int)) : ∃ c : Nat, c < m ∧ x = (c : Int) + 1 ∧ (x - 1).toNat = c := ⟨(x - 1).toNat, by omega, by omega, rfl⟩
/-- Who has found the block that the chain has knows the chain. -/
theorem seen {V : AV} {Y : YV} {K : List Int} {k : Int} {p : List Int × Int} {c : Nat} (h : ChainOk M N V r k p c) (hK : Held M N V Y r O K) (he : k = O.old) : p = (K.drop 1, hd0 K) := by
  rcases h with ⟨h1, h2⟩ | ⟨h1, h2, h3, h4, h5, h6⟩
  · rcases hK with ⟨h7, h8⟩ | h7
    · rw [h2, h8]; rfl
    · have := h7.pos; omega
  · rcases hK with ⟨h7, h8⟩ | h7
    · omega
    · have := h7.find
      rw [← he, h2] at this
      cases this
      rfl
theorem eff_at {m : RB} {A : AskV} {c : Nat} (hc : c < m.length) (ha : A.chain = (c : Int) + 1) : inM m A ∧ mAt m A = m.getD c ([], 0) ∧ (A.chain - 1).toNat = c := by
  have e : (A.chain - 1).toNat = c := by omega
  refine ⟨⟨by omega, by omega⟩, ?_, e⟩
  unfold mAt
  rw [e]
theorem eff_all {m : RB} {A : AskV} {c : Nat} (hc : c < m.length) (ha : A.chain = (c : Int) + 1) (hk : A.kind = 4) : effM m A = m ∧ effA m A = ⟨0, true, (m.getD c ([], 0)).2, (m.getD c ([], 0)).1⟩ := by
  obtain ⟨h1, h2, h3⟩ := eff_at hc ha
  constructor
  · unfold effM; rw [if_pos h1, if_neg (by omega), if_neg (by omega)]
  · unfold effA; rw [if_pos h1, if_neg (by omega), if_neg (by omega), h2]
theorem eff_no {m : RB} {A : AskV} {c : Nat} (hc : c < m.length) (ha : A.chain = (c : Int) + 1) (hk : A.kind = 3) (hn : (m.getD c ([], 0)).1.contains A.v = false) : effM m A = m ∧ effA m A = ⟨0, false, (m.getD c ([], 0)).2, []⟩ := by
  obtain ⟨h1, h2, h3⟩ := eff_at hc ha
  constructor
  · unfold effM; rw [if_pos h1, if_neg (by omega), if_pos hk, h2, hn, if_neg (by decide)]
  · unfold effA; rw [if_pos h1, if_neg (by omega), if_pos hk, h2, hn, if_neg (by decide)]
theorem eff_set {m : RB} {A : AskV} {c : Nat} (hc : c < m.length) (ha : A.chain = (c : Int) + 1) (hk : 1 ≤ A.kind ∧ A.kind ≤ 3) (hh : A.kind = 3 → (m.getD c ([], 0)).1.contains A.v = true) :
    effM m A = m.set c (aft A (m.getD c ([], 0)).1, (m.getD c ([], 0)).2 + 1) ∧ effA m A = ⟨0, true, (m.getD c ([], 0)).2 + 1, []⟩ := by
  obtain ⟨h1, h2, h3⟩ := eff_at hc ha
  by_cases k3 : A.kind = 3
  · constructor
    · unfold effM aft; rw [if_pos h1, if_neg (by omega), if_pos k3, h2, hh k3, if_pos rfl, h3, if_pos k3]
    · unfold effA; rw [if_pos h1, if_neg (by omega), if_pos k3, h2, hh k3, if_pos rfl]
  · constructor
    · unfold effM aft; rw [if_pos h1, if_pos (by omega), h2, h3, if_neg k3]
    · unfold effA; rw [if_pos h1, if_pos (by omega), h2]
/-- The step changes but the operation. -/
theorem GI.quiet (h : GI M N r ks L) (ht : t < 9) (ho : L.op t = some O) {O' : CO} (own : OpI M (N + 1) L.V L.Y r L.m.length t (L.what t) (L.did t) (L.want t) O') : GI M (N + 1) r ks { L with V := L.V, Y := L.Y, op := upd L.op t (some O') } :=
  h.put (by omega) ht (h.bd.mono (by omega)) rfl h.f0 h.ent h.lim h.snow h.blk h.blkr h.len rfl (fun c hc => (h.ch c hc).mono (by omega) fun K _ h1 h2 => ⟨h1, h2⟩) (fun _ _ => Env.refl) (fun _ _ => rfl) (fun _ _ => rfl) (h.op t O ht ho).1
    (fun O2 h2 => by cases h2; exact own) (fun h => by cases h)
def StepsTo (M : Nat) (N : Int) (L : LV) (t : Nat) (O : CO) : Prop := StepOk L t O (stO L.V L.Y L.B O) ∧ ∃ r' ks', GI M (N + 1) r' ks' (L.step t O)
theorem GI.quiet_step (h : GI M N r ks L) (hN : N < 100000000000000) (ht : t < 9) (ho : L.op t = some O) {O' : CO} (eV : stV L.V L.Y L.B O = L.V) (eY : stY L.V L.Y L.B O = L.Y) (eO : stO L.V L.Y L.B O = O') (hd : O'.done = O.done) (hn : O'.next ≠ 11)
    (own : OpI M (N + 1) L.V L.Y r L.m.length t (L.what t) (L.did t) (L.want t) O') : StepsTo M N L t O := by
  have hq : ¬ (O.done = false ∧ O'.done = true) := by rw [hd]; intro h; rw [h.1] at h; exact absurd h.2 (by decide)
  refine ⟨by rw [eO]; exact h.sok (by omega) (h.stok hN ht ho) (fun h => by rw [hd]; exact h) own.vl hn, r, ks, ?_⟩
  rw [LV.step_q eV eY eO hq hn]
  exact h.quiet ht ho own
/-- Reading the size. -/
theorem GI.step2 (h : GI M N r ks L) (hN : N < 100000000000000) (ht : t < 9) (ho : L.op t = some O) (n : O.next = 2) : StepsTo M N L t O := by
  obtain ⟨t1, hp⟩ := h.op t O ht ho
  obtain ⟨a1, a2, a3, a4, a5, a6, a7, a8, a9, av, st⟩ := hp
  cases st with
  | s2 K n2 d f hh fd al =>
    have hsz : L.V.size O.old = K.length := by unfold AV.size; rw [hh.find]
    have eV : stV L.V L.Y L.B O = L.V := by simp [stV, n, AV.touch_hit hh.find]
    have eY : stY L.V L.Y L.B O = L.Y := by simp [stY, n]
    have eO : stO L.V L.Y L.B O = sizeO L.V O := by simp [stO, n]
    refine h.quiet_step hN ht ho eV eY eO rfl (by show (3 : Int) ≠ 11; decide) ⟨a1, a2, a3, a4, a5, a6, fun _ => a7 (by omega), a8, a9, av, ?_⟩
    refine .s3 K rfl d f ((hh.mono (by omega)).as rfl rfl rfl) ?_ ?_ hsz al
    · show O.found = K.take O.found.length
      rw [fd]; rfl
    · show O.found.length < K.length
      rw [fd]; exact hh.l1
  | _ => omega
/-- A cell is written. -/
theorem GI.env_own (h : GI M N r ks L) {V' : AV} (hf : ∀ b, r b ≠ .fresh t → V'.find b = L.V.find b) {t2 : Nat} (h2 : t2 ≠ t) : Env t2 L.V L.Y r V' L.Y r :=
  ⟨rfl, fun b F h1 h3 => ⟨h3, by rw [hf b (by rw [h3]; intro h; injection h with h; exact h2 h)]; exact h1⟩, fun _ _ _ _ k => .inl k, fun _ _ _ k => k,
    fun b K h1 h3 h4 h5 => ⟨by rw [hf b (by rcases h3 with ⟨c, h3⟩ | h3 <;> (rw [h3]; intro h; cases h))]; exact h1, h5⟩⟩
/-- But the arena is turned, at a block of the thread's own. -/
theorem GI.own_step (h : GI M N r ks L) (hN : N < 100000000000000) (ht : t < 9) (ho : L.op t = some O) {O' : CO} {V' : AV} (eV : stV L.V L.Y L.B O = V') (eY : stY L.V L.Y L.B O = L.Y) (eO : stO L.V L.Y L.B O = O') (hd : O'.done = O.done) (hn : O'.next ≠ 11)
    (hf : ∀ b, r b ≠ .fresh t → V'.find b = L.V.find b) (hx : V'.faults = L.V.faults) (hm : V'.made = L.V.made) 
    (own : OpI M (N + 1) V' L.Y r L.m.length t (L.what t) (L.did t) (L.want t) O') : StepsTo M N L t O := by
  have hq : ¬ (O.done = false ∧ O'.done = true) := by rw [hd]; intro h; rw [h.1] at h; exact absurd h.2 (by decide)
  refine ⟨by rw [eO]; exact h.sok (by omega) (h.stok hN ht ho) (fun h => by rw [hd]; exact h) own.vl hn, r, ks, ?_⟩
  rw [LV.step_q eV eY eO hq hn]
  have hb := h.bd.mono (show N ≤ N + 1 by omega)
  refine h.put (by omega) ht ⟨fun p hp => ?_, hb.nodup, hb.rng, hb.cnt, hb.len, hb.zero, by rw [hx]; exact hb.faults, by rw [hm]; exact hb.made, hb.now⟩ rfl (by rw [hx]; exact h.f0) h.ent h.lim h.snow (by rw [hf _ (by rw [h.blkr]; intro h; cases h)]; exact h.blk) h.blkr h.len rfl
    (fun c hc => (h.ch c hc).mono (by omega) fun K _ h1 h2 => ⟨by rw [hf _ (by rw [h2]; intro h; cases h)]; exact h1, h2⟩) (fun t2 h2 => h.env_own hf h2) (fun _ _ => rfl) (fun _ _ => rfl) (h.op t O ht ho).1 (fun O2 h2 => by cases h2; exact own) (fun h => by cases h)
  obtain ⟨xs, hx⟩ := hb.live p hp
  exact ⟨xs, by rw [hf _ (by rw [(h.lim p hp).1]; intro h; cases h)]; exact hx⟩
theorem take_set_succ (F l : List Int) (c : Nat) (hc : c < F.length) (hcl : c < l.length) (h : F.take c = l.take c) : (F.set c (l.getD c 0)).take (c + 1) = l.take (c + 1) := by
  rw [List.take_succ_eq_append_getElem (by rw [List.length_set]; exact hc), List.take_succ_eq_append_getElem hcl, List.getElem_set_self, List.take_set_of_le (Nat.le_refl _), h, List.getD_eq_getElem?_getD, List.getElem?_eq_getElem hcl]
  rfl
theorem GI.step6 (h : GI M N r ks L) (hN : N < 100000000000000) (ht : t < 9) (ho : L.op t = some O) (n : O.next = 6) : StepsTo M N L t O := by
  obtain ⟨t1, hp⟩ := h.op t O ht ho
  obtain ⟨a1, a2, a3, a4, a5, a6, a7, a8, a9, av, st⟩ := hp
  cases st with
  | s6 K F c n2 d hh tb fr ct cl tk =>
    have hcF : c < F.length := by rw [fr.len]; exact cl
    have eV : stV L.V L.Y L.B O = L.V.set O.fresh c (O.list.getD c 0) := by
      simp only [stV, n, ct, Int.toNat_natCast]
      unfold AV.store
      rw [AV.err_hit fr.find (by omega)]
      rfl
    have eY : stY L.V L.Y L.B O = L.Y := by simp [stY, n]
    have eO : stO L.V L.Y L.B O = wrtO O := by simp [stO, n]
    have hnx : (wrtO O).next = if c + 1 = O.list.length then 7 else 6 := by
      unfold wrtO
      simp only [ct]
      by_cases h : c + 1 = O.list.length
      · rw [if_pos h, if_pos (by omega)]
      · rw [if_neg h, if_neg (by omega)]
    have hf : ∀ b, r b ≠ .fresh t → (L.V.set O.fresh c (O.list.getD c 0)).find b = L.V.find b := fun b hb => by
      rw [find_set, if_neg (fun e => hb (by rw [e]; exact fr.role))]
    have hfr : (L.V.set O.fresh c (O.list.getD c 0)).find O.fresh = some (F.set c (O.list.getD c 0)) := by
      rw [find_set, if_pos rfl, fr.find, Int.toNat_natCast]; rfl
    have htk := take_set_succ F O.list c hcF cl tk
    have hHeld : Held M (N + 1) (L.V.set O.fresh c (O.list.getD c 0)) L.Y r O K := by
      rcases hh with hh | hh
      · exact .inl hh
      · have : HeldAt M (N + 1) L.V L.Y r O K := hh.mono (by omega)
        exact .inr ⟨this.pos, by rw [hf _ (by rcases this.role with h | h <;> (rw [h]; intro h; cases h))]; exact this.find, this.role, this.lim, this.l1, this.l2, this.s1, this.s2⟩
    refine h.own_step hN ht ho eV eY eO rfl (by rw [hnx]; split <;> decide) hf rfl rfl ⟨a1, a2, a3, a4, a5, a6, fun _ => a7 (by omega), a8, a9, av, ?_⟩
    by_cases hl : c + 1 = O.list.length
    · rw [if_pos hl] at hnx
      refine .s7 K hnx d (hHeld.as rfl rfl rfl) ⟨tb.kind, tb.found, tb.list, tb.has, tb.few⟩ ⟨fr.pos, fr.role, ?_, rfl⟩
      show (L.V.set O.fresh c (O.list.getD c 0)).find O.fresh = some O.list
      rw [hfr]
      congr 1
      have h1 : (F.set c (O.list.getD c 0)).take (c + 1) = F.set c (O.list.getD c 0) := List.take_of_length_le (by rw [List.length_set, fr.len]; omega)
      have h2 : O.list.take (c + 1) = O.list := List.take_of_length_le (by omega)
      rw [← h1, htk, h2]
    · rw [if_neg hl] at hnx
      refine .s6 K (F.set c (O.list.getD c 0)) (c + 1) hnx d (hHeld.as rfl rfl rfl) ⟨tb.kind, tb.found, tb.list, tb.has, tb.few⟩ ⟨fr.pos, fr.role, hfr, by rw [List.length_set]; exact fr.len⟩ ?_ ?_ htk
      · show O.count + 1 = ((c + 1 : Nat) : Int)
        omega
      · show c + 1 < O.list.length
        omega
  | _ => omega
/-- A block in vain is freed. -/
theorem GI.step8 (h : GI M N r ks L) (hN : N < 100000000000000) (ht : t < 9) (ho : L.op t = some O) (n : O.next = 8) : StepsTo M N L t O := by
  obtain ⟨t1, hp⟩ := h.op t O ht ho
  obtain ⟨a1, a2, a3, a4, a5, a6, a7, a8, a9, av, st⟩ := hp
  cases st with
  | s8 F n2 d fr er =>
    have eV : stV L.V L.Y L.B O = L.V.free O.fresh := by simp [stV, n]
    have eY : stY L.V L.Y L.B O = L.Y := by simp [stY, n]
    have eO : stO L.V L.Y L.B O = undO O := by simp [stO, n]
    have hnx : (undO O).next = 1 := by unfold undO; rw [er]; rfl
    have hf : ∀ b, r b ≠ .fresh t → (L.V.free O.fresh).find b = L.V.find b := fun b hb => find_free_ne L.V (fun e => hb (by rw [e]; exact fr.role))
    exact h.own_step hN ht ho eV eY eO rfl (by rw [hnx]; decide) hf (free_faults fr.find) (free_made _ _) ⟨a1, a2, a3, a4, a5, a6, fun _ => a7 (by omega), a8, a9, av, .s1 hnx d rfl⟩
  | _ => omega
end
end Go.Proofs.Ytefhngbeodnldaa
