/- Layer 5, plain: the steps that enter, check, build, swap, retire and leave; every step. No program in sight. -/
import Derived.Test.YtefhngbeodnldaaChainInv4
set_option linter.unusedVariables false
set_option linter.unusedSimpArgs false
namespace Go.Proofs.Ytefhngbeodnldaa
open Go.RowKit Go.PM
theorem since_set_ne (Y : YV) {t t2 : Nat} (n x : Int) (h : t2 ≠ t) : ({ Y with now := n, ent := Y.ent.set t x } : YV).since (t2 : Int) = Y.since (t2 : Int) := by
  rw [since_nat, since_nat]
  exact getD_set_ne _ _ _ (Ne.symm h)
theorem since_set_same (Y : YV) {t : Nat} (n x : Int) (h : t < Y.ent.length) : ({ Y with now := n, ent := Y.ent.set t x } : YV).since (t : Int) = x := by
  rw [since_nat]
  exact getD_set_same _ _ _ h
section
variable {M : Nat} {N : Int} {r : Int → Role} {ks : List Int} {L : LV} {t : Nat} {O : CO}
theorem GI.now0 (h : GI M N r ks L) : 0 ≤ L.Y.now := by have := h.snow 0 (by omega); omega
theorem GI.since_le (h : GI M N r ks L) (t2 : Nat) : L.Y.since (t2 : Int) ≤ L.Y.now := by
  by_cases h2 : t2 < 9
  · exact (h.snow t2 h2).2
  · rw [since_nat, List.getD_eq_getElem?_getD, List.getElem?_eq_none (by rw [h.ent]; omega)]
    exact h.now0
theorem GI.good (h : GI M N r ks L) (ht : t < 9) (t1 : 1 ≤ t) : L.Y.bad (t : Int) = false := by
  unfold YV.bad
  rw [h.ent]
  simp
  omega
/-- Going inside, or not at all. -/
theorem GI.step0 (h : GI M N r ks L) (hN : N < 100000000000000) (ht : t < 9) (ho : L.op t = some O) (n : O.next = 0) : StepsTo M N L t O := by
  have hso := h.stok hN ht ho
  obtain ⟨t1, hp⟩ := h.op t O ht ho
  obtain ⟨a1, a2, a3, a4, a5, a6, a7, a8, a9, av, st⟩ := hp
  cases st with
  | s0 n2 z d f =>
    have eV : stV L.V L.Y L.B O = L.V := by simp [stV, n]
    have hY : stY L.V L.Y L.B O = enterY L.Y L.B O := by simp [stY, n]
    have hO : stO L.V L.Y L.B O = enterO L.Y L.B O := by simp [stO, n]
    by_cases hin : inB L.B O = true
    · have hch : 1 ≤ O.chain ∧ O.chain ≤ (L.m.length : Nat) := by
        unfold inB at hin
        rw [h.chs] at hin
        simp only [Bool.and_eq_true, decide_eq_true_eq] at hin
        exact hin
      have he : L.Y.enterErr O.t = 0 := by unfold YV.enterErr; rw [a1, h.good ht t1]; rw [a1] at z; rw [z]; rfl
      have eY : stY L.V L.Y L.B O = { L.Y with now := L.Y.now + 1, ent := L.Y.ent.set t (L.Y.now + 1) } := by
        rw [hY]; unfold enterY; rw [hin]; show L.Y.enter O.t = _; unfold YV.enter; rw [if_pos he, a1, Int.toNat_natCast]
      have eO : stO L.V L.Y L.B O = { O with next := 1 } := by
        rw [hO]; unfold enterO enterE; rw [hin]; show (if L.Y.enterErr O.t = 0 then _ else _) = _; rw [if_pos he]
      have hb : Bd (N + 1) ({ L.Y with now := L.Y.now + 1, ent := L.Y.ent.set t (L.Y.now + 1) } : YV) L.V := by
        have := h.bd.enter (t : Int)
        unfold YV.enter at this
        rw [a1] at he
        rw [if_pos he, Int.toNat_natCast] at this
        exact this
      have hq : ¬ (O.done = false ∧ ({ O with next := 1 } : CO).done = true) := by intro hx; rw [show ({ O with next := 1 } : CO).done = O.done from rfl, hx.1] at hx; cases hx.2
      have hn := h.now0
      refine ⟨by rw [eO]; exact h.sok (by omega) hso (fun hx => hx) av (by show (1 : Int) ≠ 11; decide), r, ks, ?_⟩
      rw [LV.step_q eV eY eO hq (by show (1 : Int) ≠ 11; decide)]
      have hst : ({ L.Y with now := L.Y.now + 1, ent := L.Y.ent.set t (L.Y.now + 1) } : YV).since (t : Int) = L.Y.now + 1 := since_set_same L.Y _ _ (by rw [h.ent]; exact ht)
      refine h.put (by omega) ht hb rfl h.f0 (by show (L.Y.ent.set t _).length = 9; rw [List.length_set]; exact h.ent) (fun p hp => ⟨(h.lim p hp).1, by have := (h.lim p hp).2; show p.2.2 ≤ L.Y.now + 1; omega⟩) (fun i hi => ?_) h.blk h.blkr h.len rfl
        (fun c hc => (h.ch c hc).mono (by omega) fun K _ h1 h2 => ⟨h1, h2⟩) (fun t2 h2 => ?_) (fun _ _ => rfl) (fun _ _ => rfl) t1 (fun O2 h2 => ?_) (fun h => by cases h)
      · by_cases hit : i = t
        · subst hit; rw [hst]; show 0 ≤ L.Y.now + 1 ∧ L.Y.now + 1 ≤ L.Y.now + 1; omega
        · rw [since_set_ne L.Y _ _ hit]
          have := h.snow i hi
          show _ ∧ _ ≤ L.Y.now + 1
          omega
      · have hs2 := since_set_ne L.Y (L.Y.now + 1) (L.Y.now + 1) h2
        exact ⟨hs2, fun _ _ h1 h3 => ⟨h3, h1⟩, fun _ _ _ _ k => .inl k, fun _ _ _ k => k, fun b K h1 h3 h4 h5 => ⟨h1, fun p hp he => by rw [hs2]; exact h5 p hp he⟩⟩
      · cases h2
        exact ⟨a1, a2, a3, a4, a5, a6, fun _ => ⟨by show 0 < YV.since _ O.t; rw [a1, hst]; omega, hch⟩, a8, a9, av, .s1 rfl d f⟩
    · have hin : inB L.B O = false := by simpa using hin
      have eY : stY L.V L.Y L.B O = L.Y := by rw [hY]; unfold enterY; rw [hin]; rfl
      have eO : stO L.V L.Y L.B O = { O with err := 1, ok := false, stamp := 0, values := [], next := 11 } := by
        rw [hO]; unfold enterO enterE; rw [hin]; rfl
      have hq : ¬ (O.done = false ∧ ({ O with err := 1, ok := false, stamp := 0, values := [], next := 11 } : CO).done = true) := by intro hx; rw [show ({ O with err := 1, ok := false, stamp := 0, values := [], next := 11 } : CO).done = O.done from rfl, hx.1] at hx; cases hx.2
      have hout : O.chain < 1 ∨ (L.m.length : Int) < O.chain := by
        unfold inB at hin
        rw [h.chs] at hin
        by_cases h1 : O.chain < 1
        · exact .inl h1
        · by_cases h2 : (L.m.length : Int) < O.chain
          · exact .inr h2
          · rw [decide_eq_true (by omega), decide_eq_true (by omega)] at hin; cases hin
      refine ⟨?_, r, ks, ?_⟩
      · rw [eO]
        refine ⟨hso, fun hx => hx, h.mb (by omega), by show (0 : Nat) ≤ 1000; omega, fun _ hx => ?_, fun _ _ => ⟨rfl, rfl, rfl, .inl ⟨rfl, by rw [← a3]; exact hout⟩⟩⟩
        rw [LV.mid_q eO hq] at hx
        have hx : L.did t = true := hx
        rw [a6, d] at hx
        cases hx
      · rw [LV.step_o eV eY eO hq rfl]
        exact h.put (by omega) ht (h.bd.mono (by omega)) rfl h.f0 h.ent h.lim h.snow h.blk h.blkr h.len rfl (fun c hc => (h.ch c hc).mono (by omega) fun K _ h1 h2 => ⟨h1, h2⟩) (fun _ _ => Env.refl) (fun _ _ => rfl) (fun _ _ => rfl) t1 (fun O2 h2 => by cases h2) (fun _ => by rw [← a1]; exact z)
  | _ => omega
/-- Nothing to cut: is it so still? -/
theorem GI.step4 (h : GI M N r ks L) (hN : N < 100000000000000) (ht : t < 9) (ho : L.op t = some O) (n : O.next = 4) : StepsTo M N L t O := by
  have hso := h.stok hN ht ho
  obtain ⟨t1, hp⟩ := h.op t O ht ho
  obtain ⟨a1, a2, a3, a4, a5, a6, a7, a8, a9, av, st⟩ := hp
  cases st with
  | s4 K n2 d f hh fd kd no =>
    obtain ⟨hs, hch⟩ := a7 (by omega)
    obtain ⟨c, hc, hcc, hcn⟩ := chain_nat hch
    have hcell := h.cell hc hcc
    have hac : (L.what t).chain = (c : Int) + 1 := by rw [← a3]; exact hcc
    have eV : stV L.V L.Y L.B O = L.V := by simp [stV, n, AV.touch_hit h.blk]
    have eY : stY L.V L.Y L.B O = L.Y := by simp [stY, n]
    have hO : stO L.V L.Y L.B O = chkO L.V L.B O := by simp [stO, n]
    by_cases hne : L.V.val L.B.block (O.chain - 1) ≠ O.old
    · have eO : stO L.V L.Y L.B O = { O with next := 1 } := by rw [hO]; unfold chkO; rw [if_pos hne]
      exact h.quiet_step hN ht ho eV eY eO rfl (by show (1 : Int) ≠ 11; decide) ⟨a1, a2, a3, a4, a5, a6, fun _ => a7 (by omega), a8, a9, av, .s1 rfl d f⟩
    · have he : ks.getD c 0 = O.old := by rw [← hcell]; exact Decidable.not_not.1 hne
      have hst : O.st = hd0 K := by unfold CO.st; rw [fd]
      have eO : stO L.V L.Y L.B O = { O with done := true, err := 0, ok := false, stamp := hd0 K, values := [], next := 10 } := by rw [hO]; unfold chkO; rw [if_neg hne, hst]
      have hK := seen (h.ch c hc) hh he
      obtain ⟨e1, e2⟩ := eff_no hc hac kd (by rw [hK]; exact no)
      rw [hK] at e2
      refine ⟨by rw [eO]; exact h.sok (by omega) hso (fun _ => rfl) (by show (0 : Nat) ≤ 1000; omega) (by show (10 : Int) ≠ 11; decide), r, ks, ?_⟩
      rw [LV.step_e eV eY eO ⟨d, rfl⟩ (by show (10 : Int) ≠ 11; decide), e1, e2]
      refine h.swept_step ht ho (.same h.bd) (upd_at _ _ _) (upd_at _ _ _) ?_
      rw [upd_same, upd_same]
      exact ⟨a1, a2, a3, a4, a5, rfl, fun _ => a7 (by omega), a8, a9, by show (0 : Nat) ≤ 1000; omega, .s10 rfl f (fun _ => rfl) (fun hx => by cases hx)⟩
  | _ => omega
theorem Held.len {N : Int} {V : AV} {Y : YV} {K : List Int} (h : Held M N V Y r O K) : K.length ≤ M + 1 ∧ 0 ≤ hd0 K ∧ (0 ≤ N → hd0 K ≤ N) := by
  rcases h with ⟨_, rfl⟩ | h
  · exact ⟨by simp, Int.le_refl 0, fun h => h⟩
  · exact ⟨h.l2, h.s1, fun _ => h.s2⟩
theorem ToBe.len {A : AskV} {K : List Int} {N : Int} {V : AV} {Y : YV} (h : ToBe A O K) (hK : Held M N V Y r O K) : 1 ≤ O.list.length ∧ O.list.length ≤ M + 2 := by
  rw [h.list]
  have := aft_len A (K.drop 1)
  have h2 := hK.len.1
  rw [List.length_drop] at this
  rw [List.length_cons]
  by_cases h0 : K.length = 0
  · omega
  · omega
/-- A block is asked for. -/
theorem GI.step5 (h : GI M N r ks L) (hv : L.V.Ok) (hN : N < 100000000000000) (ht : t < 9) (ho : L.op t = some O) (n : O.next = 5) : StepsTo M N L t O := by
  have hso := h.stok hN ht ho
  obtain ⟨t1, hp⟩ := h.op t O ht ho
  obtain ⟨a1, a2, a3, a4, a5, a6, a7, a8, a9, av, st⟩ := hp
  cases st with
  | s5 K n2 d f hh tb =>
    obtain ⟨hl1, hl2⟩ := tb.len hh
    have hm := h.m200
    have hV : stV L.V L.Y L.B O = L.V.alloc O.list.length := by simp [stV, n]
    have eY : stY L.V L.Y L.B O = L.Y := by simp [stY, n]
    have hO : stO L.V L.Y L.B O = bldO L.V O := by simp [stO, n]
    by_cases he : L.V.allocErr (O.list.length : Nat) = 0
    · have eO : stO L.V L.Y L.B O = { O with fresh := L.V.made + 1, count := 0, next := 6 } := by rw [hO]; unfold bldO; rw [if_pos he]
      have hq : ¬ (O.done = false ∧ ({ O with fresh := L.V.made + 1, count := 0, next := 6 } : CO).done = true) := by intro hx; rw [show ({ O with fresh := L.V.made + 1, count := 0, next := 6 } : CO).done = O.done from rfl, hx.1] at hx; cases hx.2
      have hmade := hv.made
      -- the new block's part
      have hold : ∀ b K, L.V.find b = some K → b ≠ L.V.made + 1 := fun b K hf e => by
        rw [AV.find_none_of_gt hv (.inl (by omega))] at hf; cases hf
      have hfo : ∀ b K, L.V.find b = some K → (L.V.alloc (O.list.length : Nat)).find b = some K := fun b K hf => alloc_find _ hf
      have hro : ∀ b K, L.V.find b = some K → (fun b => if b = L.V.made + 1 then Role.fresh t else r b) b = r b := fun b K hf => if_neg (hold b K hf)
      have env : ∀ t2, Env t2 L.V L.Y r (L.V.alloc (O.list.length : Nat)) L.Y (fun b => if b = L.V.made + 1 then Role.fresh t else r b) := fun t2 =>
        ⟨rfl, fun b F h1 h3 => ⟨(hro b F h1).trans h3, hfo b F h1⟩, fun b K c h1 h3 => .inl ((hro b K h1).trans h3), fun b K h1 h3 => (hro b K h1).trans h3, fun b K h1 h3 h4 h5 => ⟨hfo b K h1, h5⟩⟩
      refine ⟨by rw [eO]; exact h.sok (by omega) hso (fun hx => hx) av (by show (6 : Int) ≠ 11; decide), (fun b => if b = L.V.made + 1 then Role.fresh t else r b), ks, ?_⟩
      rw [LV.step_q hV eY eO hq (by show (6 : Int) ≠ 11; decide)]
      refine h.put (by omega) ht (h.bd.alloc _) rfl (by rw [alloc_faults]; exact h.f0) h.ent (fun p hp => ⟨?_, (h.lim p hp).2⟩) h.snow (hfo _ _ h.blk) (by show (if L.B.block = L.V.made + 1 then Role.fresh t else r L.B.block) = _; rw [if_neg (hold _ _ h.blk)]; exact h.blkr) h.len rfl
        (fun c hc => (h.ch c hc).mono (by omega) fun K _ h1 h2 => ⟨hfo _ _ h1, (hro _ _ h1).trans h2⟩) (fun t2 _ => env t2) (fun _ _ => rfl) (fun _ _ => rfl) t1 (fun O2 h2 => ?_) (fun h => by cases h)
      · obtain ⟨xs, hx⟩ := h.bd.live p hp
        show (if p.1 = L.V.made + 1 then Role.fresh t else r p.1) = _
        rw [if_neg (hold _ _ hx)]; exact (h.lim p hp).1
      · cases h2
        refine ⟨a1, a2, a3, a4, a5, a6, fun _ => a7 (by omega), a8, a9, av, .s6 K (List.replicate O.list.length 0) 0 rfl d ((hh.move (env t) a1 (a7 (by omega)).1 (by omega)).as rfl rfl rfl) ⟨tb.kind, tb.found, tb.list, tb.has, tb.few⟩ ⟨by show 0 < L.V.made + 1; omega, if_pos rfl, ?_, by rw [List.length_replicate]⟩ rfl (by show 0 < O.list.length; omega) (by simp)⟩
        have := AV.find_alloc_new hv he
        rw [Int.toNat_natCast] at this
        exact this
    · have he21 : L.V.allocErr (O.list.length : Nat) = 21 := by
        unfold AV.allocErr at he ⊢
        rw [if_neg (by omega)] at he ⊢
        split at he
        · rename_i hx; rw [if_pos hx]
        · exact absurd rfl he
      have eV : stV L.V L.Y L.B O = L.V := by rw [hV]; unfold AV.alloc; rw [if_neg he]
      have eO : stO L.V L.Y L.B O = O.fail 21 := by rw [hO]; unfold bldO; rw [if_neg he, he21]
      have hfa : (O.fail 21).next = 10 := by unfold CO.fail; simp [f]
      refine h.quiet_step hN ht ho eV eY eO rfl (by rw [hfa]; decide) ⟨a1, a2, a3, a4, a5, a6, fun _ => a7 (by omega), a8, a9, by show (0 : Nat) ≤ 1000; omega, .s10 hfa f (fun hx => ?_) (fun _ => ⟨rfl, rfl, rfl, .inr ⟨.inr rfl, by have := tb.kind; omega⟩⟩)⟩
      have hx : O.done = true := hx
      rw [d] at hx; cases hx
  | _ => omega
/-- The new block is put in the place of the one that was found, or in vain. -/
theorem GI.step7 (h : GI M N r ks L) (hN : N < 100000000000000) (ht : t < 9) (ho : L.op t = some O) (n : O.next = 7) (hM : M = 200 ∨ ∀ c, c < L.m.length → (L.m.getD c ([], 0)).1.length + 1 ≤ M) : StepsTo M N L t O := by
  have hso := h.stok hN ht ho
  obtain ⟨t1, hp⟩ := h.op t O ht ho
  obtain ⟨a1, a2, a3, a4, a5, a6, a7, a8, a9, av, st⟩ := hp
  cases st with
  | s7 K n2 d hh tb fr =>
    obtain ⟨hs, hch⟩ := a7 (by omega)
    obtain ⟨c, hc, hcc, hcn⟩ := chain_nat hch
    have hcell := h.cell hc hcc
    have hcok := h.cellok hc hcc
    have hac : (L.what t).chain = (c : Int) + 1 := by rw [← a3]; exact hcc
    have hV : stV L.V L.Y L.B O = L.V.swap L.B.block (O.chain - 1) O.old O.fresh := by simp [stV, n]
    have eY : stY L.V L.Y L.B O = L.Y := by simp [stY, n]
    have hO : stO L.V L.Y L.B O = swapO L.V L.B O := by simp [stO, n]
    by_cases he : ks.getD c 0 = O.old
    · have hok : L.V.swapOk L.B.block (O.chain - 1) O.old = true := by unfold AV.swapOk; rw [hcok, hcell, he]; simp
      have hK := seen (h.ch c hc) hh he
      have hm := h.m200
      obtain ⟨e1, e2⟩ := eff_set (A := L.what t) hc hac ⟨a2.1, tb.kind⟩ (fun hk => by rw [hK]; exact tb.has hk)
      rw [hK] at e1 e2
      have hl0 : hd0 O.list = hd0 K + 1 := by rw [tb.list]; rfl
      have eV : stV L.V L.Y L.B O = L.V.set L.B.block (O.chain - 1) O.fresh := by rw [hV]; unfold AV.swap; rw [hok]; rfl
      have eO : stO L.V L.Y L.B O = { O with done := true, err := 0, ok := true, stamp := hd0 K + 1, values := [], fresh := 0, next := if O.old = 0 then 10 else 9 } := by
        rw [hO]; unfold swapO; rw [if_pos hok, hl0]
      have hn11 : (if O.old = 0 then (10 : Int) else 9) ≠ 11 := by split <;> decide
      have hfind : ∀ b, b ≠ L.B.block → (L.V.set L.B.block (O.chain - 1) O.fresh).find b = L.V.find b := fun b hb => by rw [find_set, if_neg hb]
      have hnb : ∀ b ρ, r b = ρ → ρ ≠ .base → b ≠ L.B.block := fun b ρ h1 h2 e => by rw [e, h.blkr] at h1; exact h2 h1.symm
      have hblk : (L.V.set L.B.block (O.chain - 1) O.fresh).find L.B.block = some (ks.set c O.fresh) := by rw [find_set, if_pos rfl, h.blk, hcn]; rfl
      have hroleold : O.old ≠ 0 → r O.old = .chain c := fun h0 => by
        rcases h.ch c hc with ⟨h1, _⟩ | ⟨_, _, h3, _⟩
        · rw [he] at h1; exact absurd h1 h0
        · rw [he] at h3; exact h3
      have hne : O.fresh ≠ O.old := fun e => by
        have h1 := fr.role
        have h2 := fr.pos
        have h3 := hroleold (by omega)
        rw [← e, h1] at h3; cases h3
      let r' : Int → Role := fun b => if b = O.fresh then .chain c else if b = O.old ∧ O.old ≠ 0 then .gone else r b
      have r'f : r' O.fresh = .chain c := if_pos rfl
      have r'o : O.old ≠ 0 → r' O.old = .gone := fun h0 => by show (if O.old = O.fresh then _ else _) = _; rw [if_neg (Ne.symm hne), if_pos ⟨rfl, h0⟩]
      have r'e : ∀ b, b ≠ O.fresh → ¬ (b = O.old ∧ O.old ≠ 0) → r' b = r b := fun b h1 h2 => by show (if b = O.fresh then _ else _) = _; rw [if_neg h1, if_neg h2]
      have hbf : L.B.block ≠ O.fresh := fun e => by have := fr.role; rw [← e, h.blkr] at this; cases this
      have hbo : ¬ (L.B.block = O.old ∧ O.old ≠ 0) := fun e => by have := hroleold e.2; rw [← e.1, h.blkr] at this; cases this
      have nf : ∀ b ρ, r b = ρ → ρ ≠ .fresh t → b ≠ O.fresh := fun b ρ h1 h2 e => by rw [e, fr.role] at h1; exact h2 h1.symm
      have hN0 : 0 ≤ N := by have := h.bd.now; have := h.now0; omega
      obtain ⟨hk1, hk2, hk3⟩ := hh.len
      have hk3 := hk3 hN0
      refine ⟨by rw [eO]; exact h.sok (by omega) hso (fun _ => rfl) (by show (0 : Nat) ≤ 1000; omega) hn11, r', ks.set c O.fresh, ?_⟩
      rw [LV.step_e eV eY eO ⟨d, rfl⟩ hn11, e1, e2]
      have hb := h.bd.mono (show N ≤ N + 1 by omega)
      have gonelim : ∀ p ∈ L.Y.limbo, r' p.1 = .gone := fun p hp => by
        have h1 := (h.lim p hp).1
        by_cases h2 : p.1 = O.old ∧ O.old ≠ 0
        · rw [h2.1]; exact r'o h2.2
        · rw [r'e _ (nf _ _ h1 (by intro h; cases h)) h2]; exact h1
      refine h.put (by omega) ht ⟨fun p hp => ?_, hb.nodup, hb.rng, hb.cnt, hb.len, hb.zero, hb.faults, hb.made, hb.now⟩ rfl h.f0 h.ent (fun p hp => ⟨gonelim p hp, (h.lim p hp).2⟩) h.snow hblk (by rw [r'e _ hbf hbo]; exact h.blkr) (by rw [List.length_set, List.length_set]; exact h.len) (by rw [List.length_set])
        (fun c' hc' => ?_) (fun t2 h2 => ⟨rfl, fun b F h1 h3 => ?_, fun b K2 c2 h1 h3 => ?_, fun b K2 h1 h3 => ?_, fun b K2 h1 h3 h4 h5 => ⟨?_, h5⟩⟩) (upd_at _ _ _) (upd_at _ _ _) t1 (fun O2 h2 => ?_) (fun h => by cases h)
      · obtain ⟨xs, hx⟩ := hb.live p hp
        exact ⟨xs, by rw [hfind _ (hnb _ _ (h.lim p hp).1 (by intro h; cases h))]; exact hx⟩
      · by_cases hcc' : c' = c
        · subst hcc'
          have e1 : (ks.set c' O.fresh).getD c' 0 = O.fresh := getD_set_same ks c' O.fresh (by rw [h.len]; exact hc)
          have e2 : (L.m.set c' (aft (L.what t) (K.drop 1), hd0 K + 1)).getD c' ([], 0) = (aft (L.what t) (K.drop 1), hd0 K + 1) := by
            rw [List.getD_eq_getElem?_getD, List.getElem?_set_self hc]; rfl
          rw [e1, e2]
          refine .inr ⟨fr.pos, ?_, r'f, ?_, by show 0 ≤ hd0 K + 1; omega, by show hd0 K + 1 ≤ N + 1; omega⟩
          · rw [hfind _ (Ne.symm hbf), fr.find, tb.list]
          · show (aft (L.what t) (K.drop 1)).length ≤ M
            rcases hM with hM | hM
            · by_cases k3 : (L.what t).kind = 3
              · unfold aft
                rw [if_pos k3]
                have := List.length_erase_le (a := (L.what t).v) (l := K.drop 1)
                rw [List.length_drop] at this
                omega
              · have := aft_len (L.what t) (K.drop 1)
                have := tb.few k3
                omega
            · have h1 := hM c' hc
              rw [hK] at h1
              have := aft_len (L.what t) (K.drop 1)
              have h1 : (K.drop 1).length + 1 ≤ M := h1
              omega
        · have e1 : (ks.set c O.fresh).getD c' 0 = ks.getD c' 0 := getD_set_ne ks O.fresh 0 (Ne.symm hcc')
          have e2 : (L.m.set c (aft (L.what t) (K.drop 1), hd0 K + 1)).getD c' ([], 0) = L.m.getD c' ([], 0) := getD_set_ne L.m _ _ (Ne.symm hcc')
          rw [e1, e2]
          refine (h.ch c' hc').mono (by omega) fun K2 hp1 h1 h2 => ⟨by rw [hfind _ (hnb _ _ h2 (by intro h; cases h))]; exact h1, ?_⟩
          rw [r'e _ (nf _ _ h2 (by intro h; cases h)) (fun e => ?_)]
          · exact h2
          · have := hroleold e.2
            rw [← e.1, h2] at this
            injection this with this
            exact hcc' this
      · have h4 : b ≠ O.fresh := nf b _ h3 (by intro h; injection h with h; exact h2 h)
        have h5 : ¬ (b = O.old ∧ O.old ≠ 0) := fun e => by have := hroleold e.2; rw [← e.1, h3] at this; cases this
        exact ⟨by rw [r'e b h4 h5]; exact h3, by rw [hfind b (hnb b _ h3 (by intro h; cases h))]; exact h1⟩
      · by_cases h5 : b = O.old ∧ O.old ≠ 0
        · exact .inr (by rw [h5.1]; exact r'o h5.2)
        · exact .inl (by rw [r'e b (nf b _ h3 (by intro h; cases h)) h5]; exact h3)
      · by_cases h5 : b = O.old ∧ O.old ≠ 0
        · rw [h5.1]; exact r'o h5.2
        · rw [r'e b (nf b _ h3 (by intro h; cases h)) h5]; exact h3
      · rw [hfind b ?_]
        · exact h1
        · rcases h3 with ⟨c2, h3⟩ | h3
          · exact hnb b _ h3 (by intro h; cases h)
          · exact hnb b _ h3 (by intro h; cases h)
      · cases h2
        rw [upd_same, upd_same]
        refine ⟨a1, a2, a3, a4, a5, rfl, fun _ => a7 (by omega), a8, a9, by show (0 : Nat) ≤ 1000; omega, ?_⟩
        by_cases h0 : O.old = 0
        · exact .s10 (if_pos h0) rfl (fun _ => rfl) (fun hx => by cases hx)
        · have hH : HeldAt M N L.V L.Y r O K := hh.resolve_left (fun e => h0 e.1)
          refine .s9 K (if_neg h0) rfl rfl ⟨hH.pos, ?_, .inr (r'o h0), hH.lim, hH.l1, hH.l2, hH.s1, by have := hH.s2; omega⟩ (r'o h0) rfl
          show (L.V.set L.B.block (O.chain - 1) O.fresh).find O.old = some K
          rw [hfind _ (fun e => hbo ⟨e.symm, h0⟩)]; exact hH.find
    · have hok : L.V.swapOk L.B.block (O.chain - 1) O.old = false := by unfold AV.swapOk; rw [hcok, hcell, beq_eq_false_iff_ne.2 he]; rfl
      have eV : stV L.V L.Y L.B O = L.V := by rw [hV]; unfold AV.swap; rw [hok]; exact AV.touch_hit h.blk
      have eO : stO L.V L.Y L.B O = { O with err := 0, ok := false, stamp := 0, values := [], next := 8 } := by rw [hO]; unfold swapO; rw [if_neg (by rw [hok]; decide)]
      exact h.quiet_step hN ht ho eV eY eO rfl (by show (8 : Int) ≠ 11; decide) ⟨a1, a2, a3, a4, a5, a6, fun _ => a7 (by omega), a8, a9, by show (0 : Nat) ≤ 1000; omega, .s8 O.list rfl d ⟨fr.pos, fr.role, fr.find, rfl⟩ rfl⟩
  | _ => omega
/-- The old block waits. -/
theorem GI.step9 (h : GI M N r ks L) (hN : N < 100000000000000) (ht : t < 9) (ho : L.op t = some O) (n : O.next = 9) : StepsTo M N L t O := by
  have hso := h.stok hN ht ho
  obtain ⟨t1, hp⟩ := h.op t O ht ho
  obtain ⟨a1, a2, a3, a4, a5, a6, a7, a8, a9, av, st⟩ := hp
  cases st with
  | s9 K n2 d f hh g an =>
    have hV : stV L.V L.Y L.B O = retireV L.Y L.V t O.old := by simp [stV, n, a1]
    have hY : stY L.V L.Y L.B O = L.Y.retire L.V t O.old := by simp [stY, n, a1]
    have eO : stO L.V L.Y L.B O = { O with next := 10 } := by simp [stO, n]
    have hq : ¬ (O.done = false ∧ ({ O with next := 10 } : CO).done = true) := by intro hx; rw [d] at hx; cases hx.1
    have hbad := h.good ht t1
    have hfe : L.V.freeErr O.old = 0 := by unfold AV.freeErr; rw [hh.find]
    have own : ∀ V' Y', Y'.since (t : Int) = L.Y.since (t : Int) → OpI M (N + 1) V' Y' r L.m.length t (L.what t) (L.did t) (L.want t) { O with next := 10 } := fun V' Y' hs =>
      ⟨a1, a2, a3, a4, a5, a6, fun _ => by have := a7 (by omega); rw [a1] at this; show 0 < Y'.since O.t ∧ _; rw [a1, hs]; exact this, a8, a9, av, .s10 rfl f (fun _ => an) (fun hx => by have hx : O.done = false := hx; rw [d] at hx; cases hx)⟩
    refine ⟨by rw [eO]; exact h.sok (by omega) hso (fun hx => hx) av (by show (10 : Int) ≠ 11; decide), r, ks, ?_⟩
    have hlg : ∀ p ∈ L.Y.limbo, r p.1 = .gone := fun p hp => (h.lim p hp).1
    cases hany : anyR L.Y O.old with
    | true =>
      have eV : stV L.V L.Y L.B O = L.V := by rw [hV]; unfold retireV; rw [hbad, hany]; rfl
      have eY : stY L.V L.Y L.B O = L.Y := by rw [hY]; unfold YV.retire; rw [hbad, hany]; rfl
      rw [LV.step_q eV eY eO hq (by show (10 : Int) ≠ 11; decide)]
      exact h.swept_step ht ho (.same h.bd) (fun _ _ => rfl) (fun _ _ => rfl) (own _ _ rfl)
    | false =>
      have eV : stV L.V L.Y L.B O = dropsV L.Y L.V L.Y.limbo := by rw [hV]; unfold retireV; rw [hbad, hany, if_pos hfe]; rfl
      have hsw := Swept.sweep (r := r) h.bd hlg
      cases hfull : L.Y.full (t : Int) with
      | true =>
        have eY : stY L.V L.Y L.B O = L.Y.sweep := by rw [hY]; unfold YV.retire; rw [hbad, hany, if_pos hfe, hfull]; rfl
        rw [LV.step_q eV eY eO hq (by show (10 : Int) ≠ 11; decide)]
        exact h.swept_step ht ho hsw (fun _ _ => rfl) (fun _ _ => rfl) (own _ _ (hsw.since _))
      | false =>
        have eY : stY L.V L.Y L.B O = L.Y.sweep.wait t O.old := by rw [hY]; unfold YV.retire; rw [hbad, hany, if_pos hfe, hfull]; rfl
        have hbd := h.bd.retire (t : Int) O.old
        rw [← hV, ← hY, eV, eY] at hbd
        rw [LV.step_q eV eY eO hq (by show (10 : Int) ≠ 11; decide)]
        have hsn : ∀ t2 : Nat, (L.Y.sweep.wait t O.old).since (t2 : Int) = L.Y.since (t2 : Int) := fun t2 => hsw.since _
        have hml : ∀ p ∈ (L.Y.sweep.wait t O.old).limbo, p ∈ L.Y.sweep.limbo ∨ p = (O.old, (t : Int), L.Y.now + 1) := fun p hp => by
          rcases List.mem_append.1 (show p ∈ L.Y.sweep.limbo ++ [(O.old, (t : Int), L.Y.sweep.now + 1)] from hp) with h1 | h1
          · exact .inl h1
          · exact .inr (List.mem_singleton.1 h1)
        refine h.put (by omega) ht hbd rfl (by rw [hsw.faults]; exact h.f0) h.ent (fun p hp => ?_) (fun i hi => ?_) (by rw [hsw.find _ (by rw [h.blkr]; intro h; cases h)]; exact h.blk) h.blkr h.len rfl
          (fun c hc => (h.ch c hc).mono (by omega) fun K _ h1 h2 => ⟨by rw [hsw.find _ (by rw [h2]; intro h; cases h)]; exact h1, h2⟩) (fun t2 _ => ?_) (fun _ _ => rfl) (fun _ _ => rfl) t1 (fun O2 h2 => by cases h2; exact own _ _ (hsn t)) (fun h => by cases h)
        · show _ ∧ p.2.2 ≤ L.Y.now + 1
          rcases hml p hp with h1 | h1
          · have := h.lim p (hsw.lim p h1)
            exact ⟨this.1, by omega⟩
          · rw [h1]; exact ⟨g, Int.le_refl _⟩
        · rw [hsn]
          have := h.snow i hi
          show _ ∧ _ ≤ L.Y.now + 1
          omega
        · have e := hsw.env t2
          refine ⟨hsn t2, e.fresh, e.chain, e.gone, fun b K2 h1 h3 h4 h5 => ?_⟩
          obtain ⟨h6, h7⟩ := e.held b K2 h1 h3 h4 h5
          refine ⟨h6, fun p hp hpb => ?_⟩
          rcases hml p hp with h8 | h8
          · exact h7 p h8 hpb
          · rw [h8, hsn]
            have := h.since_le t2
            show L.Y.since t2 < L.Y.now + 1
            omega
  | _ => omega
/-- Going outside: over. -/
theorem GI.step10 (h : GI M N r ks L) (hN : N < 100000000000000) (ht : t < 9) (ho : L.op t = some O) (n : O.next = 10) : StepsTo M N L t O := by
  have hso := h.stok hN ht ho
  obtain ⟨t1, hp⟩ := h.op t O ht ho
  obtain ⟨a1, a2, a3, a4, a5, a6, a7, a8, a9, av, st⟩ := hp
  cases st with
  | s10 n2 f an no =>
    obtain ⟨hs, hch⟩ := a7 (by omega)
    have eV : stV L.V L.Y L.B O = L.V := by simp [stV, n]
    have hle : L.Y.leaveErr (t : Int) = 0 := by
      unfold YV.leaveErr
      rw [h.good ht t1]
      rw [a1] at hs
      rw [if_neg (by decide), if_neg (by omega)]
    have eY : stY L.V L.Y L.B O = { L.Y with now := L.Y.now, ent := L.Y.ent.set t 0 } := by
      simp only [stY, n, a1]
      show L.Y.leave t = _
      unfold YV.leave
      rw [if_pos hle, Int.toNat_natCast]
    have eO : stO L.V L.Y L.B O = { O with next := 11 } := by simp [stO, n]
    have hq : ¬ (O.done = false ∧ ({ O with next := 11 } : CO).done = true) := by intro hx; rw [show ({ O with next := 11 } : CO).done = O.done from rfl, hx.1] at hx; cases hx.2
    have hb : Bd (N + 1) ({ L.Y with now := L.Y.now, ent := L.Y.ent.set t 0 } : YV) L.V := by
      have := (h.bd.mono (show N ≤ N + 1 by omega)).leave (t : Int)
      unfold YV.leave at this
      rw [if_pos hle, Int.toNat_natCast] at this
      exact this
    refine ⟨?_, r, ks, ?_⟩
    · rw [eO]
      refine ⟨hso, fun hx => hx, h.mb (by omega), av, fun _ hx => ?_, fun _ hx => ?_⟩
      · rw [LV.mid_q eO hq] at hx ⊢
        have hx : L.did t = true := hx
        rw [a6] at hx
        exact (an hx).symm
      · rw [LV.mid_q eO hq] at hx
        have hx : L.did t = false := hx
        rw [a6] at hx
        obtain ⟨h1, h2, h3, h4⟩ := no hx
        exact ⟨h1, h2, h3, .inr h4⟩
    · rw [LV.step_o eV eY eO hq rfl]
      have hst : ({ L.Y with now := L.Y.now, ent := L.Y.ent.set t 0 } : YV).since (t : Int) = 0 := since_set_same L.Y _ _ (by rw [h.ent]; exact ht)
      refine h.put (by omega) ht hb rfl h.f0 (by show (L.Y.ent.set t _).length = 9; rw [List.length_set]; exact h.ent) h.lim (fun i hi => ?_) h.blk h.blkr h.len rfl
        (fun c hc => (h.ch c hc).mono (by omega) fun K _ h1 h2 => ⟨h1, h2⟩) (fun t2 h2 => ?_) (fun _ _ => rfl) (fun _ _ => rfl) t1 (fun O2 h2 => by cases h2) (fun _ => hst)
      · by_cases hit : i = t
        · subst hit; rw [hst]; exact ⟨Int.le_refl 0, h.now0⟩
        · rw [since_set_ne L.Y _ _ hit]
          exact h.snow i hi
      · have hs2 := since_set_ne L.Y L.Y.now 0 h2
        exact ⟨hs2, fun _ _ h1 h3 => ⟨h3, h1⟩, fun _ _ _ _ k => .inl k, fun _ _ _ k => k, fun b K h1 h3 h4 h5 => ⟨h1, fun p hp he => by rw [hs2]; exact h5 p hp he⟩⟩
  | _ => omega
/-- Whoever steps. -/
theorem GI.step (h : GI M N r ks L) (hv : L.V.Ok) (hN : N < 100000000000000) (ht : t < 9) (ho : L.op t = some O) (hM : M = 200 ∨ (O.done = false → ∀ c, c < L.m.length → (L.m.getD c ([], 0)).1.length + 1 ≤ M)) : StepsTo M N L t O := by
  have hst := (h.op t O ht ho).2.st
  cases hst with
  | s0 n => exact h.step0 hN ht ho n
  | s1 n => exact h.step1 hN ht ho n
  | s2 K n => exact h.step2 hN ht ho n
  | s3 K n => exact h.step3 hN ht ho n
  | s4 K n => exact h.step4 hN ht ho n
  | s5 K n => exact h.step5 hv hN ht ho n
  | s6 K F c n => exact h.step6 hN ht ho n
  | s7 K n d => exact h.step7 hN ht ho n (hM.imp id fun h => h d)
  | s8 F n => exact h.step8 hN ht ho n
  | s9 K n => exact h.step9 hN ht ho n
  | s10 n => exact h.step10 hN ht ho n
end
end Go.Proofs.Ytefhngbeodnldaa
