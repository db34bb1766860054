/- Layer 5, plain: one operation alone, from its beginning to its end. No program in sight. -/
import Derived.Test.YtefhngbeodnldaaChainMeas
import Derived.Test.YtefhngbeodnldaaChainPlay
set_option linter.unusedVariables false
set_option linter.unusedSimpArgs false
namespace Go.Proofs.Ytefhngbeodnldaa
open Go.RowKit Go.PM
/-- What an operation takes of the arena. -/
def grow (A : AskV) (l : List Int) : Nat := if A.kind = 4 ∨ (A.kind = 3 ∧ l.contains A.v = false) then 0 else (aft A l).length + 1
theorem GI.shows {M : Nat} {N : Int} {r : Int → Role} {ks : List Int} {L : LV} (h : GI M N r ks L) (hv : L.V.Ok) : Shows L := by
  have hv0 : ∀ c, c < L.m.length → L.V.val L.B.block ((c : Int) + 1 - 1) = ks.getD c 0 := fun c hc => h.cell hc rfl
  have hm := h.m200
  have hf0 : L.V.find 0 = none := AV.find_none_of_gt hv (.inr (by decide))
  refine ⟨h.f0, by unfold AV.freeErr; rw [h.blk], h.chs, h.m64.2, fun c hc => ?_, fun c hc => ?_⟩
  · rw [hv0 c hc]
    rcases h.ch c hc with ⟨h1, h2⟩ | ⟨h1, h2, h3, h4, h5, h6⟩
    · exact .inl ⟨h1, hf0⟩
    · exact .inr ⟨_, h1, h2, by simp, by rw [List.length_cons]; omega⟩
  · have hg : L.m.getD c ([], 0) = L.m[c] := by rw [List.getD_eq_getElem?_getD, List.getElem?_eq_getElem hc]; rfl
    unfold AV.chain
    rw [hv0 c hc, ← hg]
    rcases h.ch c hc with ⟨h1, h2⟩ | ⟨h1, h2, h3, h4, h5, h6⟩
    · rw [h1, hf0, h2]
    · rw [h2]; rfl
theorem GI.start {M : Nat} {N : Int} {r : Int → Role} {ks : List Int} {L : LV} (h : GI M N r ks L) {t : Nat} (ht : t < 9) (t1 : 1 ≤ t) {o : AskV} (hot : o.t = (t : Int)) (hk : 1 ≤ o.kind ∧ o.kind ≤ 4) (hop : L.op t = none) : GI M N r ks (L.start t o) := by
  have hO : o.op.t = (t : Int) ∧ o.op.chain = o.chain ∧ ((o.kind = 1 → o.op.what = 0) ∧ (o.kind = 2 → o.op.what = 1) ∧ (o.kind = 3 → o.op.what = 2) ∧ (o.kind = 4 → o.op.what = 3)) ∧ (o.kind ≤ 3 → o.op.value = o.v) ∧ o.op.next = 0 ∧ o.op.found = [] ∧ o.op.list = [] ∧ o.op.values = [] ∧ o.op.done = false ∧ o.op.fresh = 0 := by
    unfold AskV.op CO.begin
    by_cases h1 : o.kind = 1
    · rw [if_pos h1]; exact ⟨hot, rfl, ⟨fun _ => rfl, by omega, by omega, by omega⟩, fun _ => rfl, rfl, rfl, rfl, rfl, rfl, rfl⟩
    by_cases h2 : o.kind = 2
    · rw [if_neg h1, if_pos h2]; exact ⟨hot, rfl, ⟨by omega, fun _ => rfl, by omega, by omega⟩, fun _ => rfl, rfl, rfl, rfl, rfl, rfl, rfl⟩
    by_cases h3 : o.kind = 3
    · rw [if_neg h1, if_neg h2, if_pos h3]; exact ⟨hot, rfl, ⟨by omega, by omega, fun _ => rfl, by omega⟩, fun _ => rfl, rfl, rfl, rfl, rfl, rfl, rfl⟩
    · rw [if_neg h1, if_neg h2, if_neg h3]; exact ⟨hot, rfl, ⟨by omega, by omega, by omega, fun _ => rfl⟩, by omega, rfl, rfl, rfl, rfl, rfl, rfl⟩
  obtain ⟨q1, q2, q3, q4, q5, q6, q7, q8, q9, q10⟩ := hO
  refine ⟨h.m200, h.bd, h.bound, h.f0, h.ent, h.lim, h.snow, h.blk, h.blkr, h.len, h.chs, h.m64, h.ch, fun i Oi hi ho => ?_, fun i hi ho => ?_⟩
  · by_cases hit : i = t
    · subst hit
      have ho : upd L.op i (some o.op) i = some Oi := ho
      rw [upd_same] at ho
      cases ho
      refine ⟨t1, ?_⟩
      show OpI M N L.V L.Y r L.m.length i (upd L.what i o i) (upd L.did i false i) (L.want i) o.op
      rw [upd_same, upd_same]
      exact ⟨q1, hk, q2, q3, q4, q9.symm, fun hn => absurd q5 hn, by rw [q6]; simp, by rw [q7]; simp, by rw [q8]; simp, .s0 q5 (by rw [q1]; exact h.idle i hi hop) q9 q10⟩
    · have ho : upd L.op t (some o.op) i = some Oi := ho
      rw [upd_ne _ _ hit] at ho
      have := h.op i Oi hi ho
      show _ ∧ OpI M N L.V L.Y r L.m.length i (upd L.what t o i) (upd L.did t false i) (L.want i) Oi
      rw [upd_ne _ _ hit, upd_ne _ _ hit]
      exact this
  · by_cases hit : i = t
    · subst hit
      have ho : upd L.op i (some o.op) i = none := ho
      rw [upd_same] at ho
      cases ho
    · have ho : upd L.op t (some o.op) i = none := ho
      rw [upd_ne _ _ hit] at ho
      exact h.idle i hi ho
/-- One operation alone under way: of thread t, on chain c + 1; m0: the lists ahead of it, l0: what is taken of the arena. -/
structure Solo (N : Int) (r : Int → Role) (ks : List Int) (t c : Nat) (A : AskV) (m0 : RB) (l0 most bound : Int) (L : LV) (O : CO) : Prop where
  mo : L.V.most = most
  bo : L.Y.bound = bound
  gi : GI 200 N r ks L
  t9 : t < 9
  op : L.op t = some O
  alone : ∀ i, i ≠ t → L.op i = none
  what : L.what t = A
  chain : A.chain = (c : Int) + 1
  cm : c < m0.length
  bnd : 2 ≤ bound
  lim1 : L.Y.limbo.length ≤ 1
  limT : 1 ≤ O.next → O.next ≤ 9 → ∀ p ∈ L.Y.limbo, p.2.2 < L.Y.since t
  fit : 2 ≤ O.next → O.next ≤ 7 → ks.getD c 0 = O.old
  n8 : O.next ≠ 8
  pre : O.done = false → L.m = m0 ∧ (O.next ≤ 5 ∨ O.next = 10 → L.V.live ≤ l0)
  post : O.done = true → L.m = effM m0 A ∧ L.want t = effA m0 A
  room : l0 + ((m0.getD c ([], 0)).1.length + 2 : Nat) ≤ most
  liv : L.V.live ≤ l0 + (grow A (m0.getD c ([], 0)).1 : Nat)
  no : O.next = 10 → O.done = false → O.err = 3 ∧ A.kind < 3 ∧ 200 ≤ (m0.getD c ([], 0)).1.length
/-- Behind it. -/
structure Ended (N : Int) (t c : Nat) (A : AskV) (m0 : RB) (l0 : Int) (most bound : Int) (L : LV) (O : CO) : Prop where
  gi : ∃ r ks, GI 200 N r ks L
  alone : ∀ i, L.op i = none
  mo : L.V.most = most
  bo : L.Y.bound = bound
  lim1 : L.Y.limbo.length ≤ 1
  out : (O.done = true ∧ L.m = effM m0 A ∧ L.V.live ≤ l0 + (grow A (m0.getD c ([], 0)).1 : Nat) ∧ (⟨O.err, O.ok, O.stamp, O.values⟩ : AnsV) = effA m0 A) ∨
    (O.done = false ∧ L.m = m0 ∧ L.V.live ≤ l0 ∧ A.kind < 3 ∧ 200 ≤ (m0.getD c ([], 0)).1.length ∧ O.err = 3 ∧ O.ok = false ∧ O.stamp = 0 ∧ O.values = [])
section
variable {N : Int} {r : Int → Role} {ks : List Int} {t c : Nat} {A : AskV} {m0 : RB} {l0 most bound : Int} {L : LV} {O : CO}
theorem limboN_le (Y : YV) (t : Int) : Y.limboN t ≤ Y.limbo.length := List.length_filter_le _ _
theorem Solo.few (h : Solo N r ks t c A m0 l0 most bound L O) {O2 : CO} : limFull L.Y O2 = false := by
  unfold limFull
  have := limboN_le L.Y O2.t
  have h1 := h.lim1
  have h2 := h.bnd
  have h3 := h.bo
  rw [decide_eq_false (show ¬ (L.Y.bound ≤ (L.Y.limboN O2.t : Int)) by omega), Bool.and_false]
theorem Solo.decV (h : Solo N r ks t c A m0 l0 most bound L O) (O2 : CO) : Go.Proofs.Ytefhngbeodnldaa.decV L.V L.Y O2 = L.V ∧ Go.Proofs.Ytefhngbeodnldaa.decY L.Y O2 = L.Y := by
  unfold Go.Proofs.Ytefhngbeodnldaa.decV Go.Proofs.Ytefhngbeodnldaa.decY
  rw [h.few, Bool.and_false]
  exact ⟨rfl, rfl⟩
/-- A decision, alone. -/
theorem Solo.dec (h : Solo N r ks t c A m0 l0 most bound L O) {O2 : CO} {K : List Int} (f : O2.fresh = 0) (fd : O2.found = K) (hw : A.kind ≠ 4 → O2.what ≠ 3) (hw4 : A.kind = 4 → O2.what = 3) (hw3 : A.kind = 3 ↔ O2.what = 2) :
    ((decO L.V L.Y O2).next = 4 ∨ (decO L.V L.Y O2).next = 5 ∨ (decO L.V L.Y O2).next = 10) ∧ ((decO L.V L.Y O2).next = 10 → A.kind = 4 ∨ ((decO L.V L.Y O2).err = 3 ∧ A.kind ≠ 3 ∧ 200 ≤ (K.drop 1).length)) := by
  have hnow : O2.now = K.drop 1 := by unfold CO.now; rw [fd]
  refine ⟨dec_next f, ?_⟩
  unfold decO
  by_cases h4 : A.kind = 4
  · intro _; exact .inl h4
  rw [if_neg (hw h4)]
  split
  · intro hx; exact absurd hx (by show ¬ (4 : Int) = 10; decide)
  · split
    · rename_i h1 h2
      intro _
      exact .inr ⟨rfl, fun h3 => h2.1 (hw3.1 h3), by rw [← hnow]; exact h2.2⟩
    · rw [if_neg (by rw [h.few]; intro hx; exact absurd hx.1 (by decide))]
      intro hx
      exact absurd hx (by show ¬ (5 : Int) = 10; decide)
theorem next_op (ht : t < 9) (ho : L.op t = some O) (hn : (stO L.V L.Y L.B O).next ≠ 11) : (L.step t O).op = upd L.op t (some (stO L.V L.Y L.B O)) := by
  unfold LV.step
  rw [if_neg hn, LV.mid_op]
theorem step_V (L : LV) (t : Nat) (O : CO) : (L.step t O).V = stV L.V L.Y L.B O ∧ (L.step t O).Y = stY L.V L.Y L.B O ∧ (L.step t O).what = L.what ∧ (L.step t O).B = L.B := by
  unfold LV.step LV.mid
  split <;> split <;> exact ⟨rfl, rfl, rfl, rfl⟩
theorem step_m (hd : ¬ (O.done = false ∧ (stO L.V L.Y L.B O).done = true)) : (L.step t O).m = L.m ∧ (L.step t O).want = L.want := by
  unfold LV.step LV.mid
  rw [if_neg hd]
  split <;> exact ⟨rfl, rfl⟩
theorem step_e (hd : O.done = false ∧ (stO L.V L.Y L.B O).done = true) : (L.step t O).m = effM L.m (L.what t) ∧ (L.step t O).want = upd L.want t (effA L.m (L.what t)) := by
  unfold LV.step LV.mid
  rw [if_pos hd]
  split <;> exact ⟨rfl, rfl⟩
theorem dropsV_fit (Y : YV) (l : List (Int × Int × Int)) : ∀ V : AV, (dropsV Y V l).most = V.most ∧ (dropsV Y V l).live ≤ V.live := by
  induction l with
  | nil => intro V; exact ⟨rfl, Int.le_refl _⟩
  | cons x l ih =>
    intro V
    have h1 : (dropV Y V x).most = V.most ∧ (dropV Y V x).live ≤ V.live := by
      unfold dropV AV.free
      split
      · exact ⟨rfl, Int.le_refl _⟩
      · split
        · exact ⟨rfl, Int.le_refl _⟩
        · rename_i xs _
          refine ⟨rfl, ?_⟩
          show V.live - (xs.length : Nat) ≤ V.live
          omega
    obtain ⟨h2, h3⟩ := ih (dropV Y V x)
    exact ⟨h2.trans h1.1, Int.le_trans h3 h1.2⟩
theorem effM_len (m : RB) (A : AskV) : (effM m A).length = m.length := by
  unfold effM
  split
  · split
    · exact List.length_set
    · split
      · split
        · exact List.length_set
        · rfl
      · rfl
  · rfl
/-- What a step makes of an operation alone. -/
def SoloNext (N : Int) (t c : Nat) (A : AskV) (m0 : RB) (l0 most bound : Int) (L : LV) (O : CO) : Prop :=
  StepOk L t O (stO L.V L.Y L.B O) ∧ (((stO L.V L.Y L.B O).next ≠ 11 ∧ cost 200 (stO L.V L.Y L.B O) < cost 200 O ∧ ∃ r' ks', Solo (N + 1) r' ks' t c A m0 l0 most bound (L.step t O) (stO L.V L.Y L.B O)) ∨
    ((stO L.V L.Y L.B O).next = 11 ∧ Ended (N + 1) t c A m0 l0 most bound (L.step t O) (stO L.V L.Y L.B O)))
theorem Solo.step (h : Solo N r ks t c A m0 l0 most bound L O) (hv : L.V.Ok) (hN : N < 100000000000000) : SoloNext N t c A m0 l0 most bound L O := by
  obtain ⟨sok, r', ks', gi'⟩ := h.gi.step hv hN h.t9 h.op (.inl rfl)
  have hcost : (stO L.V L.Y L.B O).next ≠ 11 → cost 200 (stO L.V L.Y L.B O) < cost 200 O := by
    intro hn
    obtain ⟨ks2, hl⟩ := h.gi.less hv h.t9 h.op
    have hnl : ¬ late ks O := fun hx => hx.2.2 (by
      have hp := (h.gi.op t O h.t9 h.op).2
      have hc := hp.ch
      rw [h.what, h.chain] at hc
      have : (O.chain - 1).toNat = c := by omega
      rw [this]; exact h.fit hx.1 hx.2.1)
    have e1 := cst_not (M := 200) hnl
    rcases hl.less with h1 | ⟨_, h1⟩ | ⟨_, _, h1⟩
    · exact absurd h1 hn
    · have := cst_le 200 ks (stO L.V L.Y L.B O); omega
    · have := cst_le 200 ks2 (stO L.V L.Y L.B O); omega
  obtain ⟨t1, hp⟩ := h.gi.op t O h.t9 h.op
  obtain ⟨a1, a2, a3, a4, a5, a6, a7, a8, a9, av, st⟩ := hp
  rw [h.what] at a2 a3 a4 a5 st
  have hch : O.chain = (c : Int) + 1 := by rw [a3]; exact h.chain
  have hcn : (O.chain - 1).toNat = c := by omega
  have hml : L.m.length = m0.length := by
    cases hd : O.done with
    | false => rw [(h.pre hd).1]
    | true => rw [(h.post hd).1]; exact effM_len _ _
  have hcl : c < L.m.length := by rw [hml]; exact h.cm
  have hcell := h.gi.cell hcl hch
  have htouch : L.V.touch L.B.block = L.V := AV.touch_hit h.gi.blk
  obtain ⟨sV, sY, sw, sB⟩ := step_V L t O
  -- the end of all stages but the last
  have fin : ∀ (V' : AV) (Y' : YV) (O' : CO), stV L.V L.Y L.B O = V' → stY L.V L.Y L.B O = Y' → stO L.V L.Y L.B O = O' → O'.next ≠ 11 → O'.next ≠ 8 → V'.most = L.V.most → Y'.bound = L.Y.bound → Y'.limbo.length ≤ 1 → (1 ≤ O'.next → O'.next ≤ 9 → ∀ p ∈ Y'.limbo, p.2.2 < Y'.since t) →
      (2 ≤ O'.next → O'.next ≤ 7 → ∀ ks2, V'.find L.B.block = some ks2 → ks2.getD c 0 = O'.old) → (O'.done = false → O'.next ≤ 5 ∨ O'.next = 10 → V'.live ≤ l0) → V'.live ≤ l0 + (grow A (m0.getD c ([], 0)).1 : Nat) →
      (O'.next = 10 → O'.done = false → O'.err = 3 ∧ A.kind < 3 ∧ 200 ≤ (m0.getD c ([], 0)).1.length) → SoloNext N t c A m0 l0 most bound L O := by
    intro V' Y' O' eV eY eO n11 n8 hmo hbo hl1 hlT hfit hpl hliv hno
    refine ⟨sok, .inl ⟨by rw [eO]; exact n11, hcost (by rw [eO]; exact n11), r', ks', ?_⟩⟩
    have hop := next_op h.t9 h.op (by rw [eO]; exact n11)
    have hks : V'.find L.B.block = some ks' := by have := gi'.blk; rw [sV, sB, eV] at this; exact this
    rw [eO]
    have hwas : O.done = true → O'.done = true := by have := sok.was; rw [eO] at this; exact this
    have hmw : (O'.done = false → (L.step t O).m = m0) ∧ (O'.done = true → (L.step t O).m = effM m0 A ∧ (L.step t O).want t = effA m0 A) := by
      cases hd : O.done with
      | true =>
        have hd2 := hwas hd
        obtain ⟨e1, e2⟩ := step_m (L := L) (t := t) (O := O) (by rw [hd]; intro hx; exact absurd hx.1 (by decide))
        rw [e1, e2]
        exact ⟨fun hx => by rw [hd2] at hx; exact absurd hx (by decide), fun _ => h.post hd⟩
      | false =>
        cases hd2 : O'.done with
        | false =>
          obtain ⟨e1, e2⟩ := step_m (L := L) (t := t) (O := O) (by rw [eO, hd2]; intro hx; exact absurd hx.2 (by decide))
          rw [e1]
          exact ⟨fun _ => (h.pre hd).1, fun hx => absurd hx (by decide)⟩
        | true =>
          obtain ⟨e1, e2⟩ := step_e (L := L) (t := t) (O := O) (by rw [eO, hd2]; exact ⟨hd, rfl⟩)
          rw [e1, e2, h.what, (h.pre hd).1, upd_same]
          exact ⟨fun hx => absurd hx (by decide), fun _ => ⟨rfl, rfl⟩⟩
    refine ⟨by rw [sV, eV, hmo]; exact h.mo, by rw [sY, eY, hbo]; exact h.bo, gi', h.t9, by rw [hop, upd_same, eO], fun i hi => by rw [hop, upd_ne _ _ hi]; exact h.alone i hi, by rw [sw]; exact h.what, h.chain, h.cm, h.bnd, by rw [sY, eY]; exact hl1, by rw [sY, eY]; exact hlT, fun q1 q2 => hfit q1 q2 ks' hks, n8, fun hd => ⟨hmw.1 hd, by rw [sV, eV]; exact hpl hd⟩, hmw.2, h.room, by rw [sV, eV]; exact hliv, hno⟩
  have hliv := h.liv
  have hl1 := h.lim1
  have keepY : ∀ {n' : Int}, 1 ≤ O.next → O.next ≤ 9 → (1 ≤ n' → n' ≤ 9 → ∀ p ∈ L.Y.limbo, p.2.2 < L.Y.since t) := fun h1 h2 _ _ => h.limT h1 h2
  have ksame : ∀ ks2, L.V.find L.B.block = some ks2 → ks2 = ks := fun ks2 hk => by rw [h.gi.blk] at hk; exact (Option.some.inj hk).symm
  have hw3 : A.kind = 3 ↔ O.what = 2 := by
    constructor
    · exact a4.2.2.1
    · intro hw
      by_cases b1 : A.kind = 1
      · have := a4.1 b1; omega
      by_cases b2 : A.kind = 2
      · have := a4.2.1 b2; omega
      by_cases b4 : A.kind = 4
      · have := a4.2.2.2 b4; omega
      omega
  have hwn4 : A.kind ≠ 4 → O.what ≠ 3 := fun hk hw => by
    by_cases b1 : A.kind = 1
    · have := a4.1 b1; omega
    by_cases b2 : A.kind = 2
    · have := a4.2.1 b2; omega
    by_cases b3 : A.kind = 3
    · have := a4.2.2.1 b3; omega
    omega
  cases st with
  | s0 n z d f =>
    have eV : stV L.V L.Y L.B O = L.V := by simp [stV, n]
    have hin : inB L.B O = true := by
      unfold inB
      rw [h.gi.chs, hch, decide_eq_true (by omega), decide_eq_true (by omega)]
      rfl
    have he : L.Y.enterErr O.t = 0 := by unfold YV.enterErr; rw [a1, h.gi.good h.t9 t1]; rw [a1] at z; rw [z]; rfl
    have eY : stY L.V L.Y L.B O = { L.Y with now := L.Y.now + 1, ent := L.Y.ent.set t (L.Y.now + 1) } := by
      simp only [stY, n]
      show enterY L.Y L.B O = _
      unfold enterY; rw [hin]; show L.Y.enter O.t = _; unfold YV.enter; rw [if_pos he, a1, Int.toNat_natCast]
    have eO : stO L.V L.Y L.B O = { O with next := 1 } := by
      simp only [stO, n]
      show enterO L.Y L.B O = _
      unfold enterO enterE; rw [hin]; show (if L.Y.enterErr O.t = 0 then _ else _) = _; rw [if_pos he]
    have hst : ({ L.Y with now := L.Y.now + 1, ent := L.Y.ent.set t (L.Y.now + 1) } : YV).since (t : Int) = L.Y.now + 1 := since_set_same L.Y _ _ (by rw [h.gi.ent]; exact h.t9)
    refine fin _ _ _ eV eY eO (by show (1 : Int) ≠ 11; decide) (by show (1 : Int) ≠ 8; decide) rfl rfl hl1 (fun _ _ p hp => ?_) (fun hx => absurd hx (by show ¬ (2 : Int) ≤ 1; decide)) (fun _ _ => (h.pre d).2 (.inl (by omega))) hliv (fun hx => absurd hx (by show ¬ (1 : Int) = 10; decide))
    rw [hst]
    have := (h.gi.lim p hp).2
    omega
  | s1 n d f =>
    have hs : 0 < L.Y.since O.t := (a7 (by omega)).1
    have hm : L.m = m0 := (h.pre d).1
    have hro : (rootO L.V L.B O).old = ks.getD c 0 := hcell
    by_cases h0 : (rootO L.V L.B O).old = 0
    · obtain ⟨dV, dY⟩ := h.decV (rootO L.V L.B O)
      have eV : stV L.V L.Y L.B O = L.V := by simp only [stV, n]; unfold root2V; rw [if_pos h0, htouch]; exact dV
      have eY : stY L.V L.Y L.B O = L.Y := by simp only [stY, n]; unfold root2Y; rw [if_pos h0]; exact dY
      have eO : stO L.V L.Y L.B O = decO L.V L.Y (rootO L.V L.B O) := by simp only [stO, n]; unfold root2O; rw [if_pos h0, htouch]; rfl
      obtain ⟨hn, hno⟩ := h.dec (O2 := rootO L.V L.B O) (K := []) f rfl hwn4 a4.2.2.2 hw3
      refine fin _ _ _ eV eY eO (by omega) (by omega) rfl rfl hl1 (keepY (by omega) (by omega)) (fun _ _ ks2 hk => ?_) (fun _ _ => (h.pre d).2 (.inl (by omega))) hliv (fun h10 hd => ?_)
      · rw [ksame ks2 hk, dec_old, hro]
      · rcases hno h10 with h4 | ⟨_, _, h5⟩
        · have hdd : (decO L.V L.Y (rootO L.V L.B O)).done = true := by
            unfold decO
            rw [if_pos (show (rootO L.V L.B O).what = 3 from a4.2.2.2 h4)]
            show (if O.what = 3 then true else O.done) = true
            rw [if_pos (a4.2.2.2 h4)]
          rw [hdd] at hd; exact absurd hd (by decide)
        · exact absurd h5 (by decide)
    · have eV : stV L.V L.Y L.B O = L.V := by simp only [stV, n]; unfold root2V; rw [if_neg h0, htouch]; rfl
      have eY : stY L.V L.Y L.B O = L.Y := by simp only [stY, n]; unfold root2Y; rw [if_neg h0]; rfl
      have eO : stO L.V L.Y L.B O = rootO L.V L.B O := by simp only [stO, n]; unfold root2O; rw [if_neg h0]; rfl
      exact fin _ _ _ eV eY eO (by show (2 : Int) ≠ 11; decide) (by show (2 : Int) ≠ 8; decide) rfl rfl hl1 (keepY (by omega) (by omega)) (fun _ _ ks2 hk => by rw [ksame ks2 hk, hro]) (fun _ _ => (h.pre d).2 (.inl (by omega))) hliv (fun hx => absurd hx (by show ¬ (2 : Int) = 10; decide))
  | s2 K n d f hh fd al =>
    have eV : stV L.V L.Y L.B O = L.V := by simp [stV, n, AV.touch_hit hh.find]
    have eY : stY L.V L.Y L.B O = L.Y := by simp [stY, n]
    have eO : stO L.V L.Y L.B O = sizeO L.V O := by simp [stO, n]
    exact fin _ _ _ eV eY eO (by show (3 : Int) ≠ 11; decide) (by show (3 : Int) ≠ 8; decide) rfl rfl hl1 (keepY (by omega) (by omega)) (fun _ _ ks2 hk => by rw [ksame ks2 hk]; exact h.fit (by omega) (by omega)) (fun hd _ => (h.pre hd).2 (.inl (by omega))) hliv (fun hx => absurd hx (by show ¬ (3 : Int) = 10; decide))
  | s3 K n d f hh fd lt ct al =>
    have hvv : L.V.val O.old (O.found.length : Nat) = K[O.found.length] := AV.val_hit hh.find lt
    have hr : readO L.V O = { O with found := O.found ++ [K[O.found.length]] } := by unfold readO; rw [hvv]
    have hlen : (O.found ++ [K[O.found.length]]).length = O.found.length + 1 := by simp
    have htk : O.found ++ [K[O.found.length]] = K.take (O.found.length + 1) := by rw [List.take_succ_eq_append_getElem lt, ← fd]
    by_cases hl : O.found.length + 1 = K.length
    · have hc : ((readO L.V O).found.length : Int) = O.count := by rw [hr, ct]; show ((O.found ++ [K[O.found.length]]).length : Int) = _; rw [hlen]; omega
      have hfd : (readO L.V O).found = K := by rw [hr]; show O.found ++ [K[O.found.length]] = K; rw [htk, hl, List.take_length]
      obtain ⟨dV, dY⟩ := h.decV (readO L.V O)
      have eV : stV L.V L.Y L.B O = L.V := by simp only [stV, n]; unfold read2V; rw [if_pos hc, AV.touch_hit hh.find]; exact dV
      have eY : stY L.V L.Y L.B O = L.Y := by simp only [stY, n]; unfold read2Y; rw [if_pos hc]; exact dY
      have eO : stO L.V L.Y L.B O = decO L.V L.Y (readO L.V O) := by simp only [stO, n]; unfold read2O; rw [if_pos hc, AV.touch_hit hh.find]; rfl
      obtain ⟨hn, hno⟩ := h.dec (O2 := readO L.V O) (K := K) f hfd hwn4 a4.2.2.2 hw3
      have hdd : (decO L.V L.Y (readO L.V O)).done = O.done := by
        unfold decO
        split
        · rfl
        · split
          · rfl
          · split
            · rfl
            · split <;> rfl
      refine fin _ _ _ eV eY eO (by omega) (by omega) rfl rfl hl1 (keepY (by omega) (by omega)) (fun _ _ ks2 hk => ?_) (fun hd _ => (h.pre (hdd ▸ hd)).2 (.inl (by omega))) hliv (fun h10 hd => ?_)
      · rw [ksame ks2 hk, dec_old]; exact h.fit (by omega) (by omega)
      · rw [hdd] at hd
        rcases hno h10 with h4 | ⟨h5, h6, h7⟩
        · rw [d, decide_eq_true h4] at hd; exact absurd hd (by decide)
        · have hK := seen (h.gi.ch c hcl) (Or.inr hh : Held 200 N L.V L.Y r O K) (h.fit (by omega) (by omega))
          rw [(h.pre hd).1] at hK
          refine ⟨h5, ?_, by rw [hK]; exact h7⟩
          have : A.kind ≠ 4 := fun h4 => by rw [d, decide_eq_true h4] at hd; exact absurd hd (by decide)
          omega
    · have hc : ¬ ((readO L.V O).found.length : Int) = O.count := by rw [hr, ct]; show ¬ ((O.found ++ [K[O.found.length]]).length : Int) = _; rw [hlen]; omega
      have eV : stV L.V L.Y L.B O = L.V := by simp only [stV, n]; unfold read2V; rw [if_neg hc, AV.touch_hit hh.find]; rfl
      have eY : stY L.V L.Y L.B O = L.Y := by simp only [stY, n]; unfold read2Y; rw [if_neg hc]; rfl
      have eO : stO L.V L.Y L.B O = readO L.V O := by simp only [stO, n]; unfold read2O; rw [if_neg hc]; rfl
      exact fin _ _ _ eV eY eO (by show O.next ≠ 11; omega) (by show O.next ≠ 8; omega) rfl rfl hl1 (keepY (by omega) (by omega)) (fun _ _ ks2 hk => by rw [ksame ks2 hk]; exact h.fit (by omega) (by omega)) (fun hd _ => (h.pre hd).2 (.inl (by omega))) hliv (fun hx => absurd hx (by show ¬ O.next = 10; omega))
  | s4 K n d f hh fd kd no =>
    have hfit := h.fit (by omega) (by omega)
    have eV : stV L.V L.Y L.B O = L.V := by simp [stV, n, htouch]
    have eY : stY L.V L.Y L.B O = L.Y := by simp [stY, n]
    have eO : stO L.V L.Y L.B O = { O with done := true, err := 0, ok := false, stamp := O.st, values := [], next := 10 } := by
      simp only [stO, n]
      show chkO L.V L.B O = _
      unfold chkO
      rw [if_neg (by rw [hcell, hfit]; exact fun hx => hx rfl)]
    exact fin _ _ _ eV eY eO (by show (10 : Int) ≠ 11; decide) (by show (10 : Int) ≠ 8; decide) rfl rfl hl1 (keepY (by omega) (by omega)) (fun _ hx => absurd hx (by show ¬ (10 : Int) ≤ 7; decide)) (fun hd => absurd hd (by show ¬ true = false; decide)) hliv (fun _ hd => absurd hd (by show ¬ true = false; decide))
  | s5 K n d f hh tb =>
    have hfit := h.fit (by omega) (by omega)
    have hK := seen (h.gi.ch c hcl) hh hfit
    rw [(h.pre d).1] at hK
    have hll : O.list.length = grow A (m0.getD c ([], 0)).1 := by
      rw [tb.list, hK]
      unfold grow
      rw [if_neg (fun hx => by
        rcases hx with hx | ⟨hx, hy⟩
        · have := tb.kind; omega
        · have := tb.has hx; have hy : (K.drop 1).contains A.v = false := hy; rw [this] at hy; exact absurd hy (by decide))]
      rfl
    have hle : O.list.length ≤ (m0.getD c ([], 0)).1.length + 2 := by
      rw [tb.list, hK, List.length_cons]
      have := aft_len A (K.drop 1)
      show (aft A (K.drop 1)).length + 1 ≤ (K.drop 1).length + 2
      omega
    have hlv := (h.pre d).2 (.inl (by omega))
    have hroom := h.room
    have hmo := h.mo
    obtain ⟨hl1', hl2'⟩ := tb.len hh
    have he : L.V.allocErr (O.list.length : Nat) = 0 := AV.allocErr_eq (by omega) (by omega) (by omega)
    have hV : stV L.V L.Y L.B O = L.V.alloc O.list.length := by simp [stV, n]
    have eY : stY L.V L.Y L.B O = L.Y := by simp [stY, n]
    have eO : stO L.V L.Y L.B O = { O with fresh := L.V.made + 1, count := 0, next := 6 } := by
      simp only [stO, n]
      show bldO L.V O = _
      unfold bldO; rw [if_pos he]
    obtain ⟨m1, m2, m3, m4⟩ := AV.made_alloc he
    refine fin _ _ _ hV eY eO (by show (6 : Int) ≠ 11; decide) (by show (6 : Int) ≠ 8; decide) m3 rfl hl1 (keepY (by omega) (by omega)) (fun _ _ ks2 hk => ?_) (fun _ hx => absurd hx (by show ¬ ((6 : Int) ≤ 5 ∨ (6 : Int) = 10); decide)) (by rw [m2]; omega) (fun hx => absurd hx (by show ¬ (6 : Int) = 10; decide))
    rw [alloc_find _ h.gi.blk] at hk
    rw [← Option.some.inj hk]
    exact hfit
  | s6 K F c6 n d hh tb fr ct cl tk =>
    have hfit := h.fit (by omega) (by omega)
    have eV : stV L.V L.Y L.B O = L.V.set O.fresh c6 (O.list.getD c6 0) := by
      simp only [stV, n, ct, Int.toNat_natCast]
      unfold AV.store
      rw [AV.err_hit fr.find (by rw [fr.len]; omega)]
      rfl
    have eY : stY L.V L.Y L.B O = L.Y := by simp [stY, n]
    have eO : stO L.V L.Y L.B O = wrtO O := by simp [stO, n]
    have hnx : (wrtO O).next = 7 ∨ (wrtO O).next = 6 := by
      unfold wrtO
      simp only []
      split
      · exact .inl rfl
      · exact .inr rfl
    refine fin _ _ _ eV eY eO (by omega) (by omega) rfl rfl hl1 (keepY (by omega) (by omega)) (fun _ _ ks2 hk => ?_) (fun _ hx => by omega) hliv (fun hx => by omega)
    rw [find_set, if_neg (fun e => by have := fr.role; rw [← e, h.gi.blkr] at this; cases this)] at hk
    rw [ksame ks2 hk]
    exact hfit
  | s7 K n d hh tb fr =>
    have hfit := h.fit (by omega) (by omega)
    have hcok := h.gi.cellok hcl hch
    have hok : L.V.swapOk L.B.block (O.chain - 1) O.old = true := by unfold AV.swapOk; rw [hcok, hcell, hfit]; simp
    have eV : stV L.V L.Y L.B O = L.V.set L.B.block (O.chain - 1) O.fresh := by simp only [stV, n]; show L.V.swap L.B.block (O.chain - 1) O.old O.fresh = _; unfold AV.swap; rw [hok]; rfl
    have eY : stY L.V L.Y L.B O = L.Y := by simp [stY, n]
    have eO : stO L.V L.Y L.B O = { O with done := true, err := 0, ok := true, stamp := hd0 O.list, values := [], fresh := 0, next := if O.old = 0 then 10 else 9 } := by
      simp only [stO, n]
      show swapO L.V L.B O = _
      unfold swapO; rw [if_pos hok]
    have hnx : (if O.old = 0 then (10 : Int) else 9) = 10 ∨ (if O.old = 0 then (10 : Int) else 9) = 9 := by split <;> simp
    exact fin _ _ _ eV eY eO (by show (if O.old = 0 then (10 : Int) else 9) ≠ 11; omega) (by show (if O.old = 0 then (10 : Int) else 9) ≠ 8; omega) rfl rfl hl1 (keepY (by omega) (by omega)) (fun _ hx => absurd hx (by show ¬ (if O.old = 0 then (10 : Int) else 9) ≤ 7; omega)) (fun hd => absurd hd (by show ¬ true = false; decide)) hliv (fun _ hd => absurd hd (by show ¬ true = false; decide))
  | s8 F n => exact absurd n h.n8
  | s9 K n d f hh g an =>
    have eV : stV L.V L.Y L.B O = retireV L.Y L.V t O.old := by simp [stV, n, a1]
    have eY : stY L.V L.Y L.B O = L.Y.retire L.V t O.old := by simp [stY, n, a1]
    have eO : stO L.V L.Y L.B O = { O with next := 10 } := by simp [stO, n]
    have hnone : L.Y.sweep.limbo = [] := by
      show keptL L.Y L.Y.limbo = []
      unfold keptL
      rw [List.filter_eq_nil_iff]
      intro p hp hh
      have hlt := h.limT (by omega) (by omega) p hp
      unfold YV.held at hh
      rw [List.any_eq_true] at hh
      obtain ⟨x, hx, hxx⟩ := hh
      unfold holdsB at hxx
      simp only [Bool.and_eq_true, decide_eq_true_eq] at hxx
      obtain ⟨i, hi, hix⟩ := List.getElem_of_mem hx
      rw [h.gi.ent] at hi
      have hsi : L.Y.since (i : Int) = x := by rw [since_nat, List.getD_eq_getElem?_getD, List.getElem?_eq_getElem (by rw [h.gi.ent]; exact hi), hix]; rfl
      by_cases hit : i = t
      · subst hit; omega
      · have := h.gi.idle i hi (h.alone i hit)
        omega
    have hfe : L.V.freeErr O.old = 0 := by unfold AV.freeErr; rw [hh.find]
    have hVf : (retireV L.Y L.V t O.old).most = L.V.most ∧ (retireV L.Y L.V t O.old).live ≤ L.V.live := by
      unfold retireV
      rw [h.gi.good h.t9 t1, if_neg (by decide)]
      by_cases ha : anyR L.Y O.old = true
      · rw [if_pos ha]; exact ⟨rfl, Int.le_refl _⟩
      · rw [if_neg ha, if_pos hfe]; exact dropsV_fit _ _ _
    have hYf : (L.Y.retire L.V t O.old).bound = L.Y.bound ∧ (L.Y.retire L.V t O.old).limbo.length ≤ 1 := by
      unfold YV.retire
      rw [h.gi.good h.t9 t1, if_neg (by decide)]
      by_cases ha : anyR L.Y O.old = true
      · rw [if_pos ha]; exact ⟨rfl, hl1⟩
      · rw [if_neg ha, if_pos hfe]
        split
        · exact ⟨rfl, by rw [hnone]; simp⟩
        · refine ⟨rfl, ?_⟩
          show (L.Y.sweep.limbo ++ [(O.old, (t : Int), L.Y.sweep.now + 1)]).length ≤ 1
          rw [hnone]; simp
    exact fin _ _ _ eV eY eO (by show (10 : Int) ≠ 11; decide) (by show (10 : Int) ≠ 8; decide) hVf.1 hYf.1 hYf.2 (fun _ hx => absurd hx (by show ¬ (10 : Int) ≤ 9; decide)) (fun _ hx => absurd hx (by show ¬ (10 : Int) ≤ 7; decide)) (fun hd => by have hd : O.done = false := hd; rw [d] at hd; exact absurd hd (by decide)) (by omega) (fun _ hd => by have hd : O.done = false := hd; rw [d] at hd; exact absurd hd (by decide))
  | s10 n f an no =>
    have eV : stV L.V L.Y L.B O = L.V := by simp [stV, n]
    have eO : stO L.V L.Y L.B O = { O with next := 11 } := by simp [stO, n]
    have hYf : (stY L.V L.Y L.B O).bound = L.Y.bound ∧ (stY L.V L.Y L.B O).limbo = L.Y.limbo := by
      simp only [stY, n]
      show (L.Y.leave O.t).bound = _ ∧ (L.Y.leave O.t).limbo = _
      unfold YV.leave
      split <;> exact ⟨rfl, rfl⟩
    refine ⟨sok, .inr ⟨by rw [eO], ?_⟩⟩
    have hop : (L.step t O).op = upd L.op t none := by
      unfold LV.step
      rw [if_pos (by rw [eO])]
    obtain ⟨e1, e2⟩ := step_m (L := L) (t := t) (O := O) (by rw [eO]; intro hx; rw [show ({ O with next := 11 } : CO).done = O.done from rfl, hx.1] at hx; exact absurd hx.2 (by decide))
    refine ⟨⟨r', ks', gi'⟩, fun i => ?_, by rw [sV, eV]; exact h.mo, by rw [sY, hYf.1]; exact h.bo, by rw [sY, hYf.2]; exact hl1, ?_⟩
    · rw [hop]
      by_cases hit : i = t
      · subst hit; exact upd_same _ _ _
      · rw [upd_ne _ _ hit]; exact h.alone i hit
    · rw [eO, e1, sV, eV]
      cases hd : O.done with
      | true =>
        obtain ⟨p1, p2⟩ := h.post hd
        refine .inl ⟨rfl, p1, hliv, ?_⟩
        have := an hd
        rw [p2] at this
        exact this.symm
      | false =>
        obtain ⟨q1, q2, q3⟩ := h.no n hd
        obtain ⟨w1, w2, w3, w4⟩ := no hd
        exact .inr ⟨rfl, (h.pre hd).1, (h.pre hd).2 (.inr n), q2, q3, q1, w1, w2, w3⟩
end
end Go.Proofs.Ytefhngbeodnldaa
