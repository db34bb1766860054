/- Layer 5, plain: operations one behind the other; a script of one operation and its end. No program in sight. -/
import Derived.Test.YtefhngbeodnldaaChainSolo
set_option linter.unusedVariables false
set_option linter.unusedSimpArgs false
namespace Go.Proofs.Ytefhngbeodnldaa
open Go.RowKit Go.PM
def fullM (m : RB) (A : AskV) : Prop := A.kind < 3 ∧ 200 ≤ (mAt m A).1.length
instance (m : RB) (A : AskV) : Decidable (fullM m A) := inferInstanceAs (Decidable (_ ∧ _))
def seqM (m : RB) (A : AskV) : RB := if fullM m A then m else effM m A
def seqG (m : RB) (A : AskV) : Nat := if fullM m A then 0 else grow A (mAt m A).1
/-- Nobody is under way. -/
structure Idle (N : Int) (m : RB) (l most bound : Int) (L : LV) : Prop where
  gi : ∃ r ks, GI 200 N r ks L
  alone : ∀ i, L.op i = none
  m : L.m = m
  live : L.V.live ≤ l
  mo : L.V.most = most
  bo : L.Y.bound = bound
  lim1 : L.Y.limbo.length ≤ 1
theorem GI.mono {M : Nat} {N N' : Int} {r : Int → Role} {ks : List Int} {L : LV} (h : GI M N r ks L) (hN : N ≤ N') : GI M N' r ks L :=
  ⟨h.m200, h.bd.mono hN, h.bound, h.f0, h.ent, h.lim, h.snow, h.blk, h.blkr, h.len, h.chs, h.m64, fun c hc => (h.ch c hc).mono hN fun K _ h1 h2 => ⟨h1, h2⟩, fun t O ht ho => ⟨(h.op t O ht ho).1, (h.op t O ht ho).2.move Env.refl hN⟩, h.idle⟩
theorem Idle.mono {N N' : Int} {m : RB} {l l' most bound : Int} {L : LV} (h : Idle N m l most bound L) (hN : N ≤ N') (hl : l ≤ l') : Idle N' m l' most bound L := by
  obtain ⟨r, ks, hg⟩ := h.gi
  exact ⟨⟨r, ks, hg.mono hN⟩, h.alone, h.m, Int.le_trans h.live hl, h.mo, h.bo, h.lim1⟩
theorem Idle.shows {N : Int} {m : RB} {l most bound : Int} {L : LV} (h : Idle N m l most bound L) (hv : L.V.Ok) : Shows L := by
  obtain ⟨r, ks, hg⟩ := h.gi
  exact hg.shows hv
theorem Ended.idle {N : Int} {t c : Nat} {A : AskV} {m0 : RB} {l0 most bound : Int} {L : LV} {O : CO} (h : Ended N t c A m0 l0 most bound L O) (hc : c < m0.length) (ha : A.chain = (c : Int) + 1) (hk : 1 ≤ A.kind) : Idle N (seqM m0 A) (l0 + (seqG m0 A : Nat)) most bound L := by
  obtain ⟨e1, e2, e3⟩ := eff_at hc ha
  obtain ⟨r, ks, hg⟩ := h.gi
  rcases h.out with ⟨h1, h2, h3, h4⟩ | ⟨h1, h2, h3, h4, h5, h6, h7⟩
  · have hnf : ¬ fullM m0 A := fun ⟨f1, f2⟩ => by
      have hx := hg.ch c (by rw [h2, effM_len]; exact hc)
      obtain ⟨g1, -⟩ := eff_set (A := A) hc ha ⟨hk, by omega⟩ (by omega)
      rw [h2, g1] at hx
      have hx2 : (m0.set c (aft A (m0.getD c ([], 0)).1, (m0.getD c ([], 0)).2 + 1)).getD c ([], 0) = (aft A (m0.getD c ([], 0)).1, (m0.getD c ([], 0)).2 + 1) := by
        rw [List.getD_eq_getElem?_getD, List.getElem?_set_self hc]; rfl
      rw [hx2] at hx
      rw [e2] at f2
      have hl : (aft A (m0.getD c ([], 0)).1).length = (m0.getD c ([], 0)).1.length + 1 := by
        unfold aft addL
        rw [if_neg (by omega)]
        split <;> simp
      rcases hx with ⟨_, hx⟩ | ⟨_, _, _, hx, _⟩
      · have := congrArg (fun p : List Int × Int => p.1.length) hx
        simp only [hl] at this
        exact absurd this (by simp)
      · have hx : (aft A (m0.getD c ([], 0)).1).length ≤ 200 := hx
        omega
    refine ⟨⟨r, ks, hg⟩, h.alone, by unfold seqM; rw [if_neg hnf]; exact h2, by unfold seqG; rw [if_neg hnf, e2]; exact h3, h.mo, h.bo, h.lim1⟩
  · have hf : fullM m0 A := ⟨h4, by rw [e2]; exact h5⟩
    exact ⟨⟨r, ks, hg⟩, h.alone, by unfold seqM; rw [if_pos hf]; exact h2, by unfold seqG; rw [if_pos hf]; show L.V.live ≤ l0 + 0; omega, h.mo, h.bo, h.lim1⟩
/-- An operation alone begins. -/
theorem Idle.begin {N : Int} {m : RB} {l most bound : Int} {L : LV} (h : Idle N m l most bound L) {t c : Nat} (ht : t < 9) (t1 : 1 ≤ t) {o : AskV} (hot : o.t = (t : Int)) (hk : 1 ≤ o.kind ∧ o.kind ≤ 4) (hc : c < m.length) (ha : o.chain = (c : Int) + 1)
    (hb : 2 ≤ bound) (hroom : l + ((m.getD c ([], 0)).1.length + 2 : Nat) ≤ most) : ∃ r ks, Solo N r ks t c o m l most bound (L.start t o) o.op ∧ cost 200 o.op ≤ 410 := by
  obtain ⟨r, ks, hg⟩ := h.gi
  have hO : o.op.next = 0 ∧ o.op.done = false := by
    unfold AskV.op CO.begin
    split
    · exact ⟨rfl, rfl⟩
    · split
      · exact ⟨rfl, rfl⟩
      · split <;> exact ⟨rfl, rfl⟩
  have hlive := h.live
  refine ⟨r, ks, ⟨h.mo, h.bo, hg.start ht t1 hot hk (h.alone t), ht, upd_same _ _ _, fun i hi => by show upd L.op t (some o.op) i = none; rw [upd_ne _ _ hi]; exact h.alone i, upd_same _ _ _, ha, hc, hb, h.lim1, fun hx => by rw [hO.1] at hx; omega, fun hx => by rw [hO.1] at hx; omega, by rw [hO.1]; decide, fun _ => ⟨h.m, fun _ => hlive⟩, fun hx => by rw [hO.2] at hx; exact absurd hx (by decide), hroom, by show L.V.live ≤ _; omega, fun hx => by rw [hO.1] at hx; omega⟩, ?_⟩
  unfold cost
  rw [if_pos hO.1]
  omega
/-- What is so ahead of each entry of such a script. -/
def seqI (N : Int) (m : RB) (l most bound : Int) (t c : Nat) (o : AskV) : Nat → LV → Prop
  | 0, L => Idle N m l most bound L
  | 1, L => ∃ r ks O, Solo N r ks t c o m l most bound L O ∧ cost 200 O ≤ 410
  | _, L => Idle (N + 500) (seqM m o) (l + (seqG m o : Nat)) most bound L
def seqJ (N : Int) (m : RB) (l most bound : Int) (t c : Nat) (o : AskV) (i n : Nat) (L : LV) : Prop :=
  i = 1 ∧ ((∃ N' r ks O, N' ≤ N + n ∧ Solo N' r ks t c o m l most bound L O ∧ n + cost 200 O ≤ 410) ∨ Idle (N + 500) (seqM m o) (l + (seqG m o : Nat)) most bound L)
theorem seqPlay {N : Int} {m : RB} {l most bound : Int} {t c : Nat} {o : AskV} (hN : N < 90000000000000) (ht : t < 9) (t1 : 1 ≤ t) (hot : o.t = (t : Int)) (hk : 1 ≤ o.kind ∧ o.kind ≤ 4) (hc : c < m.length) (ha : o.chain = (c : Int) + 1) (hb : 2 ≤ bound) (hroom : l + ((m.getD c ([], 0)).1.length + 2 : Nat) ≤ most) :
    PlayOk [o, ⟨5, t, 0, 0⟩] (seqI N m l most bound t c o) (fun i => seqI N m l most bound t c o (i + 1)) (seqJ N m l most bound t c o) := by
  have htn : o.t.toNat = t := by omega
  have hpos : ∀ O : CO, 1 ≤ cost 200 O := fun O => by
    unfold cost
    repeat' split
    all_goals omega
  refine ⟨fun i hi => ?_, fun i hi L hI h5 => ?_, fun i hi n L O hJ h5 hv ho => ?_, fun i hi n L hJ h5 ho => ?_, fun i hi L hI h5 ho => ?_, fun i hi L O hI h5 ho => ?_, fun i L hM hv => ?_, fun i L hM => hM⟩
  · match i, hi with
    | 0, _ => show 1 ≤ o.t ∧ o.t ≤ 8 ∧ 1 ≤ o.kind ∧ o.kind ≤ 5; omega
    | 1, _ => show 1 ≤ (t : Int) ∧ (t : Int) ≤ 8 ∧ (1 : Int) ≤ 5 ∧ (5 : Int) ≤ 5; omega
  · match i, hi with
    | 0, _ => have h5 : o.kind = 5 := h5; omega
    | 1, _ =>
      obtain ⟨r, ks, O, h1, h2⟩ := hI
      exact ⟨rfl, .inl ⟨N, r, ks, O, by omega, h1, by omega⟩⟩
  · match i, hi with
    | 0, _ => exact absurd hJ.1 (by decide)
    | 1, _ =>
      have ho : L.op ((t : Int)).toNat = some O := ho
      rw [Int.toNat_natCast] at ho
      show n ≤ 40000 ∧ StepOk L ((t : Int)).toNat O _ ∧ seqJ N m l most bound t c o 1 (n + 1) (L.step ((t : Int)).toNat O)
      rw [Int.toNat_natCast]
      rcases hJ.2 with ⟨N', r, ks, O2, h1, h2, h3⟩ | h1
      · have he : O2 = O := by have := h2.op; rw [ho] at this; exact (Option.some.inj this).symm
        subst he
        have hp := hpos O2
        obtain ⟨s1, s2⟩ := h2.step hv (by omega)
        refine ⟨by omega, s1, rfl, ?_⟩
        rcases s2 with ⟨q1, q2, r', ks', q3⟩ | ⟨q1, q2⟩
        · exact .inl ⟨N' + 1, r', ks', _, by omega, q3, by omega⟩
        · exact .inr ((q2.idle hc ha hk.1).mono (by omega) (Int.le_refl _))
      · rw [h1.alone t] at ho; cases ho
  · match i, hi with
    | 0, _ => exact absurd hJ.1 (by decide)
    | 1, _ =>
      have ho : L.op ((t : Int)).toNat = none := ho
      rw [Int.toNat_natCast] at ho
      rcases hJ.2 with ⟨N', r, ks, O2, h1, h2, h3⟩ | h1
      · rw [h2.op] at ho; cases ho
      · exact h1
  · match i, hi with
    | 0, _ =>
      show seqI N m l most bound t c o 1 (L.start o.t.toNat o)
      rw [htn]
      obtain ⟨r, ks, h1, h2⟩ := Idle.begin hI ht t1 hot hk hc ha hb hroom
      exact ⟨r, ks, _, h1, h2⟩
    | 1, _ => exact absurd rfl h5
  · match i, hi with
    | 0, _ => have hI : Idle N m l most bound L := hI; rw [hI.alone] at ho; cases ho
    | 1, _ => exact absurd rfl h5
  · match i with
    | 0 => obtain ⟨r, ks, O, h1, h2⟩ := hM; exact h1.gi.shows hv
    | i + 1 => exact Idle.shows hM hv
end Go.Proofs.Ytefhngbeodnldaa
