/- ChainAlone: operations one behind the other change a chain as a plain list: the walk. -/
import Derived.Test.YtefhngbeodnldaaChainAlive
import Derived.Test.YtefhngbeodnldaaArgBools
set_option maxRecDepth 20000
set_option linter.unusedVariables false
set_option linter.unusedSimpArgs false
namespace Go.Proofs.Ytefhngbeodnldaa
open Go.RowKit Go.PM
/-- The cells that lists of 1 to n numbers more take, one behind the other. -/
def tri : Nat → Nat
  | 0 => 0
  | n + 1 => tri n + (n + 2)
theorem tri_mono : ∀ {n m : Nat}, n ≤ m → tri n ≤ tri m
  | n, 0, h => by
    have : n = 0 := by omega
    subst this
    exact Nat.le_refl _
  | n, m + 1, h => by
    by_cases e : n = m + 1
    · subst e; exact Nat.le_refl _
    · exact Nat.le_trans (tri_mono (show n ≤ m by omega)) (Nat.le_add_right _ _)
theorem tri_200 : tri 200 = 20300 := by decide
theorem tri_le {n : Nat} (h : n ≤ 200) : tri n ≤ 20300 := by have := tri_mono h; rw [tri_200] at this; exact this
section
variable {w w' : World} {own own' : Nat → Nat} {q : Nat} {P : LB} {L : LV} {ad : Nat → Nat}
/-- An operation that stands in no row has been stepped. -/
theorem LAt.stepped0 {V' : AV} {Y' : YV} {O' : CO} {o : Nat} (h : LAt q P L ad w own) (hop : ∀ i, L.op i = none) (hc : CPost q (q + 14) P.a P.y P.b o V' Y' L.B O' w own w') :
    ∃ own', LAt q P { L with V := V', Y := Y' } ad w' own' ∧ CAt w' own' (q + 14) o P.b O' ∧ Ext (PlayC q) w w' own own' := by
  obtain ⟨own', ev, lw, hE, hA, hY, hB, hO⟩ := hc
  obtain ⟨h1, -, h3, ⟨mv, h4, h5⟩, h6, h7, h8, ⟨vs, h9, h10⟩, h11⟩ := h
  have hk : ∀ k, q + 3 ≤ k → k < q + 14 → ¬ (k = q + 1 ∨ k = q + 2 ∨ OpC (q + 14) k) := fun k hk1 hk2 hm => by rcases hm with h | h | ⟨h, _⟩ <;> omega
  have hcc : ∀ g, g < w.heap.size → own g = q + 6 → w'.heap[g]? = w.heap[g]? ∧ own' g = q + 6 := fun g hg ho => ⟨hE.same g hg (by rw [ho]; exact hk _ (by omega) (by omega)), by rw [hE.col g hg]; exact ho⟩
  refine ⟨own', ⟨hA, ⟨ev, lw, hY⟩, hB, ⟨mv, h4.ext hE (hk _ (by omega) (by omega)), h5.carry hE.size hcc⟩, h6.ext hE (hk _ (by omega) (by omega)), h7.ext hE (hk _ (by omega) (by omega)), h8.ext hE (hk _ (by omega) (by omega)), ⟨vs, h9.ext hE (hk _ (by omega) (by omega)), fun t ht => (h10 t ht).carry hE.size hcc⟩, fun t O ht ho => ?_⟩, hO, hE.mono (fun c hm => ?_)⟩
  · have ho : L.op t = some O := ho
    rw [hop t] at ho
    cases ho
  · unfold PlayC
    rcases hm with h | h | ⟨h, h2⟩ <;> omega
end
theorem GI.as {M : Nat} {N : Int} {r : Int → Role} {ks : List Int} {L L2 : LV} (h : GI M N r ks L) (hV : L2.V = L.V) (hY : L2.Y = L.Y) (hB : L2.B = L.B) (hm : L2.m = L.m) (h1 : ∀ i, L.op i = none) (h2 : ∀ i, L2.op i = none) : GI M N r ks L2 := by
  refine ⟨h.m200, by rw [hV, hY]; exact h.bd, by rw [hY]; exact h.bound, by rw [hV]; exact h.f0, by rw [hY]; exact h.ent, by rw [hY]; exact h.lim, by rw [hY]; exact h.snow, by rw [hV, hB]; exact h.blk, by rw [hB]; exact h.blkr, by rw [hm]; exact h.len, by rw [hB, hm]; exact h.chs, by rw [hm]; exact h.m64, by rw [hm, hV]; exact h.ch, (fun t O _ ho => by rw [h2] at ho; cases ho), fun t ht _ => by rw [hY]; exact h.idle t ht (h1 t)⟩
theorem Idle.as {N : Int} {m : RB} {l most bound : Int} {L L2 : LV} (h : Idle N m l most bound L) (hV : L2.V = L.V) (hY : L2.Y = L.Y) (hB : L2.B = L.B) (hm : L2.m = L.m) (h2 : ∀ i, L2.op i = none) : Idle N m l most bound L2 := by
  obtain ⟨r, ks, hg⟩ := h.gi
  exact ⟨⟨r, ks, hg.as hV hY hB hm h.alone h2⟩, h2, by rw [hm]; exact h.m, by rw [hV]; exact h.live, by rw [hV]; exact h.mo, by rw [hY]; exact h.bo, by rw [hY]; exact h.lim1⟩
theorem Idle.lists0 {N : Int} {m : RB} {l most bound : Int} {L : LV} (h : Idle N m l most bound L) (c : Nat) : (m.getD c ([], 0)).1.length ≤ 200 := by
  obtain ⟨r, ks, hg⟩ := h.gi
  by_cases hc : c < m.length
  · have hx := hg.ch c (by rw [h.m]; exact hc)
    rw [h.m] at hx
    rcases hx with ⟨_, hx⟩ | ⟨_, _, _, hx, _⟩
    · rw [hx]; simp
    · exact hx
  · rw [List.getD_eq_getElem?_getD, List.getElem?_eq_none (by omega)]; simp
/-- The operation alone, while it runs: k steps are made. -/
def AlRun (P : LB) (L0 : LV) (ad : Nat → Nat) (o : Nat) (N : Int) (A : AskV) (m : RB) (l : Int) (w0 : World) (own0 : Nat → Nat) (g : Nat) (kv : Value) (wr : World) : Prop :=
  ∃ (k : Nat) (Lv : LV) (O : CO) (own' : Nat → Nat) (N' : Int) (r : Int → Role) (ks : List Int), kv = .int .i64 k ∧ k + g = 1000 ∧ LAt 100 P { L0 with V := Lv.V, Y := Lv.Y } ad wr own' ∧ CAt wr own' 114 o P.b O ∧ Lv.B = L0.B ∧ N' ≤ N + k ∧ Solo N' r ks 1 0 A m l 60000 64 Lv O ∧ k + cost 200 O ≤ 410 ∧ Ext (PlayC 100) w0 wr own0 own'
/-- Behind it. -/
def AlEnd (P : LB) (L0 : LV) (ad : Nat → Nat) (o : Nat) (N : Int) (A : AskV) (m : RB) (l : Int) (w0 : World) (own0 : Nat → Nat) (wr : World) : Prop :=
  ∃ (Lv : LV) (O : CO) (own' : Nat → Nat) (N' : Int), LAt 100 P { L0 with V := Lv.V, Y := Lv.Y } ad wr own' ∧ CAt wr own' 114 o P.b O ∧ Lv.B = L0.B ∧ N' ≤ N + 500 ∧ Ended N' 1 0 A m l 60000 64 Lv O ∧ O.next = 11 ∧ O.values.length ≤ 1000 ∧ Ext (PlayC 100) w0 wr own0 own'
/-- One step of it. -/
theorem CoAlStep_any {P : LB} {L0 : LV} {ad : Nat → Nat} {o : Nat} {N : Int} {A : AskV} {m : RB} {l : Int} {w0 wr : World} {own0 : Nat → Nat} {g : Nat} {k : Nat} (hop : ∀ i, L0.op i = none) (hN : N < 90000000000000) (h : AlRun P L0 ad o N A m l w0 own0 g (.int .i64 k) wr) :
    Calls Try.prog 9 #[.pointer (some ⟨o, 0, none⟩)] wr fun e w' => (e = .returned (.bool false) ∧ ∃ g', g' + 1 = g ∧ AlRun P L0 ad o N A m l w0 own0 g' (.int .i64 ((k + 1 : Nat) : Int)) w') ∨ (e = .returned (.bool true) ∧ AlEnd P L0 ad o N A m l w0 own0 w') := by
  obtain ⟨k', Lv, O, own', N', r, ks, hk, hg, hL, hO, hB, hN', hS, hc, hE⟩ := h
  injection hk with _ hk
  obtain rfl : k = k' := by omega
  have hv : Lv.V.Ok := hL.arena.1
  obtain ⟨sok, hnx⟩ := hS.step hv (by omega)
  have hyd := hL.yard
  obtain ⟨ev, lw, hY⟩ := hyd
  have hpos : ∀ O : CO, 1 ≤ cost 200 O := fun O => by
    unfold cost
    repeat' split
    all_goals omega
  have hsk : StOk Lv.V Lv.Y L0.B O := by rw [← hB]; exact sok.ok
  have hA' : Arena wr own' (100 + 1) P.a Lv.V := hL.arena
  have hY' : Yard wr own' (100 + 2) P.y P.a Lv.Y ev lw := hY
  have hB' : BaseAt wr own' (100 + 3) P.b P.a P.y L0.B := hL.base
  have hst := CoStep_any (q := 100) (ko := 114) (CPost.refl hA' hY' hB' hO) (by decide) hsk
  refine hst.mono ?_
  rintro e w' ⟨rfl, hc'⟩
  obtain ⟨own2, hL2, hO2, hE2⟩ := LAt.stepped0 (q := 100) (L := { L0 with V := Lv.V, Y := Lv.Y }) hL hop hc'
  obtain ⟨sV, sY, -, sB⟩ := step_V Lv 1 O
  have hp := hpos O
  rw [hB] at hnx sok sV sY
  rcases hnx with ⟨h1, h2, r', ks', h3⟩ | ⟨h1, h2⟩
  · refine .inl ⟨?_, g - 1, by omega, k + 1, Lv.step 1 O, _, own2, N' + 1, r', ks', rfl, by omega, ?_, hO2, by rw [sB]; exact hB, by omega, h3, by omega, hE.trans hE2⟩
    · have : ((stO Lv.V Lv.Y L0.B O).next == 11) = false := by rw [beq_eq_false_iff_ne]; exact h1
      show Ending.returned (.bool ((stO Lv.V Lv.Y L0.B O).next == 11)) = _
      rw [this]
    · rw [sV, sY]; exact hL2
  · refine .inr ⟨?_, Lv.step 1 O, _, own2, N' + 1, ?_, hO2, by rw [sB]; exact hB, by omega, h2, h1, sok.vl, hE.trans hE2⟩
    · show Ending.returned (.bool ((stO Lv.V Lv.Y L0.B O).next == 11)) = _
      rw [h1]; rfl
    · rw [sV, sY]; exact hL2
/-- How it ends: done, or refused since the chain is full. -/
theorem AlEnd.fin {P : LB} {L0 : LV} {ad : Nat → Nat} {o : Nat} {N : Int} {A : AskV} {p : List Int × Int} {l : Int} {w0 wr : World} {own0 : Nat → Nat} (h : AlEnd P L0 ad o N A [p] l w0 own0 wr) (hop : ∀ i, L0.op i = none) (hm : L0.m = [p]) (ha : A.chain = 1) (hk : 1 ≤ A.kind ∧ A.kind ≤ 3) :
    ∃ (V' : AV) (Y' : YV) (O : CO) (own' : Nat → Nat), LAt 100 P { L0 with V := V', Y := Y' } ad wr own' ∧ CAt wr own' 114 o P.b O ∧ O.next = 11 ∧ O.values.length ≤ 1000 ∧ Ext (PlayC 100) w0 wr own0 own' ∧
      ((⟨O.err, O.ok, O.stamp, O.values⟩ = effA [p] A ∧ (A.kind < 3 → p.1.length < 200) ∧ Idle (N + 500) (effM [p] A) (l + (grow A p.1 : Nat)) 60000 64 { L0 with V := V', Y := Y', m := effM [p] A }) ∨
        (O.err = 3 ∧ O.ok = false ∧ O.stamp = 0 ∧ O.values = [] ∧ A.kind < 3 ∧ 200 ≤ p.1.length ∧ Idle (N + 500) [p] l 60000 64 { L0 with V := V', Y := Y' })) := by
  obtain ⟨Lv, O, own', N', hL, hO, hB, hN', hE, hn, hv, hx⟩ := h
  refine ⟨Lv.V, Lv.Y, O, own', hL, hO, hn, hv, hx, ?_⟩
  have hid := hE.idle (by show 0 < 1; decide) (by rw [ha]; rfl) hk.1
  rcases hE.out with ⟨h1, h2, h3, h4⟩ | ⟨h1, h2, h3, h4, h5, h6, h7, h8, h9⟩
  · have hid2 : Idle (N + 500) (effM [p] A) (l + (grow A p.1 : Nat)) 60000 64 Lv := ⟨by obtain ⟨r, ks, hg⟩ := hid.gi; exact ⟨r, ks, hg.mono (by omega)⟩, hid.alone, h2, h3, hid.mo, hid.bo, hid.lim1⟩
    refine .inl ⟨h4, fun h3k => ?_, hid2.as rfl rfl hB.symm h2.symm hop⟩
    obtain ⟨g1, -⟩ := eff_set (m := [p]) (A := A) (c := 0) (by show 0 < 1; decide) (by rw [ha]; rfl) hk (by omega)
    have hl := hid2.lists0 0
    rw [g1] at hl
    have hl : (aft A p.1).length ≤ 200 := hl
    have : (aft A p.1).length = p.1.length + 1 := by
      unfold aft addL
      rw [if_neg (by omega)]
      split <;> simp
    omega
  · have hid2 : Idle (N + 500) [p] l 60000 64 Lv := ⟨by obtain ⟨r, ks, hg⟩ := hid.gi; exact ⟨r, ks, hg.mono (by omega)⟩, hid.alone, h2, h3, hid.mo, hid.bo, hid.lim1⟩
    exact .inr ⟨h6, h7, h8, h9, h4, h5, hid2.as rfl rfl hB.symm (by show L0.m = Lv.m; rw [hm, h2]) hop⟩
def addA (fb : Bool) (z : Int) : AskV := ⟨if fb then 2 else 1, 1, 1, z⟩
theorem addA_kind (fb : Bool) (z : Int) : 1 ≤ (addA fb z).kind ∧ (addA fb z).kind ≤ 3 := by
  cases fb
  · show (1 : Int) ≤ 1 ∧ (1 : Int) ≤ 3; decide
  · show (1 : Int) ≤ 2 ∧ (2 : Int) ≤ 3; decide
theorem addL_len (l : List Int) (z : Int) (fb : Bool) : (addL l z fb).length = l.length + 1 := by
  unfold addL
  cases fb <;> simp
theorem addA_small (fb : Bool) (z : Int) : (addA fb z).kind < 3 := by
  cases fb
  · show (1 : Int) < 3; decide
  · show (2 : Int) < 3; decide
def cutA (z : Int) : AskV := ⟨3, 1, 1, z⟩
theorem eff_add (p : List Int × Int) (fb : Bool) (z : Int) : effM [p] (addA fb z) = [(addL p.1 z fb, p.2 + 1)] ∧ effA [p] (addA fb z) = ⟨0, true, p.2 + 1, []⟩ ∧ grow (addA fb z) p.1 = p.1.length + 2 := by
  cases fb
  · exact ⟨rfl, rfl, by unfold grow addA aft addL; simp⟩
  · exact ⟨rfl, rfl, by unfold grow addA aft addL; simp⟩
theorem eff_cut (p : List Int × Int) (z : Int) : effM [p] (cutA z) = cutR [p] 0 (by show 0 < 1; decide) z ∧ effA [p] (cutA z) = ⟨0, p.1.contains z, if p.1.contains z = true then p.2 + 1 else p.2, []⟩ ∧ (p.1.contains z = true → grow (cutA z) p.1 = p.1.length) ∧ (p.1.contains z = false → grow (cutA z) p.1 = 0) := by
  refine ⟨rfl, rfl, fun h => ?_, fun h => ?_⟩
  · have hm : z ∈ p.1 := by simpa using h
    have hl := List.length_erase_of_mem hm
    have h0 : 0 < p.1.length := List.length_pos_of_mem hm
    unfold grow cutA
    have hn : ¬ ((⟨3, 1, 1, z⟩ : AskV).kind = 4 ∨ (⟨3, 1, 1, z⟩ : AskV).kind = 3 ∧ p.1.contains (⟨3, 1, 1, z⟩ : AskV).v = false) := fun hx => by
      rcases hx with hx | ⟨_, hx⟩
      · have hx : (3 : Int) = 4 := hx
        omega
      · have hx : p.1.contains z = false := hx
        rw [h] at hx
        exact absurd hx (by decide)
    rw [if_neg hn]
    show (aft ⟨3, 1, 1, z⟩ p.1).length + 1 = p.1.length
    unfold aft
    rw [if_pos rfl]
    show (p.1.erase z).length + 1 = _
    omega
  · unfold grow cutA
    rw [if_pos (.inr ⟨rfl, h⟩)]
def cut1 (p : List Int × Int) (z : Int) : List Int × Int := if p.1.contains z = true then (p.1.erase z, p.2 + 1) else p
theorem cutR_one (p : List Int × Int) (z : Int) (h : 0 < [p].length) : cutR [p] 0 h z = [cut1 p z] := by
  unfold cutR cut1
  show (if p.1.contains z = true then [p].set 0 (p.1.erase z, p.2 + 1) else [p]) = _
  split <;> rfl
theorem cut1_st (p : List Int × Int) (z : Int) : (cut1 p z).2 = if p.1.contains z = true then p.2 + 1 else p.2 := by
  unfold cut1
  split <;> rfl
theorem cut1_tri (p : List Int × Int) (z : Int) (l : Int) (h : l = 40601 - (tri p.1.length : Nat)) : l + (grow (cutA z) p.1 : Nat) ≤ 40601 - (tri (cut1 p z).1.length : Nat) := by
  obtain ⟨-, -, h1, h2⟩ := eff_cut p z
  unfold cut1
  by_cases hc : p.1.contains z = true
  · rw [h1 hc, if_pos hc]
    have hm : z ∈ p.1 := by simpa using hc
    have hl := List.length_erase_of_mem hm
    have h0 : 0 < p.1.length := List.length_pos_of_mem hm
    show l + (p.1.length : Nat) ≤ 40601 - (tri (p.1.erase z).length : Nat)
    have e : p.1.length = (p.1.erase z).length + 1 := by omega
    rw [h]
    generalize (p.1.erase z).length = k at *
    rw [e]
    show (40601 : Int) - ((tri k + (k + 2) : Nat) : Int) + ((k + 1 : Nat) : Int) ≤ _
    omega
  · rw [if_neg hc, h2 (by cases hx : p.1.contains z with | true => exact absurd hx hc | false => rfl), h]
    omega
/-- What the comparison behind a cut looks at. -/
def AlI (P : LB) (nb g6 mc : Nat) (cb : Bool) (st : Int) (w : World) : Prop :=
  w.cell? ⟨nb, 0, none⟩ = some (.int .i64 0) ∧ w.cell? ⟨nb, 1, none⟩ = some (.bool cb) ∧ w.cell? ⟨nb, 2, none⟩ = some (.int .i64 st) ∧ w.cell? ⟨P.W, 6, none⟩ = some (.slice (some ⟨g6, 0, none⟩) 1 mc) ∧ w.cell? ⟨g6, 1, none⟩ = some (.int .i64 st)
theorem below_of0 {w w0 w3 wr : World} {o3 own' : Nat → Nat} (h0 : w.heap.size ≤ w0.heap.size) (hB : Below w.heap.size w w3) (hold : ∀ b, b < w0.heap.size → o3 b = 0) (e : Ext (fun c => c ≠ 0) w3 wr o3 own') : Below w.heap.size w wr :=
  ⟨e.os.trans hB.os, e.tape.trans hB.tape, e.output.trans hB.output, Nat.le_trans hB.size e.size, fun b hb => (e.same b (Nat.lt_of_lt_of_le hb hB.size) (by rw [hold b (Nat.lt_of_lt_of_le hb h0)]; exact fun h => h rfl)).trans (hB.block b hb)⟩
def AlA (P : LB) (w0 : World) (own0 : Nat → Nat) (n1 : Nat) (g : Nat) (s8 s31 : Value) (wr : World) : Prop :=
  ∃ (i : Nat) (L : LV) (ad own' : Nat → Nat) (p : List Int × Int), s31 = .int .i64 i ∧ s8 = .int .i64 (p.1.length : Nat) ∧ i + g = n1 ∧ i ≤ 211 ∧ LAt 100 P L ad wr own' ∧ Idle (1 + 500 * i) [p] (1 + (tri p.1.length : Nat)) 60000 64 L ∧ Ext (fun c => c ≠ 0) w0 wr own0 own'
def AlC (P : LB) (w0 : World) (own0 : Nat → Nat) (n1 : Nat) (g : Nat) (s105 : Value) (wr : World) : Prop :=
  ∃ (i : Nat) (L : LV) (ad own' : Nat → Nat) (p : List Int × Int), s105 = .int .i64 i ∧ i + g = n1 ∧ i ≤ 211 ∧ LAt 100 P L ad wr own' ∧ Idle (200000 + 500 * i) [p] (40601 - (tri p.1.length : Nat)) 60000 64 L ∧ Ext (fun c => c ≠ 0) w0 wr own0 own'
def AlMid (P : LB) (N : Int) (w0 : World) (own0 : Nat → Nat) (wr : World) : Prop :=
  ∃ (L : LV) (ad own' : Nat → Nat) (p : List Int × Int), LAt 100 P L ad wr own' ∧ Idle N [p] (40601 - (tri p.1.length : Nat)) 60000 64 L ∧ Ext (fun c => c ≠ 0) w0 wr own0 own'
theorem AlA.mid {P : LB} {w0 wr : World} {own0 own' : Nat → Nat} {i : Nat} {L : LV} {ad : Nat → Nat} {p : List Int × Int} (hi : i ≤ 211) (hL : LAt 100 P L ad wr own') (hI : Idle (1 + 500 * i) [p] (1 + (tri p.1.length : Nat)) 60000 64 L) (hE : Ext (fun c => c ≠ 0) w0 wr own0 own') : AlMid P 200000 w0 own0 wr := by
  have h1 := tri_le (hI.lists0 0)
  have h1 : tri p.1.length ≤ 20300 := h1
  exact ⟨L, ad, own', p, hL, hI.mono (by omega) (by omega), hE⟩
set_option maxHeartbeats 8000000 in
theorem chainAlone_walk (w : World) (v : Value) (n1 b off : Nat) (f : Nat → Nat → Int) (hp : Recs Try.prog 22 1 w v n1 b off f) (u : Value) (n2 b2 off2 : Nat) (f2 : Nat → Bool) (hq : BRecs Try.prog 23 w u n2 b2 off2 f2)
    (x : Value) (n3 b3 off3 : Nat) (f3 : Nat → Nat → Int) (hr : Recs Try.prog 22 1 w x n3 b3 off3 f3) :
    Calls Try.prog 3 #[v, u, x] w fun e w' => e = .returned (.bool true) ∧ Below w.heap.size w w' := by
  have hlen := hp.len
  have hidx := hp.idx
  have hsz := hp.size
  have hlen2 := hq.len
  have hidx2 := hq.idx
  have hsz2 := hq.size
  have hlen3 := hr.len
  have hidx3 := hr.idx
  have hsz3 := hr.size
  go_enter Try.func3, Try.ntmps3
  go_wp2_with fail
  refine (alive_any w).mono ?_
  rintro e w0 ⟨rfl, hB0⟩
  have HB0 := Lib.hid hB0
  clear hB0
  go_wp2_with fail
  refine (CoMade_any w0 100 60000 64 1 (by decide) (by decide) (by decide)).mono ?_
  rintro e w1 ⟨P, own1, rfl, hB1, hc1, hL1⟩
  have HB1 := Lib.hid (HB0.out.trans (hB1.mono HB0.out.size))
  have HOLD := Lib.hid hc1
  have HST : Hid (AlA P w1 own1 n1 n1 (.int .i64 0) (.int .i64 0) w1) := Lib.hid ⟨0, _, _, own1, ([], 0), rfl, rfl, by omega, by omega, hL1, (Idle.fresh 60000 64 1 (by decide) (by decide) (by decide) (by decide) (by decide) (by decide)).mono (by decide) (by decide), Ext.refl⟩
  clear hB1 hc1 hL1
  go_upto_region 7 with fail
  go_cut [29, 30, 31] (fun s29 s30 s31 wx => s29 = v ∧ s30 = .int .i64 (n1 : Nat) ∧ s31 = .int .i64 0 ∧ wx = w1)
  case first =>
    go_wp2_with fail
    go_meet
    exact ⟨rfl, rfl, rfl, rfl⟩
  case rest =>
    obtain ⟨rfl, rfl, rfl, hwc0⟩ := hcut
    have hwc := hwc0.symm
    clear hwc0
    subst hwc
    rename_i KB hKB
    apply hKB
    clear hKB
    go_cut [8] (fun s8 wx => AlMid P 200000 w1 own1 wx)
    case first =>
      go_wp2_with fail
      go_loopg [8, 31] n1 (fun g s8 s31 wr => AlA P w1 own1 n1 g s8 s31 wr)
      case atStart => exact HST.out
      case round =>
        clear HST
        obtain ⟨i, L, ad, own', p, rfl, rfl, hi, hi2, hL, hI, hE⟩ := hrel
        have HL := Lib.hid hL
        have HI := Lib.hid hI
        have HE := Lib.hid hE
        have HBW := Lib.hid (below_of0 HB0.out.size HB1.out HOLD.out hE)
        have HMID := Lib.hid (AlA.mid hi2 hL hI hE)
        clear hL hI hE
        by_cases hlt : i < n1
        · have hlt2 : (i : Int) < (n1 : Int) := by omega
          have hx1 := hidx wr i hlt
          have d0 := hp.at_ HBW.out hlt (show 0 < 1 by decide)
          have hbl := hp.lt (by omega)
          rw [Nat.mul_one, Nat.add_zero] at d0
          rw [Nat.mul_one] at hx1
          generalize f i 0 = z at *
          by_cases h210 : (210 : Int) < (i : Int)
          · go_wp2_with fail
            go_meet
            exact HMID.out
          · clear HMID
            go_upto_region 11 with fail
            go_cut [11] (fun s wx => (∃ fb, s = .bool fb) ∧ wx = wr)
            case first =>
              by_cases hi2' : i < n2
              · have hin2 : (i : Int) < (n2 : Int) := by omega
                have hx2 := hidx2 wr i hi2'
                have e0 := hq.at_ HBW.out hi2'
                have hbl2 := hq.lt (by omega)
                generalize f2 i = fb at *
                go_wp2_with fail
                go_meet
                exact ⟨⟨_, rfl⟩, rfl⟩
              · have hin2 : ¬ ((i : Int) < (n2 : Int)) := by omega
                go_wp2_with fail
                go_meet
                exact ⟨⟨_, rfl⟩, rfl⟩
            case rest =>
              obtain ⟨⟨fb, rfl⟩, hwc0⟩ := hcut
              have hwc := hwc0.symm
              clear hwc0
              subst hwc
              clear d0 hx1 hbl
              obtain ⟨mv, hbx, hmv⟩ := HL.out.box
              have x2 : wr.cell? ⟨P.W, 2, none⟩ = some (.pointer (some ⟨P.b, 0, none⟩)) := hbx.cell 2
              have xl := hbx.lt
              clear hbx hmv
              have HADD := Lib.hid (CoAdd_any (w := wr) P.b 1 1 z fb 114)
              go_upto_region 12 with fail
              go_wp2_with fail
              refine HADD.out.mono ?_
              rintro e w2 ⟨o, rfl, ho, hB2, hC2⟩
              have HX2 := Lib.hid (Ext.of_below (M := fun _ => False) hB2 own' 114)
              have hc2 := hC2 (PM.ow own' wr.heap.size 114) (fun c hc => ow_ge hc)
              have hao : CO.begin 1 1 (if fb = true then 1 else 0) z = (addA fb z).op := by cases fb <;> rfl
              rw [hao] at hc2
              have hl2 := HL.out.ext HX2.out (fun c h => h.elim)
              have hlen200 := HI.out.lists0 0
              have hlen200 : p.1.length ≤ 200 := hlen200
              have htri := tri_le hlen200
              obtain ⟨r0, ks0, hS0, hcost0⟩ := HI.out.begin (t := 1) (c := 0) (o := addA fb z) (by decide) (by decide) rfl (by have := addA_kind fb z; omega) (by show 0 < 1; decide) rfl (by decide) (by show (1 + (tri p.1.length : Nat) : Int) + (p.1.length + 2 : Nat) ≤ 60000; omega)
              have HRUN : Hid (AlRun P L ad o (1 + 500 * i) (addA fb z) [p] (1 + (tri p.1.length : Nat)) w2 (PM.ow own' wr.heap.size 114) 1000 (.int .i64 0) w2) := Lib.hid ⟨0, L.start 1 (addA fb z), (addA fb z).op, _, _, r0, ks0, rfl, rfl, hl2, hc2, rfl, by omega, hS0, by omega, Ext.refl⟩
              have HE2 := Lib.hid (HE.out.trans (HX2.out.mono (fun c h => h.elim)))
              have HIO := Lib.hid HI.out.alone
              have HIM := Lib.hid HI.out.m
              have HLEN := Lib.hid hlen200
              have HMB := Lib.hid (show 0 ≤ p.2 ∧ p.2 ≤ 1000000000000000 from by
                obtain ⟨r9, ks9, hg9⟩ := HI.out.gi
                have := hg9.mb (by omega) p (by rw [HI.out.m]; exact List.mem_singleton.2 rfl)
                exact this.2)
              clear hB2 hC2 hc2 hao hl2 hlen200 htri hS0 hcost0 HX2 HADD x2 xl HL HE HI HBW ho
              generalize PM.ow own' wr.heap.size 114 = own2 at *
              go_wp2_with fail
              go_loopg [13] 1000 (fun g kv wq => AlRun P L ad o (1 + 500 * i) (addA fb z) [p] (1 + (tri p.1.length : Nat)) w2 own2 g kv wq)
              case atStart => exact HRUN.out
              case round =>
                clear HRUN
                have hrel2 := hrel
                obtain ⟨k, _, _, _, _, _, _, hkv, hk1000, -, -, -, -, -, hk410, -⟩ := hrel2
                subst hkv
                have HREL := Lib.hid hrel
                clear hrel
                have hkl : (k : Int) < 1000 := by omega
                go_wp2_with fail
                refine (CoAlStep_any HIO.out (by omega) HREL.out).mono ?_
                rintro e w5 (⟨rfl, g', hg', hrel'⟩ | ⟨rfl, hend⟩)
                · have HR' := Lib.hid hrel'
                  clear hrel' HREL
                  go_wp2_with fail
                  go_roundg g'
                  case measure => omega
                  case rel => 
                    have e : (Value.int .i64 ((k : Int) + 1)) = .int .i64 ((k + 1 : Nat) : Int) := by rw [Int.natCast_add]; rfl
                    first | (rw [e]; exact HR'.out) | exact HR'.out
                · obtain ⟨V3, Y3, O, own3, hL3, hO3, hn11, hvl, hE3, hor⟩ := hend.fin HIO.out HIM.out rfl (addA_kind fb z)
                  have HL3 := Lib.hid hL3
                  have HO3 := Lib.hid hO3
                  have HE3 := Lib.hid (HE2.out.trans (hE3.mono (M' := fun c => c ≠ 0) (fun c h => by unfold PlayC at h; omega)))
                  have HOR := Lib.hid hor
                  have HVL := Lib.hid hvl
                  have HN := Lib.hid hn11
                  clear hend hL3 hO3 hn11 hvl hE3 hor HREL HE2 hk410 hk1000
                  go_wp2_with fail
                  refine (CoAnswer_any HO3.out HVL.out).mono ?_
                  rintro e w6 ⟨v6, rfl, hA, hB6⟩
                  rw [show O.answer = ⟨O.err, O.ok, O.stamp, O.values⟩ from if_pos HN.out] at hA
                  obtain ⟨aa, ca, rfl⟩ := hA.shape
                  have hX7 := ((ext_same (M := fun _ => False) own3 hB6).ow 160).alloc (.cells #[.int .i64 O.err, .bool O.ok, .int .i64 O.stamp, .slice aa O.values.length ca] 41)
                  have HL7 := Lib.hid (HL3.out.ext hX7 (fun c h => h.elim))
                  have HO7 := Lib.hid (HO3.out.ext hX7 (fun _ _ _ h => h))
                  have HE7 := Lib.hid (HE3.out.trans (hX7.mono (fun c h => h.elim)))
                  have HB7 := Lib.hid (Blk.new (own := PM.ow own3 w6.heap.size 160) (k := 160) w6 (.cells #[.int .i64 O.err, .bool O.ok, .int .i64 O.stamp, .slice aa O.values.length ca] 41) (ow_ge (Nat.le_refl _)))
                  clear hA hB6 hX7 HL3 HO3 HE3
                  go_upto_region 17 with fail
                  generalize w6.heap.size = nb at *
                  generalize w6.alloc (.cells #[.int .i64 O.err, .bool O.ok, .int .i64 O.stamp, .slice aa O.values.length ca] 41) = w7 at *
                  generalize PM.ow own3 nb 160 = own7 at *
                  have b0 : w7.cell? ⟨nb, 0, none⟩ = some (.int .i64 O.err) := HB7.out.cell 0
                  have bl := HB7.out.lt
                  have hov : (O.next == 11) = true := by rw [HN.out]; rfl
                  have HOV := Lib.hid (CoOver_any HO7.out)
                  rw [hov] at HOV
                  clear hov
                  rcases HOR.out with ⟨hans, hfew, hidle⟩ | ⟨herr, -, -, -, -, hfull, hidle⟩
                  · obtain ⟨ea1, ea2, ea3⟩ := eff_add p fb z
                    rw [ea2] at hans
                    injection hans with herr _ _ _
                    rw [herr] at b0
                    have hfew2 : (p.1.length : Int) < 200 := by
                      have := hfew (addA_small fb z)
                      omega
                    rw [ea1, ea3] at hidle
                    have HID := Lib.hid hidle
                    clear hidle hfew herr ea1 ea2 ea3 HOR HN HVL
                    go_wp2_with fail
                    refine HOV.out.mono ?_
                    rintro e w8 ⟨rfl, hw8⟩
                    have hw8' := hw8.symm
                    clear hw8
                    subst hw8'
                    obtain ⟨mv, hbx, hmv⟩ := HL7.out.box
                    rw [show ({ L with V := V3, Y := Y3 } : LV).m = [p] from HIM.out] at hmv
                    obtain ⟨ma, mc, rfl⟩ := hmv.shape
                    have x6 : w7.cell? ⟨P.W, 6, none⟩ = some (.slice ma 1 mc) := hbx.cell 6
                    have xl := hbx.lt
                    have hra := RefAdd_any (R := [p]) 0 hmv (by show 0 < 1; decide) (by show p.1.length ≤ 900; have := HLEN.out; omega) HMB.out z fb
                    have HRA := Lib.hid (show Calls Try.prog 12 #[.slice ma 1 mc, .int .i64 1, .int .i64 z, .bool fb] w7 fun e w' => ∃ v', e = .returned v' ∧ RefPost w7 (fun g => own7 g = 100 + 6) [(addL p.1 z fb, p.2 + 1)] v' w' from hra)
                    clear hbx hmv hra
                    go_wp2_with fail
                    refine HRA.out.mono ?_
                    rintro e w9 ⟨v9, rfl, hR9, hB9⟩
                    obtain ⟨ra, rc, rfl⟩ := hR9.shape
                    have hst := LAt.setM HL7.out hB9 hR9
                    have HSM := Lib.hid hst
                    have hl9 := HL7.out.ext (M := fun _ => False) (ext_same own7 hB9) (fun c h => h.elim)
                    obtain ⟨mv9, hbx9, -⟩ := hl9.box
                    have f6 := hbx9.free 6
                    have x69 : w9.cell? ⟨P.W, 6, none⟩ = some (.slice ma 1 mc) := by rw [hB9.cell (p := ⟨P.W, 6, none⟩) xl]; exact x6
                    have xl9 := hbx9.lt
                    clear hst hl9 hbx9 hR9 hB9 x6 xl
                    go_wp2_with fail
                    go_roundg (n1 - (i + 1))
                    case measure => omega
                    case rel =>
                      refine ⟨i + 1, _, ad, _, (addL p.1 z fb, p.2 + 1), by go_num, ?_, by omega, by omega, HSM.out.1, HID.out.mono (by omega) ?_, HE7.out.trans (HSM.out.2.mono (fun c h => by omega))⟩
                      · show _ = Value.int .i64 (((addL p.1 z fb).length : Nat) : Int)
                        rw [addL_len]; go_num
                      · show (1 + (tri p.1.length : Nat) : Int) + ((p.1.length + 2 : Nat) : Int) ≤ 1 + ((tri (addL p.1 z fb).length : Nat) : Int)
                        rw [addL_len]
                        show _ ≤ 1 + (((tri p.1.length + (p.1.length + 2)) : Nat) : Int)
                        omega
                  · rw [herr] at b0
                    have hfull2 : ¬ ((p.1.length : Int) < 200) := by omega
                    have HID := Lib.hid hidle
                    clear hidle hfull herr HOR HN HVL
                    go_wp2_with fail
                    refine HOV.out.mono ?_
                    rintro e w8 ⟨rfl, hw8⟩
                    have hw8' := hw8.symm
                    clear hw8
                    subst hw8'
                    go_wp2_with fail
                    go_roundg (n1 - (i + 1))
                    case measure => omega
                    case rel => exact ⟨i + 1, _, ad, own7, p, by go_num, rfl, by omega, by omega, HL7.out, HID.out.mono (by omega) (Int.le_refl _), HE7.out⟩
        · have hlt2 : ¬ ((i : Int) < (n1 : Int)) := by omega
          go_wp2_with fail
          go_meet
          exact HMID.out
    case rest =>
      clear HST
      obtain ⟨L, ad, own', p, hL, hI, hE⟩ := hcut
      have HST : Hid (AlC P w1 own1 n3 n3 (.int .i64 0) wc) := Lib.hid ⟨0, L, ad, own', p, rfl, by omega, by omega, hL, hI.mono (by omega) (Int.le_refl _), hE⟩
      clear hL hI hE
      go_upto_region 23 with fail
      go_cut [103, 104, 105] (fun s103 s104 s105 wx => s103 = x ∧ s104 = .int .i64 (n3 : Nat) ∧ s105 = .int .i64 0 ∧ wx = wc)
      case first =>
        go_wp2_with fail
        go_meet
        exact ⟨rfl, rfl, rfl, rfl⟩
      case rest =>
        obtain ⟨rfl, rfl, rfl, hwc0⟩ := hcut
        have hwc := hwc0.symm
        clear hwc0
        subst hwc
        rename_i KB hKB
        apply hKB
        clear hKB
        go_cut [] (fun wx => AlMid P 400000 w1 own1 wx)
        case first =>
          go_wp2_with fail
          go_loopg [105] n3 (fun g s105 wr => AlC P w1 own1 n3 g s105 wr)
          case atStart => exact HST.out
          case round =>
            clear HST
            obtain ⟨i, L, ad, own', p, rfl, hi, hi2, hL, hI, hE⟩ := hrel
            have HL := Lib.hid hL
            have HI := Lib.hid hI
            have HE := Lib.hid hE
            have HBW := Lib.hid (below_of0 HB0.out.size HB1.out HOLD.out hE)
            have HMID : Hid (AlMid P 400000 w1 own1 wr) := Lib.hid ⟨L, ad, own', p, hL, hI.mono (by omega) (Int.le_refl _), hE⟩
            clear hL hI hE
            by_cases hlt : i < n3
            · have hlt2 : (i : Int) < (n3 : Int) := by omega
              have hx1 := hidx3 wr i hlt
              have d0 := hr.at_ HBW.out hlt (show 0 < 1 by decide)
              have hbl := hr.lt (by omega)
              rw [Nat.mul_one, Nat.add_zero] at d0
              rw [Nat.mul_one] at hx1
              generalize f3 i 0 = z at *
              obtain ⟨cb, hcb⟩ : ∃ cb, p.1.contains z = cb := ⟨_, rfl⟩
              have HCB := Lib.hid hcb
              clear hcb
              by_cases h210 : (210 : Int) < (i : Int)
              · go_wp2_with fail
                go_meet
                exact HMID.out
              · clear HMID
                go_upto_region 27 with fail
                clear d0 hx1 hbl
                obtain ⟨mv, hbx, hmv⟩ := HL.out.box
                have x2 : wr.cell? ⟨P.W, 2, none⟩ = some (.pointer (some ⟨P.b, 0, none⟩)) := hbx.cell 2
                have xl := hbx.lt
                clear hbx hmv
                have HADD := Lib.hid (CoCut_any (w := wr) P.b 1 1 z 114)
                go_wp2_with fail
                refine HADD.out.mono ?_
                rintro e w2 ⟨o, rfl, ho, hB2, hC2⟩
                have HX2 := Lib.hid (Ext.of_below (M := fun _ => False) hB2 own' 114)
                have hc2 := hC2 (PM.ow own' wr.heap.size 114) (fun c hc => ow_ge hc)
                have hao : CO.begin 1 1 2 z = (cutA z).op := rfl
                rw [hao] at hc2
                have hl2 := HL.out.ext HX2.out (fun c h => h.elim)
                have hlen200 := HI.out.lists0 0
                have hlen200 : p.1.length ≤ 200 := hlen200
                obtain ⟨r0, ks0, hS0, hcost0⟩ := HI.out.begin (t := 1) (c := 0) (o := cutA z) (by decide) (by decide) rfl (by show (1 : Int) ≤ 3 ∧ (3 : Int) ≤ 4; decide) (by show 0 < 1; decide) rfl (by decide) (by show (40601 - (tri p.1.length : Nat) : Int) + (p.1.length + 2 : Nat) ≤ 60000; omega)
                have HRUN : Hid (AlRun P L ad o (200000 + 500 * i) (cutA z) [p] (40601 - (tri p.1.length : Nat)) w2 (PM.ow own' wr.heap.size 114) 1000 (.int .i64 0) w2) := Lib.hid ⟨0, L.start 1 (cutA z), (cutA z).op, _, _, r0, ks0, rfl, rfl, hl2, hc2, rfl, by omega, hS0, by omega, Ext.refl⟩
                have HE2 := Lib.hid (HE.out.trans (HX2.out.mono (fun c h => h.elim)))
                have HIO := Lib.hid HI.out.alone
                have HIM := Lib.hid HI.out.m
                have HLEN := Lib.hid hlen200
                have HMB := Lib.hid (show 0 ≤ p.2 ∧ p.2 ≤ 1000000000000000 from by
                  obtain ⟨r9, ks9, hg9⟩ := HI.out.gi
                  have := hg9.mb (by omega) p (by rw [HI.out.m]; exact List.mem_singleton.2 rfl)
                  exact this.2)
                clear hB2 hC2 hc2 hao hl2 hlen200 hS0 hcost0 HX2 HADD x2 xl HL HE HI HBW ho
                generalize PM.ow own' wr.heap.size 114 = own2 at *
                go_wp2_with fail
                go_loopg [18] 1000 (fun g kv wq => AlRun P L ad o (200000 + 500 * i) (cutA z) [p] (40601 - (tri p.1.length : Nat)) w2 own2 g kv wq)
                case atStart => exact HRUN.out
                case round =>
                  clear HRUN
                  have hrel2 := hrel
                  obtain ⟨k, _, _, _, _, _, _, hkv, hk1000, -, -, -, -, -, hk410, -⟩ := hrel2
                  subst hkv
                  have HREL := Lib.hid hrel
                  clear hrel
                  have hkl : (k : Int) < 1000 := by omega
                  go_wp2_with fail
                  refine (CoAlStep_any HIO.out (by omega) HREL.out).mono ?_
                  rintro e w5 (⟨rfl, g', hg', hrel'⟩ | ⟨rfl, hend⟩)
                  · have HR' := Lib.hid hrel'
                    clear hrel' HREL
                    go_wp2_with fail
                    go_roundg g'
                    case measure => omega
                    case rel =>
                      have e : (Value.int .i64 ((k : Int) + 1)) = .int .i64 ((k + 1 : Nat) : Int) := by rw [Int.natCast_add]; rfl
                      first | (rw [e]; exact HR'.out) | exact HR'.out
                  · obtain ⟨V3, Y3, O, own3, hL3, hO3, hn11, hvl, hE3, hor⟩ := hend.fin HIO.out HIM.out rfl (by show (1 : Int) ≤ 3 ∧ (3 : Int) ≤ 3; decide)
                    rcases hor with ⟨hans, -, hidle⟩ | ⟨-, -, -, -, hkk, -, -⟩
                    rotate_left
                    · exact absurd hkk (by show ¬ ((3 : Int) < 3); decide)
                    obtain ⟨ea1, ea2, -, -⟩ := eff_cut p z
                    rw [ea1, cutR_one] at hidle
                    rw [ea2, ← cut1_st] at hans
                    have HID := Lib.hid (hidle.mono (Int.le_refl _) (cut1_tri p z _ rfl))
                    injection hans with herr hok hsta hvv
                    clear hvv
                    have HL3 := Lib.hid hL3
                    have HO3 := Lib.hid hO3
                    have HE3 := Lib.hid (HE2.out.trans (hE3.mono (M' := fun c => c ≠ 0) (fun c h => by unfold PlayC at h; omega)))
                    have HVL := Lib.hid hvl
                    have HN := Lib.hid hn11
                    have HR := Lib.hid (show O.err = 0 ∧ O.ok = cb ∧ O.stamp = (cut1 p z).2 from ⟨herr, hok.trans HCB.out, hsta⟩)
                    clear hend hL3 hO3 hn11 hvl hE3 hidle HREL HE2 hk410 hk1000 herr hok hsta ea1 ea2
                    obtain ⟨mv, hbx, hmv⟩ := HL3.out.box
                    rw [show ({ L with V := V3, Y := Y3 } : LV).m = [p] from HIM.out] at hmv
                    obtain ⟨ma, mc, rfl⟩ := hmv.shape
                    have x6 : w5.cell? ⟨P.W, 6, none⟩ = some (.slice ma 1 mc) := hbx.cell 6
                    have xl := hbx.lt
                    have hra := RefCut_any (R := [p]) 0 hmv (by show 0 < 1; decide) (by show p.1.length ≤ 900; have := HLEN.out; omega) HMB.out z
                    rw [cutR_one] at hra
                    have HRA := Lib.hid (show Calls Try.prog 14 #[.slice ma 1 mc, .int .i64 1, .int .i64 z] w5 fun e w' => ∃ v', e = .returned (.tuple #[v', .bool cb]) ∧ RefPost w5 (fun g => own3 g = 100 + 6) [cut1 p z] v' w' from by rw [← HCB.out]; exact hra)
                    clear hbx hmv hra
                    go_wp2_with fail
                    refine HRA.out.mono ?_
                    rintro e w9 ⟨v9, rfl, hR9, hB9⟩
                    obtain ⟨ra, rc, rfl⟩ := hR9.shape
                    have HSM : Hid (LAt 100 P { { L with V := V3, Y := Y3 } with m := [cut1 p z] } ad (w9.setCell ⟨P.W, 6, none⟩ (.slice ra 1 rc)) (PM.ow own3 w5.heap.size (100 + 6)) ∧ Ext (fun c => c = 100 + 4) w5 (w9.setCell ⟨P.W, 6, none⟩ (.slice ra 1 rc)) own3 (PM.ow own3 w5.heap.size (100 + 6))) := Lib.hid (LAt.setM HL3.out hB9 hR9)
                    have hl9 := HL3.out.ext (M := fun _ => False) (ext_same own3 hB9) (fun c h => h.elim)
                    have HO9 := Lib.hid (HO3.out.ext (M := fun c => c = 100 + 4) HSM.out.2 (by omega))
                    obtain ⟨mv9, hbx9, -⟩ := hl9.box
                    have f6 := hbx9.free 6
                    have x69 : w9.cell? ⟨P.W, 6, none⟩ = some (.slice ma 1 mc) := by rw [hB9.cell (p := ⟨P.W, 6, none⟩) xl]; exact x6
                    have xl9 := hbx9.lt
                    have HE9 := Lib.hid (HE3.out.trans (HSM.out.2.mono (M' := fun c => c ≠ 0) (fun c h => by omega)))
                    clear hl9 hbx9 hR9 hB9 x6 xl HRA HL3 HO3 HE3
                    go_upto_region 33 with fail
                    generalize w9.setCell ⟨P.W, 6, none⟩ (.slice ra 1 rc) = wA at *
                    generalize PM.ow own3 w5.heap.size (100 + 6) = ownA at *
                    clear x69 xl9 f6
                    go_wp2_with fail
                    refine (CoAnswer_any HO9.out HVL.out).mono ?_
                    rintro e w6 ⟨v6, rfl, hA, hB6⟩
                    rw [show O.answer = ⟨O.err, O.ok, O.stamp, O.values⟩ from if_pos HN.out] at hA
                    obtain ⟨aa, ca, rfl⟩ := hA.shape
                    have hX7 := ((ext_same (M := fun _ => False) ownA hB6).ow 160).alloc (.cells #[.int .i64 O.err, .bool O.ok, .int .i64 O.stamp, .slice aa O.values.length ca] 41)
                    have HL7 := Lib.hid (HSM.out.1.ext hX7 (fun c h => h.elim))
                    have HO7 := Lib.hid (HO9.out.ext hX7 (fun _ _ _ h => h))
                    have HE7 := Lib.hid (HE9.out.trans (hX7.mono (fun c h => h.elim)))
                    have HB7 := Lib.hid (Blk.new (own := PM.ow ownA w6.heap.size 160) (k := 160) w6 (.cells #[.int .i64 O.err, .bool O.ok, .int .i64 O.stamp, .slice aa O.values.length ca] 41) (ow_ge (Nat.le_refl _)))
                    clear hA hB6 hX7 HSM HO9 HE9
                    go_upto_region 34 with fail
                    generalize w6.heap.size = nb at *
                    generalize w6.alloc (.cells #[.int .i64 O.err, .bool O.ok, .int .i64 O.stamp, .slice aa O.values.length ca] 41) = w7 at *
                    generalize PM.ow ownA nb 160 = own7 at *
                    have HOV := Lib.hid (show Calls Try.prog 11 #[.pointer (some ⟨o, 0, none⟩)] w7.drew fun e w' => e = .returned (.bool (O.next == 11)) ∧ w' = w7.drew from CoOver_any (HO7.out.ext (M := fun _ => False) (show Ext (fun _ => False) w7 w7.drew own7 own7 from Ext.refl.drew) (fun _ _ _ h => h)))
                    rw [show (O.next == 11) = true by rw [HN.out]; rfl] at HOV
                    obtain ⟨mv7, hbx7, hmv7⟩ := HL7.out.box
                    have hmv7 : RBAt w7 (fun g => own7 g = 100 + 6) mv7 [cut1 p z] := hmv7
                    obtain ⟨ma7, mc7, rfl⟩ := hmv7.shape
                    obtain ⟨g7, lv7, rfl, hg7, -, -, hc7, -⟩ := RBAt.get hmv7 (i := 0) (by show 0 < 1; decide)
                    obtain ⟨hr1, hr2, hr3⟩ := HR.out
                    have HAI : Hid (AlI P nb g7 mc7 cb (cut1 p z).2 w7.drew) := Lib.hid ⟨by rw [← hr1]; exact HB7.out.cell 0, by rw [← hr2]; exact HB7.out.cell 1, by rw [← hr3]; exact HB7.out.cell 2, hbx7.cell 6, hc7⟩
                    have HLD := Lib.hid (HL7.out.ext (M := fun _ => False) (show Ext (fun _ => False) w7 w7.drew own7 own7 from Ext.refl.drew) (fun c h => h.elim))
                    have HED := Lib.hid HE7.out.drew
                    clear hbx7 hmv7 hc7 hg7 hr1 hr2 hr3 HR HL7 HO7 HE7 HB7 HN HVL
                    have hcbb : (cb != cb) = false := by simp
                    generalize hcs : (cut1 p z).2 = cs at *
                    have hcsb : (cs != cs) = false := by simp
                    refine wp_region_plan5 [.early 0 [1, 2, 3, 4, 5, 6, 7, 8, 9, 10, 11, 12, 13, 14, 15, 16, 17, 18, 19, 20, 21, 22, 23, 24, 25], .big 1, .early 2 [3, 4, 5, 6, 7, 8, 9, 10, 11, 12, 13, 14, 15, 16, 17, 18, 19, 20, 21, 22, 23, 24, 25], .early 3 [4, 5, 6, 7, 8, 9, 10, 11, 12, 13, 14, 15, 16, 17, 18, 19, 20, 21, 22, 23, 24, 25], .early 4 [5, 6, 7, 8, 9, 10, 11, 12, 13, 14, 15, 16, 17, 18, 19, 20, 21, 22, 23, 24, 25], .early 5 [6, 7, 8, 9, 10, 11, 12, 13, 14, 15, 16, 17, 18, 19, 20, 21, 22, 23, 24, 25], .early 6 [7, 8, 9, 10, 11, 12, 13, 14, 15, 16, 17, 18, 19, 20, 21, 22, 23, 24, 25], .early 7 [8, 9, 10, 11, 12, 13, 14, 15, 16, 17, 18, 19, 20, 21, 22, 23, 24, 25], .early 8 [9, 10, 11, 12, 13, 14, 15, 16, 17, 18, 19, 20, 21, 22, 23, 24, 25], .early 9 [10, 12, 13, 14, 15, 16, 17, 18, 19, 20, 21, 22, 23, 24, 25], .early 10 [12, 13, 14, 15, 16, 17, 18, 19, 20, 21, 22, 23, 24, 25], .early 11 [12, 13, 14, 15, 16, 17, 18, 19, 20, 21, 22, 23, 24, 25], .early 12 [13, 14, 15, 16, 17, 18, 19, 20, 21, 22, 23, 24, 25], .early 13 [14, 15, 16, 17, 18, 19, 20, 21, 22, 23, 24, 25], .early 14 [15, 16, 17, 18, 19, 20, 21, 22, 23, 24, 25], .early 15 [16, 24, 25], .early 16 [24, 25], .early 17 [18, 19, 20, 21, 22, 23, 24, 25], .early 18 [19, 20, 21, 22, 23, 24, 25], .early 19 [20, 21, 22, 23, 24, 25], .early 20 [21, 22, 23, 24, 25], .early 21 [22, 23, 24, 25], .early 22 [23, 24, 25], .early 23 [24, 25], .early 24 [25], .early 25 []] 26 (AlI P nb g7 mc7 cb cs) (by kernel_rfl) (by kernel_rfl) (fun _ _ _ d _ h => by cases d <;> exact h) (HAI.out) ?_
                    generalize w7.drew = wd at *
                    iterate 1
                      apply plan5_early
                      case hi => rfl
                      case h =>
                        intro w9 hf
                        obtain ⟨b0, b1, b2, x6, c1⟩ := hf
                        still_step
                        exact wpStill_nil rfl
                    refine plan5_big rfl ?_
                    go_wp2_with fail
                    refine HOV.out.mono ?_
                    rintro e w8 ⟨rfl, hw8⟩
                    have hw8' := hw8.symm
                    clear hw8
                    subst hw8'
                    go_wp2_with fail
                    refine ⟨fun _ => HAI.out, ?_⟩
                    iterate 24
                      apply plan5_early
                      case hi => rfl
                      case h =>
                        intro w9 hf
                        obtain ⟨b0, b1, b2, x6, c1⟩ := hf
                        still_step
                        exact wpStill_nil rfl
                    refine plan5_nil ?_
                    go_wp2_with fail
                    go_roundg (n3 - (i + 1))
                    case measure => omega
                    case rel => exact ⟨i + 1, _, ad, own7, cut1 p z, by go_num, by omega, by omega, HLD.out, HID.out.mono (by omega) (Int.le_refl _), HED.out⟩
            · have hlt2 : ¬ ((i : Int) < (n3 : Int)) := by omega
              go_wp2_with fail
              go_meet
              exact HMID.out
        case rest =>
          clear HST
          obtain ⟨L, ad, own', p, hL, hI, hE⟩ := hcut
          have hBW := below_of0 HB0.out.size HB1.out HOLD.out hE
          have hz : ∀ b, b < w.heap.size → own' b = 0 := fun b hb => by
            rw [hE.col b (Nat.lt_of_lt_of_le hb HB1.out.size)]
            exact HOLD.out b (Nat.lt_of_lt_of_le hb HB0.out.size)
          have hsh := hI.shows hL.arena.1
          have hm := hI.m
          have HLS := Lib.hid (CoShow_any hL hsh 0 (by rw [hm]; show 0 < 1; decide) p (by simp only [hm]; rfl))
          have HBW := Lib.hid hBW
          have HZ := Lib.hid hz
          have HF := Lib.hid hsh.f
          have HM := Lib.hid hm
          obtain ⟨mv, hbx, -⟩ := hL.box
          have x2 : wc.cell? ⟨P.W, 2, none⟩ = some (.pointer (some ⟨P.b, 0, none⟩)) := hbx.cell 2
          have xl := hbx.lt
          clear hbx hL hI hE hBW hz hsh hm
          go_wp2_with fail
          refine HLS.out.mono ?_
          rintro e w6 ⟨v, own6, rfl, hv6, hL6, hE6⟩
          obtain ⟨va, vc, rfl, -, -⟩ := hv6.open
          obtain ⟨mv6, hbx6, hmv6⟩ := hL6.box
          rw [HM.out] at hmv6
          obtain ⟨ma6, mc6, rfl⟩ := hmv6.shape
          obtain ⟨g6, lv6, rfl, hg6, -, c0, c1, hlv⟩ := RBAt.get hmv6 (i := 0) (by show 0 < 1; decide)
          obtain ⟨la, lc, rfl⟩ := hlv.shape
          have x0 : w6.cell? ⟨P.W, 0, none⟩ = some (.pointer (some ⟨P.a, 0, none⟩)) := hbx6.cell 0
          have x6 : w6.cell? ⟨P.W, 6, none⟩ = some (.slice (some ⟨g6, 0, none⟩) 1 mc6) := hbx6.cell 6
          have xl6 := hbx6.lt
          replace c0 : w6.cell? ⟨g6, 0, none⟩ = some (.slice la p.1.length lc) := c0
          replace c1 : w6.cell? ⟨g6, 1, none⟩ = some (.int .i64 p.2) := c1
          have hlv2 : Vw w6 (.slice la p.1.length lc) p.1 := hlv.vw
          have hsl := SameLongs_any hv6 hlv2
          rw [show decide (p.1 = p.1) = true from by simp] at hsl
          clear hlv2
          have HSL := Lib.hid hsl
          have HA6 := Lib.hid (fun w7 (hB : Below w6.heap.size w6 w7) => hL6.arena.ext (ext_same (M := fun _ => False) own6 hB) (fun h => h))
          have HX0 := Lib.hid (fun w7 (hB : Below w6.heap.size w6 w7) => hB.cell (p := ⟨P.W, 0, none⟩) xl6)
          have HB6 := Lib.hid (show Below w.heap.size w w6 from ⟨hE6.os.trans HBW.out.os, hE6.tape.trans HBW.out.tape, hE6.output.trans HBW.out.output, Nat.le_trans HBW.out.size hE6.size, fun b hb => (hE6.same b (Nat.lt_of_lt_of_le hb HBW.out.size) (by rw [HZ.out b hb]; unfold PlayC; omega)).trans (HBW.out.block b hb)⟩)
          have hss : (p.2 == p.2) = true := by simp
          clear hv6 hL6 hE6 hbx6 hmv6 hlv hsl x2 xl HLS HM HZ HBW
          generalize p.2 = st at *
          generalize p.1 = ls at *
          go_wp2_with fail
          refine HSL.out.mono ?_
          rintro e w7 ⟨rfl, hB7⟩
          have hfa := Faults_any (HA6.out w7 hB7)
          rw [HF.out] at hfa
          have HFA := Lib.hid hfa
          have x07 : w7.cell? ⟨P.W, 0, none⟩ = some (.pointer (some ⟨P.a, 0, none⟩)) := (HX0.out w7 hB7).trans x0
          have xl7 : P.W < w7.heap.size := Nat.lt_of_lt_of_le xl6 hB7.size
          have HB7 := Lib.hid (HB6.out.trans (hB7.mono HB6.out.size))
          clear hB7 hfa x0 x6 c0 c1 xl6
          go_wp2_with fail
          refine HFA.out.mono ?_
          rintro e w8 ⟨rfl, hw8⟩
          subst hw8
          go_wp2_with fail
          go_ret
          exact ⟨rfl, HB7.out⟩
end Go.Proofs.Ytefhngbeodnldaa
