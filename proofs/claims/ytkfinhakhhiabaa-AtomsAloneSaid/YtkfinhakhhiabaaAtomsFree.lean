/- AtomsFree: of operations under way one is over within the promised steps. -/
import Derived.Test.YtkfinhakhhiabaaAtomsFreePure
import Derived.Test.YtkfinhakhhiabaaAtomsLaw
import Derived.Test.YtkfinhakhhiabaaArgStrs
set_option maxRecDepth 20000
set_option linter.unusedVariables false
set_option linter.unusedSimpArgs false
namespace Go.PM
open Go.RowKit
/-- A row of pointers. -/
def prow (xs : List Nat) : List Value := xs.map fun b => .pointer (some ⟨b, 0, none⟩)
theorem Row.prow_at {w : World} {own : Nat → Nat} {k : Nat} {E : TypeId} {a : Option Addr} {n c : Nat} {xs : List Nat} (h : Row w own k E 1 (.slice a n c) n (prow xs)) {i : Nat} (hi : i < n) :
    ∃ g, a = some ⟨g, 0, none⟩ ∧ g < w.heap.size ∧ own g = k ∧ ∃ hx : i < xs.length, w.cell? ⟨g, i, none⟩ = some (.pointer (some ⟨xs[i], 0, none⟩)) := by
  obtain ⟨g, cap, cur, hv, hb, _, _, _, hc⟩ := h.cells (by omega)
  injection hv with hv1
  have hl : xs.length = n := by have := h.1; simpa [prow] using this
  refine ⟨g, hv1, hb.lt, hb.col, by omega, ?_⟩
  rw [hc i (by omega), prow, List.getElem?_map, List.getElem?_eq_getElem (by omega)]
  rfl
end Go.PM
namespace Go.Proofs.Ytkfinhakhhiabaa
open Go.RowKit Go.PM
theorem info_ptrL : (Try.prog.info? 31).map (fun i => (i.zero, i.size, i.bytes)) = some (some (.pointer none), 1, 8) := by kernel_rfl
theorem parts_ptrL : ∃ i, Try.prog.info? 31 = some i ∧ i.zero = some (.pointer none) ∧ i.size = 1 ∧ i.bytes = 8 := by
  have h := info_ptrL
  cases hx : Try.prog.info? 31 with
  | none => rw [hx] at h; cases h
  | some i =>
    rw [hx] at h
    have := Option.some.inj h
    injection this with h1 h2
    injection h2 with h2 h3
    exact ⟨i, rfl, h1, h2, h3⟩
theorem wpList_append_prow {ops : Array Oper} {rest : List Oper} {o : Oper} {a : Act} {Q : Exit → Act → World → Prop} {w0 : World} {own : Nat → Nat} {k n : Nat} {v : Value} {xs : List Nat} (hgd : o.guard = none) (s y : Operand)
    (ho : o.op = .call { callee := .builtin .append, args := #[s, y], argTypes := #[42, 42] })
    (x : Nat) (hs : a.eval s = v) (hrow : Row w0 own k 31 1 v n (prow xs)) (hn : n ≤ 4000000000000)
    {q : Nat} (hx : a.eval y = .slice (some ⟨q, 0, none⟩) 1 1) (hq : q = w0.heap.size)
    (h : ∀ v' w' own', Row w' own' k 31 1 v' (n + 1) (prow (xs ++ [x])) → Ext (fun c => c = k) w0 w' own own' → wpList Try.prog ops Q rest (a.put o.dst v') w') :
    wpList Try.prog ops Q (o :: rest) a (w0.alloc (.cells #[.pointer (some ⟨x, 0, none⟩)] 31)) := by
  subst hq
  obtain ⟨i0, hi0, hz0, hz1, hz2⟩ := parts_ptrL
  have hb1 : n + 1 ≤ maxLen := by unfold maxLen; omega
  have hb2 : (n + 1) * 8 ≤ 140737488355328 := by omega
  refine wpList_append_row hgd s y 42 ho i0 (.pointer none) 8 Try.underlying42 hi0 hz0 hz1 hz2 rfl (by decide) hs (hrow.alloc _) ⟨w0.heap.size, 0, none⟩ 1 1 [.pointer (some ⟨x, 0, none⟩)] hx rfl (one_cell (new_cell rfl)) (one_ok rfl) hb1 hb2 ?_
  intro v' w' h1 h2 _
  refine h v' w' _ ?_ ((Ext.refl.alloc _).trans h2)
  simpa [prow] using h1
section
variable {w : World} {own : Nat → Nat} {ka kt ko a t o : Nat} {V : AV} {T : TV} {O : OV}
/-! ### Intern, by what its steps keep -/
def IvInv (Q : St → Nat → Prop) (w0 : World) (own0 : Nat → Nat) (ka kt K a t o : Nat) (V0 : AV) (k : Nat) (g : Nat) (w : World) : Prop :=
  ∃ (own : Nat → Nat) (s : St) (p : Nat), Q s p ∧ p ≤ g ∧ s.O.next ≠ 9 ∧ s.V.faults + g ≤ V0.faults + k ∧ s.V.made + g ≤ V0.made + k ∧ Arena w own ka a s.V ∧ Table w own kt t a s.T ∧ OpAt w own K o t s.O ∧ Ext (fun c => (c = ka ∨ c = kt) ∨ c = K) w0 w own0 own
set_option maxHeartbeats 2000000 in
theorem Intern_inv (Q : St → Nat → Prop) (hA : Arena w own ka a V) (hT : Table w own kt t a T) (hat : ka ≠ kt) (hb : 1 ≤ T.buckets ∧ T.buckets ≤ 64) (s : ByteArray) (hs : s.size ≤ 9223372036854775807) (k : Nat) (h0 : Q ⟨V, T, OV.begin_ T s⟩ k)
    (hstep : ∀ s p, s.V.Ok → Q s p → s.O.next ≠ 9 → ∃ p', p' + 1 ≤ p ∧ Q s.step p') (hf : V.faults + k < 1000000000000000) (hm : V.made + k < 1000000000000000) :
    Calls Try.prog 17 #[.pointer (some ⟨t, 0, none⟩), .string s] w fun e w' => ∃ s own' p, Q s p ∧ s.O.next = 9 ∧ s.V.made ≤ V.made + k ∧ e = .returned s.O.answer ∧ Ext (fun c => c = ka ∨ c = kt) w w' own own' ∧
      Arena w' own' ka a s.V ∧ Table w' own' kt t a s.T := by
  obtain ⟨K, hK⟩ := fresh_colour own w.heap.size
  have hka : ka < K := by
    obtain ⟨h1, h2⟩ := hA.lt
    rw [← h2]; exact hK a h1
  have hkt : kt < K := by
    obtain ⟨_, _, _, hT1⟩ := hT
    have := hK t hT1.root.lt
    rw [hT1.root.col] at this
    exact this
  have HBG := Lib.hid (Begin_any (own := own) hT hb s hs K)
  have HA := Lib.hid hA
  have HT := Lib.hid hT
  have HK := Lib.hid hK
  have HS := Lib.hid hstep
  have H0 := Lib.hid h0
  clear hA hT hK hstep h0
  go_enter Try.func17, Try.ntmps17
  go_wp2_with fail
  refine HBG.out.mono ?_
  rintro e w2 ⟨o, rfl, ho, hB, hO2⟩
  have hX : ∀ M, Ext M w w2 own (ow own w.heap.size K) := fun M => Ext.of_below hB own K
  have hA2 := HA.out.ext (hX (fun _ => False)) (by simp)
  have hT2 := HT.out.ext (hX (fun _ => False)) (by simp)
  have HE2 := Lib.hid (hX (fun c => (c = ka ∨ c = kt) ∨ c = K))
  clear hB hX HBG HA HT
  generalize ow own w.heap.size K = own2 at *
  go_wp2_with fail
  go_loopg [] k (fun g wr => IvInv Q w own ka kt K a t o V k g wr)
  case atStart => exact ⟨own2, ⟨V, T, OV.begin_ T s⟩, k, H0.out, Nat.le_refl _, by show (0 : Int) ≠ 9; decide, Int.le_refl _, Int.le_refl _, hA2, hT2, hO2, HE2.out⟩
  case round =>
    clear hA2 hT2 hO2 HE2
    obtain ⟨own3, st, p, hQ, hp, hn9, hif, him, hA, hT, hO, hE⟩ := hrel
    have HE := Lib.hid hE
    obtain ⟨p', hp', hQ'⟩ := HS.out st p hA.ok hQ hn9
    have hsf := stepV_f st.V st.T st.O
    have HST := Lib.hid (Step_any hA hT hO hat (by omega) (by omega) (by omega) (by omega))
    have e1 : stepV st.V st.T st.O = st.step.V := rfl
    have e2 : stepT st.V st.T st.O = st.step.T := rfl
    have e3 : stepO st.V st.T st.O = st.step.O := rfl
    rw [e1, e2, e3] at HST
    rw [e1] at hsf
    clear hA hT hO hE hQ e1 e2 e3
    generalize st.step = st2 at *
    have HQ := Lib.hid hQ'
    clear hQ'
    go_wp2_with fail
    refine HST.out.mono ?_
    rintro e w3 ⟨rfl, own4, hE4, hA4, hT4, hO4⟩
    have HE4 := Lib.hid (HE.out.trans (hE4.mono (M' := fun c => (c = ka ∨ c = kt) ∨ c = K) (by intro c h; rcases h with h | h | h <;> simp [h])))
    clear hE4 HE HST
    by_cases h9 : st2.O.next = 9
    · have b1 : (st2.O.next == 9) = true := by simp [h9]
      have H9 := Lib.hid h9
      have HANS := Lib.hid (Answer_any hO4)
      clear h9
      go_wp2_with fail
      refine HANS.out.mono ?_
      rintro e w5 ⟨rfl, n5, rfl⟩
      have hX : ∀ M, Ext M w3 (w3.drewN n5) own4 own4 := fun M => Ext.refl.drewN n5
      have hA5 := hA4.ext (hX (fun _ => False)) (by simp)
      have hT5 := hT4.ext (hX (fun _ => False)) (by simp)
      have HE5 := Lib.hid (ext_drop (HE4.out.trans (hX _)) HK.out)
      obtain ⟨va, ve, hve⟩ : ∃ x y, st2.O.answer = .tuple #[.int .i64 x, .int .i64 y] := by
        unfold OV.answer; split
        · exact ⟨_, _, rfl⟩
        · exact ⟨_, _, rfl⟩
      have HVE := Lib.hid hve
      rw [hve]
      clear hA4 hT4 hO4 HE4 HANS hX hve
      go_wp2_with fail
      go_ret2
      exact ⟨st2, own4, p', HQ.out, H9.out, by omega, by rw [HVE.out]; rfl, HE5.out, hA5, hT5⟩
    · have b1 : (st2.O.next == 9) = false := by simp [h9]
      have H9 := Lib.hid h9
      clear h9
      go_wp2_with fail
      go_roundg (gk - 1)
      case measure => omega
      case rel => exact ⟨own4, st2, p', HQ.out, by omega, H9.out, by omega, by omega, hA4, hT4, hO4, HE4.out⟩
end
/-! ### operations under way -/
def FQ (nb m : Nat) (s : St) (p : Nat) : Prop := ∃ ls, Tab s.V s.T ls ∧ OpP s.V s.T ls s.O p ∧ s.V.faults = 0 ∧ s.T.buckets = nb ∧ totalN ls nb ≤ (if s.O.next = 9 then m + 1 else m)
theorem FQ.step {nb m : Nat} (s : St) (p : Nat) (hok : s.V.Ok) (h : FQ nb m s p) (h9 : s.O.next ≠ 9) : ∃ p', p' + 1 ≤ p ∧ FQ nb m s.step p' := by
  obtain ⟨ls, hT, hO, hf, hb, ht⟩ := h
  rw [if_neg h9] at ht
  obtain ⟨ls', p', hs⟩ := step_free hok hT hO h9
  have hpos := hO.pos h9
  by_cases h : s.step.O.next = 9
  · have h0 : p' = 0 := hs.op.over h
    refine ⟨0, by omega, ls', hs.tab, by have := hs.op; rw [h0] at this; exact this, by show (stepV s.V s.T s.O).faults = 0; rw [hs.faults]; exact hf, by show (stepT s.V s.T s.O).buckets = nb; rw [hs.table.2.1]; exact hb, ?_⟩
    rw [if_pos h]
    have := hs.total nb
    omega
  · obtain ⟨e1, e2⟩ := hs.lists.1 h
    refine ⟨p', by omega, ls', hs.tab, hs.op, by show (stepV s.V s.T s.O).faults = 0; rw [hs.faults]; exact hf, by show (stepT s.V s.T s.O).buckets = nb; rw [hs.table.2.1]; exact hb, ?_⟩
    rw [if_neg h, e1]
    exact ht
def sumF (P : Nat → Nat) : Nat → Nat
  | 0 => 0
  | n + 1 => sumF P n + P n
theorem sumF_le {P Q : Nat → Nat} : ∀ n, (∀ j, j < n → P j ≤ Q j) → sumF P n ≤ sumF Q n
  | 0, _ => Nat.le_refl _
  | n + 1, h => by
    have := sumF_le n (fun j hj => h j (by omega))
    have := h n (by omega)
    show sumF P n + P n ≤ sumF Q n + Q n
    omega
theorem sumF_lt {P Q : Nat → Nat} : ∀ n, (∀ j, j < n → P j ≤ Q j) → (∃ j, j < n ∧ P j + 1 ≤ Q j) → sumF P n + 1 ≤ sumF Q n
  | 0, _, ⟨j, h, _⟩ => by omega
  | n + 1, h, ⟨j, hj, hlt⟩ => by
    show sumF P n + P n + 1 ≤ sumF Q n + Q n
    by_cases he : j = n
    · subst he
      have := sumF_le j (fun i hi => h i (by omega))
      omega
    · have := sumF_lt n (fun i hi => h i (by omega)) ⟨j, by omega, hlt⟩
      have := h n (by omega)
      omega
def liveF (Os : Nat → OV) : Nat → Nat
  | 0 => 0
  | n + 1 => liveF Os n + (if (Os n).next = 9 then 0 else 1)
theorem sumF_live {P : Nat → Nat} {Os : Nat → OV} {B : Nat} : ∀ n, (∀ j, j < n → P j ≤ (if (Os j).next = 9 then 0 else B)) → sumF P n ≤ liveF Os n * B
  | 0, _ => Nat.zero_le _
  | n + 1, h => by
    have h1 := sumF_live n (fun j hj => h j (by omega))
    have h2 := h n (by omega)
    show sumF P n + P n ≤ (liveF Os n + (if (Os n).next = 9 then 0 else 1)) * B
    rw [Nat.add_mul]
    split at h2
    · rename_i he; rw [if_pos he]; omega
    · rename_i he; rw [if_neg he]; omega
theorem liveF_pos {Os : Nat → OV} : ∀ n, 0 < liveF Os n → ∃ j, j < n ∧ (Os j).next ≠ 9
  | 0, h => by simp [liveF] at h
  | n + 1, h => by
    by_cases he : (Os n).next = 9
    · have h2 : liveF Os (n + 1) = liveF Os n := by show liveF Os n + (if (Os n).next = 9 then 0 else 1) = _; rw [if_pos he]; omega
      rw [h2] at h
      obtain ⟨j, h1, h3⟩ := liveF_pos n h
      exact ⟨j, by omega, h3⟩
    · exact ⟨n, by omega, he⟩
theorem liveF_le (Os : Nat → OV) : ∀ n, liveF Os n ≤ n
  | 0 => Nat.le_refl _
  | n + 1 => by
    have := liveF_le Os n
    show liveF Os n + (if (Os n).next = 9 then 0 else 1) ≤ n + 1
    split <;> omega
def upd (Os : Nat → OV) (q : Nat) (O : OV) : Nat → OV := fun j => if j = q then O else Os j
theorem liveF_upd (Os : Nat → OV) (q : Nat) (O : OV) (hq : (Os q).next ≠ 9) : ∀ n, (q < n → liveF (upd Os q O) n = (if O.next = 9 then liveF Os n - 1 else liveF Os n) ∧ 1 ≤ liveF Os n) ∧ (n ≤ q → liveF (upd Os q O) n = liveF Os n)
  | 0 => ⟨fun h => by omega, fun _ => rfl⟩
  | n + 1 => by
    obtain ⟨h1, h2⟩ := liveF_upd Os q O hq n
    have e : liveF (upd Os q O) (n + 1) = liveF (upd Os q O) n + (if (upd Os q O n).next = 9 then 0 else 1) := rfl
    have e0 : liveF Os (n + 1) = liveF Os n + (if (Os n).next = 9 then 0 else 1) := rfl
    rw [e, e0]
    by_cases hn : n = q
    · subst hn
      have e1 : upd Os n O n = O := by unfold upd; rw [if_pos rfl]
      have := h2 (Nat.le_refl _)
      rw [e1, this]
      refine ⟨fun _ => ?_, fun h => by omega⟩
      rw [if_neg hq]
      split <;> omega
    · have e1 : upd Os q O n = Os n := by unfold upd; rw [if_neg hn]
      rw [e1]
      refine ⟨fun h => ?_, fun h => by rw [h2 (by omega)]⟩
      obtain ⟨a1, a2⟩ := h1 (by omega)
      rw [a1]
      constructor
      · split <;> split <;> omega
      · omega
/-- What is true of all operations under way. -/
structure AllP (V : AV) (T : TV) (ls : Nat → List Int) (Os : Nat → OV) (P : Nat → Nat) (n : Nat) : Prop where
  tab : Tab V T ls
  op : ∀ j, j < n → OpP V T ls (Os j) (P j)
  dis : ∀ i j, i < n → j < n → i ≠ j → (Os i).next ≠ 9 → (Os j).next ≠ 9 → 0 < (Os i).node → (Os i).node ≠ (Os j).node
theorem AllP.step {V : AV} {T : TV} {ls : Nat → List Int} {Os : Nat → OV} {P : Nat → Nat} {n q nb : Nat} (h : AllP V T ls Os P n) (hok : V.Ok) (hq : q < n) (h9 : (Os q).next ≠ 9) (hnb : T.buckets = nb) :
    ∃ ls' P', AllP (stepV V T (Os q)) (stepT V T (Os q)) ls' (upd Os q (stepO V T (Os q))) P' n ∧ (stepV V T (Os q)).faults = V.faults ∧ (stepT V T (Os q)).buckets = nb ∧
      ((stepO V T (Os q)).next ≠ 9 → sumF P' n + 1 ≤ sumF P n ∧ totalN ls' nb = totalN ls nb) ∧ totalN ls' nb ≤ totalN ls nb + 1 ∧ sumF P' n ≤ liveF (upd Os q (stepO V T (Os q))) n * (2 * totalN ls' nb + 11) := by
  obtain ⟨ls', p', hs⟩ := step_free hok h.tab (h.op q hq) h9
  have hoth : ∀ j, j < n → j ≠ q → ∃ p2, OpP (stepV V T (Os q)) (stepT V T (Os q)) ls' (Os j) p2 ∧ (ls' = ls → p2 = P j) := fun j hj hjq =>
    (h.op j hj).other h.tab hs fun h1 h2 h3 => h.dis j q hj hq hjq h1 h9 h2
  have hex : ∀ j, ∃ p2, j < n → OpP (stepV V T (Os q)) (stepT V T (Os q)) ls' (upd Os q (stepO V T (Os q)) j) p2 ∧ (j = q → p2 = p') ∧ (j ≠ q → ls' = ls → p2 = P j) := fun j => by
    by_cases hj : j < n
    · by_cases hjq : j = q
      · exact ⟨p', fun _ => ⟨by unfold upd; rw [if_pos hjq]; exact hs.op, fun _ => rfl, fun h => absurd hjq h⟩⟩
      · obtain ⟨p2, h1, h2⟩ := hoth j hj hjq
        exact ⟨p2, fun _ => ⟨by unfold upd; rw [if_neg hjq]; exact h1, fun h => absurd h hjq, fun _ => h2⟩⟩
    · exact ⟨0, fun h => absurd h hj⟩
  refine ⟨ls', fun j => (hex j).choose, ⟨hs.tab, fun j hj => ((hex j).choose_spec hj).1, fun i j hi hj hij h1 h2 h3 => ?_⟩, hs.faults, by rw [hs.table.2.1]; exact hnb, fun hn9 => ?_, hs.total nb, ?_⟩
  · unfold upd at h1 h2 h3 ⊢
    by_cases hiq : i = q
    · rw [if_pos hiq] at h1 h3 ⊢
      rw [if_neg (by omega)] at h2 ⊢
      rcases hs.node with e | e | ⟨e1, e2⟩
      · rw [e] at h3 ⊢; exact h.dis q j hq hj (by omega) h9 h2 h3
      · omega
      · intro e
        have hjn : 0 < (Os j).node := by rw [← e]; exact h3
        obtain ⟨_, ⟨y, hy⟩, _⟩ := (h.op j hj).priv h2 hjn
        rw [← e, e2] at hy
        cases hy
    · rw [if_neg hiq] at h1 h3 ⊢
      by_cases hjq : j = q
      · rw [if_pos hjq] at h2 ⊢
        rcases hs.node with e | e | ⟨e1, e2⟩
        · rw [e]; exact h.dis i q hi hq hiq h1 h9 h3
        · rw [e]; omega
        · intro e
          obtain ⟨_, ⟨y, hy⟩, _⟩ := (h.op i hi).priv h1 h3
          rw [e, e2] at hy
          cases hy
      · rw [if_neg hjq] at h2 ⊢
        exact h.dis i j hi hj hij h1 h2 h3
  · obtain ⟨e1, e2⟩ := hs.lists.1 hn9
    refine ⟨sumF_lt n (fun j hj => ?_) ⟨q, hq, ?_⟩, by rw [e1]⟩
    · by_cases hjq : j = q
      · have := ((hex j).choose_spec hj).2.1 hjq
        rw [this, hjq]; omega
      · have := ((hex j).choose_spec hj).2.2 hjq e1
        omega
    · have := ((hex q).choose_spec hq).2.1 rfl
      rw [this]; omega
  · refine sumF_live n fun j hj => ?_
    have ho := ((hex j).choose_spec hj).1
    split
    · rename_i h0; exact Nat.le_of_eq (ho.over h0)
    · refine ho.le fun c c1 c2 => totalN_ge ls' nb c c1 ?_
      rw [hs.table.2.1, hnb] at c2
      omega
/-! ### the start -/
theorem fresh_tab (b : Int) : (AV.fresh 65536).allocErr (min (max b 1) 64 + 1) = 0 ∧ Tab ((AV.fresh 65536).alloc (min (max b 1) 64 + 1)) (TV.fresh 1 b 4096) (fun _ => []) ∧ ((AV.fresh 65536).alloc (min (max b 1) 64 + 1)).faults = 0 ∧ ((AV.fresh 65536).alloc (min (max b 1) 64 + 1)).made = 1 := by
  have hb1 : 1 ≤ min (max b 1) 64 ∧ min (max b 1) 64 ≤ 64 := by omega
  have hT : TV.fresh 1 b 4096 = ⟨1, min (max b 1) 64, min (max 4096 0) 4096, fun _ => none⟩ := rfl
  rw [hT]
  generalize min (max b 1) 64 = m at *
  have he : (AV.fresh 65536).allocErr (m + 1) = 0 := by
    have hl : (AV.fresh 65536).most - (AV.fresh 65536).live = 65536 := rfl
    unfold AV.allocErr
    rw [if_neg (by omega), hl, if_neg (by omega)]
  have hf : ((AV.fresh 65536).alloc (m + 1)).find 1 = some (List.replicate (m + 1).toNat 0) := by
    unfold AV.alloc
    rw [if_pos he]
    rfl
  refine ⟨he, ⟨hb1, ⟨_, hf, ?_, fun c h1 h2 => ?_⟩, fun c h1 h2 => trivial⟩, ?_, ?_⟩
  · rw [List.length_replicate]; show ((m + 1).toNat : Int) = m + 1; omega
  · show (List.replicate (m + 1).toNat (0 : Int)).getD c 0 = 0
    rw [List.getD_eq_getElem?_getD, List.getElem?_replicate]
    split <;> rfl
  · unfold AV.alloc; rw [if_pos he]; rfl
  · unfold AV.alloc; rw [if_pos he]; rfl
theorem liveF_all {Os : Nat → OV} : ∀ n, (∀ j, j < n → (Os j).next ≠ 9) → liveF Os n = n
  | 0, _ => rfl
  | n + 1, h => by
    have := liveF_all n (fun j hj => h j (by omega))
    show liveF Os n + (if (Os n).next = 9 then 0 else 1) = n + 1
    rw [if_neg (h n (by omega)), this]
theorem reach_mod (p n j : Nat) (hj : j < n) : ∃ d, d < n ∧ (p + d) % n = j := by
  have hr : p % n < n := Nat.mod_lt _ (by omega)
  have he := Nat.div_add_mod p n
  generalize p % n = r at *
  generalize p / n = q at *
  subst he
  by_cases h : r ≤ j
  · refine ⟨j - r, by omega, ?_⟩
    rw [show n * q + r + (j - r) = j + n * q by omega, Nat.add_mul_mod_self_left, Nat.mod_eq_of_lt hj]
  · refine ⟨j + n - r, by omega, ?_⟩
    rw [show n * q + r + (j + n - r) = j + n + n * q by omega, Nat.add_mul_mod_self_left, Nat.add_mod_right, Nat.mod_eq_of_lt hj]
def cutL (ls : Nat → List Int) (nb : Nat) : Nat → List Int := fun c => if 1 ≤ c ∧ c ≤ nb then ls c else []
theorem totalN_cut (ls : Nat → List Int) (nb : Nat) : ∀ k, k ≤ nb → totalN (cutL ls nb) k = totalN ls k
  | 0, _ => rfl
  | k + 1, h => by
    show totalN (cutL ls nb) k + (cutL ls nb (k + 1)).length = totalN ls k + (ls (k + 1)).length
    rw [totalN_cut ls nb k (by omega)]
    unfold cutL
    rw [if_pos (by omega)]
section
variable {w : World} {own : Nat → Nat} {ka kt ko a t o : Nat} {V : AV} {T : TV} {O : OV} {ls : Nat → List Int} {nb : Nat}
theorem Len_in (hA : Arena w own ka a V) (hT : Table w own kt t a T) (hat : ka ≠ kt) (hf : V.faults < 1000000000000000) (hS : Tab V T ls) (hnb : T.buckets = nb) (hl : totalN ls nb ≤ 1000000) :
    Calls Try.prog 14 #[.pointer (some ⟨t, 0, none⟩)] w fun e w' => ∃ own', e = .returned (.int .i64 (totalN ls nb : Nat)) ∧ Arena w' own' ka a V ∧ Table w' own' kt t a T ∧ Ext (fun c => c = ka) w w' own own' := by
  have hc : ∀ c : Nat, 1 ≤ c → (c : Int) ≤ T.buckets → cutL ls nb c = ls c := fun c h1 h2 => by unfold cutL; rw [if_pos (by omega)]
  have := Len_any hA hT hat hf (ls := cutL ls nb) ⟨hS.bk, ?_, fun c h1 h2 => by rw [hc c h1 h2]; exact hS.chain c h1 h2⟩ hnb fun c => ?_
  · rwa [totalN_cut ls nb nb (Nat.le_refl _)] at this
  · obtain ⟨xs, h1, h2, h3⟩ := hS.root
    exact ⟨xs, h1, h2, fun c q1 q2 => by rw [hc c q1 q2]; exact h3 c q1 q2⟩
  · unfold cutL
    split
    · rename_i h
      have := totalN_ge ls nb c h.1 h.2
      omega
    · exact Nat.zero_le _
end
def bnd (x t : Nat) : Nat := x * (2 * (t + x) + 16)
theorem bnd_le {x t : Nat} (h1 : x ≤ 12) (h2 : t + x ≤ 52) : bnd x t ≤ 1440 := Nat.mul_le_mul h1 (show 2 * (t + x) + 16 ≤ 120 by omega)
theorem bnd_cast (x t : Nat) : (x : Int) * (2 * ((t : Int) + x) + 16) = (bnd x t : Nat) := by unfold bnd; push_cast; rfl
theorem prow_get {w : World} {own : Nat → Nat} {k g n c : Nat} {E : TypeId} {xs : List Nat} (h : Row w own k E 1 (.slice (some ⟨g, 0, none⟩) n c) n (prow xs)) (i : Nat) (hi : i < n) (hx : i < xs.length) : w.cell? ⟨g, i, none⟩ = some (.pointer (some ⟨xs[i], 0, none⟩)) := by
  obtain ⟨g', e, _, _, hx', hc⟩ := h.prow_at hi
  injection e with e
  injection e with e
  subst e
  exact hc
def Fr1 (w0 : World) (a t nb n : Nat) (g : Nat) (iv : Value) (w : World) : Prop :=
  ∃ (own : Nat → Nat) (i : Nat) (ls : Nat → List Int) (V : AV) (T : TV), iv = .int .i64 i ∧ i + g = n ∧ Tab V T ls ∧ V.faults = 0 ∧ V.made ≤ 1 + 100 * (min i 40 : Nat) ∧ T.buckets = nb ∧ totalN ls nb ≤ min i 40 ∧
    Arena w own 1 a V ∧ Table w own 2 t a T ∧ Ext (fun c => c ≠ 0) w0 w (fun _ => 0) own
def Fr2 (w0 : World) (a t n : Nat) (ls : Nat → List Int) (V : AV) (T : TV) (g : Nat) (sv iv : Value) (w : World) : Prop :=
  ∃ (own : Nat → Nat) (i : Nat) (xs : List Nat) (Os : Nat → OV), iv = .int .i64 i ∧ i + g = n ∧ xs.length = min i 12 ∧ Row w own 3 31 1 sv xs.length (prow xs) ∧
    (∀ j (hj : j < xs.length), OpAt w own (10 + j) xs[j] t (Os j) ∧ (Os j).node = 0 ∧ (Os j).next = 0 ∧ ∃ p, OpP V T ls (Os j) p) ∧ Arena w own 1 a V ∧ Table w own 2 t a T ∧ Ext (fun c => c ≠ 0) w0 w (fun _ => 0) own
def Fr3 (w0 : World) (a t nb : Nat) (xs : List Nat) (sv : Value) (g : Nat) (lv bv kv : Value) (w : World) : Prop :=
  ∃ (own : Nat → Nat) (ls : Nat → List Int) (V : AV) (T : TV) (Os : Nat → OV) (P : Nat → Nat) (k bd : Nat), lv = .int .i64 (liveF Os xs.length : Nat) ∧ bv = .int .i64 bd ∧ kv = .int .i64 k ∧ liveF Os xs.length * 2000 + bd ≤ g ∧ k + g ≤ 30000 ∧
    sumF P xs.length ≤ bd ∧ bd ≤ 1728 ∧ totalN ls nb + liveF Os xs.length ≤ 40 + xs.length ∧ AllP V T ls Os P xs.length ∧ V.faults = 0 ∧ V.made + g ≤ 50000 ∧ T.buckets = nb ∧ Arena w own 1 a V ∧ Table w own 2 t a T ∧
    Row w own 3 31 1 sv xs.length (prow xs) ∧ (∀ j (hj : j < xs.length), OpAt w own (10 + j) xs[j] t (Os j)) ∧ Ext (fun c => c ≠ 0) w0 w (fun _ => 0) own
def Fr4 (w1 : World) (xs : List Nat) (p d : Nat) (g : Nat) (ov iv : Value) (w : World) : Prop :=
  ∃ (q i : Nat) (hq : q < xs.length), ov = .pointer (some ⟨xs[q], 0, none⟩) ∧ iv = .int .i64 i ∧ q = (p + (i - 1)) % xs.length ∧ i + g = d + 1 ∧ w = w1
set_option maxHeartbeats 4000000 in
theorem atomsFree_walk (w : World) (buckets : Int) (hbk : -9223372036854775808 ≤ buckets ∧ buckets ≤ 9223372036854775807) (v1 : Value) (n1 b1 off1 : Nat) (f1 : Nat → ByteArray) (hs1 : SRecs Try.prog 22 w v1 n1 b1 off1 f1) (v2 : Value) (n2 b2 off2 : Nat) (f2 : Nat → ByteArray) (hs2 : SRecs Try.prog 22 w v2 n2 b2 off2 f2) (v3 : Value) (n3 b3 off3 : Nat) (f3 : Nat → Nat → Int) (hs3 : Recs Try.prog 30 1 w v3 n3 b3 off3 f3) :
    Calls Try.prog 4 #[.int .i64 buckets, v1, v2, v3] w fun e w' => e = .returned (.bool true) ∧ Below w.heap.size w w' := by
  have hlen1 := hs1.len
  have hidx1 := hs1.idx
  have hsz1 := hs1.size
  have hlen2 := hs2.len
  have hidx2 := hs2.idx
  have hsz2 := hs2.size
  have hlen3 := hs3.len
  have hidx3 := hs3.idx
  have hsz3 := hs3.size
  go_enter Try.func4, Try.ntmps4
  go_wp2_with fail
  refine (alive3_any w).mono ?_
  rintro e w1 ⟨rfl, hB⟩
  have H1 := Lib.hid (Ext.of_below (M := fun c => c ≠ 0) hB (fun _ => 0) 1)
  generalize ow (fun _ => 0) w.heap.size 1 = own1 at *
  clear hB
  go_wp2_with fail
  refine (New_any 65536 1 own1 w1).mono ?_
  rintro e w2 ⟨rfl, hB, hA⟩
  have H2 := Lib.hid (H1.out.trans (Ext.of_below hB own1 1))
  generalize ow own1 w1.heap.size 1 = own2 at *
  generalize w1.heap.size + 1 = a at *
  clear hB H1
  obtain ⟨f1e, f1t, f1f, f1m⟩ := fresh_tab buckets
  go_wp2_with fail
  refine (TNew_any (kt := 2) hA (by decide) buckets 4096 f1e (by decide)).mono ?_
  rintro e w3 ⟨t, own3, rfl, hE3, hA3, hT3⟩
  have H3 := Lib.hid (H2.out.trans (hE3.mono (M' := fun c => c ≠ 0) (by simp)))
  obtain ⟨nb, hnb⟩ : ∃ nb : Nat, (TV.fresh ((AV.fresh 65536).made + 1) buckets 4096).buckets = nb := ⟨(min (max buckets 1) 64).toNat, by show min (max buckets 1) 64 = _; omega⟩
  have hnb64 : nb ≤ 64 := by have : min (max buckets 1) 64 = (nb : Int) := hnb; omega
  have HTB := Lib.hid (show Tab _ (TV.fresh ((AV.fresh 65536).made + 1) buckets 4096) _ from f1t)
  have HTT : totalN (fun _ => ([] : List Int)) nb = 0 := by
    have : ∀ m, totalN (fun _ => ([] : List Int)) m = 0 := by intro m; induction m with | zero => rfl | succ m ih => show totalN _ m + 0 = 0; rw [ih]
    exact this nb
  clear hE3 hA H2 f1e f1t
  generalize (AV.fresh 65536).alloc (min (max buckets 1) 64 + 1) = V3 at *
  generalize TV.fresh ((AV.fresh 65536).made + 1) buckets 4096 = T3 at *
  generalize (fun _ : Nat => ([] : List Int)) = ls3 at *
  go_wp2_with fail
  go_loopg [42] n1 (fun g iv wr => Fr1 w a t nb n1 g iv wr)
  case atStart => exact ⟨own3, 0, ls3, V3, T3, rfl, by omega, HTB.out, f1f, by omega, hnb, by omega, hA3, hT3, H3.out⟩
  case round =>
    clear hA3 hT3 H3 HTB HTT f1f f1m hnb
    obtain ⟨own, i, ls, V, T, rfl, hi, htab, hvf, hvm, hbn, htot, hA, hT, hE⟩ := hrel
    have HE := Lib.hid hE
    have HTAB := Lib.hid htab
    clear hE htab
    by_cases hlt : i < n1
    · have hlt2 : (i : Int) < n1 := by omega
      have c1 := hs1.at_ (HE.out.below (by simp)) hlt
      have hsz := hs1.str i hlt
      by_cases h40 : i < 40
      · have h402 : (i : Int) < 40 := by omega
        obtain ⟨p, hop⟩ := begin_op HTAB.out (f1 i)
        have hple := hop.le (M := 40) fun c q1 q2 => by
          have := totalN_ge ls nb c q1 (by omega)
          omega
        have HIN := Lib.hid (Intern_inv (FQ nb (totalN ls nb)) hA hT (by decide) HTAB.out.bk (f1 i) hsz p ⟨ls, HTAB.out, hop, hvf, hbn, by rw [if_neg (show ¬ (OV.begin_ T (f1 i)).next = 9 by show ¬ (0 : Int) = 9; decide)]; exact Nat.le_refl _⟩ (fun s p hok hq h9 => FQ.step s p hok hq h9) (by omega) (by omega))
        clear hA hT hop
        generalize f1 i = nm at *
        go_wp2_with fail
        refine HIN.out.mono ?_
        rintro e w4 ⟨st, own4, p4, ⟨ls4, q1, q2, q3, q4, q5⟩, h9, hmd, rfl, hE4, hA4, hT4⟩
        rw [if_pos h9] at q5
        have HE4 := Lib.hid (HE.out.trans (hE4.mono (M' := fun c => c ≠ 0) (by intro c h; rcases h with rfl | rfl <;> decide)))
        have Q1 := Lib.hid q1
        clear hE4 HE HIN q1 q2 h9 HTAB
        go_wp2_with fail
        go_roundg (n1 - (i + 1))
        case measure => omega
        case rel => exact ⟨own4, i + 1, ls4, st.V, st.T, by go_num, by omega, Q1.out, q3, by omega, q4, by omega, hA4, hT4, HE4.out⟩
      · have h402 : ¬ (i : Int) < 40 := by omega
        generalize f1 i = nm at *
        go_wp2_with fail
        go_roundg (n1 - (i + 1))
        case measure => omega
        case rel => exact ⟨own, i + 1, ls, V, T, by go_num, by omega, HTAB.out, hvf, by omega, hbn, by omega, hA, hT, HE.out⟩
    · obtain rfl : i = n1 := by omega
      clear hlt
      go_wp2_with fail
      have hX : ∀ (M : Nat → Prop) (o1 : Obj), Ext M wr (wr.alloc o1) own (ow own wr.heap.size 3) := fun M o1 => (Ext.refl.ow 3).alloc o1
      go_loopg [14, 56] n2 (fun g sv iv wr => Fr2 w a t n2 ls V T g sv iv wr)
      case atStart =>
        refine ⟨ow own wr.heap.size 3, 0, [], fun _ => OV.begin_ T ByteArray.empty, rfl, by omega, rfl, ⟨rfl, .inr ⟨wr.heap.size, 0, #[], rfl, ?_, Nat.le_refl _, by unfold maxLen; decide, rfl, rfl⟩⟩, fun j hj => absurd hj (by simp), hA.ext (hX (fun _ => False) _) (by simp), hT.ext (hX (fun _ => False) _) (by simp), HE.out.trans (hX _ _)⟩
        exact Blk.new wr _ (ow_ge (Nat.le_refl _))
      case round =>
        clear hA hT HE hX
        obtain ⟨own, i, xs, Os, rfl, hi2, hxl, hr, hops, hA, hT, hE⟩ := hrel
        have HE := Lib.hid hE
        have HOP := Lib.hid hops
        have HXL := Lib.hid hxl
        have hx12 : xs.length ≤ 12 := by omega
        clear hE hops hxl
        by_cases hlt : i < n2
        · have hlt2 : (i : Int) < n2 := by omega
          have c1 := hs2.at_ (HE.out.below (by simp)) hlt
          have hsz := hs2.str i hlt
          by_cases h12 : i < 12
          · have h122 : (i : Int) < 12 := by omega
            have HBG := Lib.hid (Begin_any (own := own) hT HTAB.out.bk (f2 i) hsz (10 + xs.length))
            obtain ⟨O, hO⟩ : ∃ O, O = OV.begin_ T (f2 i) := ⟨_, rfl⟩
            rw [← hO] at HBG
            have HO := Lib.hid (show O.node = 0 ∧ O.next = 0 ∧ ∃ p, OpP V T ls O p by subst hO; exact ⟨rfl, rfl, begin_op HTAB.out _⟩)
            clear hO
            obtain ⟨ra, rc, rfl⟩ := hr.shape
            generalize f2 i = nm at *
            go_wp2_with fail
            refine HBG.out.mono ?_
            rintro e w4 ⟨o, rfl, ho, hB, hO4⟩
            have hX : ∀ M, Ext M wr w4 own (ow own wr.heap.size (10 + xs.length)) := fun M => Ext.of_below hB own _
            have hA4 := hA.ext (hX (fun _ => False)) (by simp)
            have hT4 := hT.ext (hX (fun _ => False)) (by simp)
            have hr4 := hr.ext (hX (fun _ => False)) (by simp)
            have HOP4 := Lib.hid (fun j (hj : j < xs.length) => (HOP.out j hj).1.ext (hX (fun _ => False)) (by simp))
            have HE4 := Lib.hid (HE.out.trans (hX _))
            clear hX hB HE HBG hA hT hr ho
            generalize ow own wr.heap.size (10 + xs.length) = own4 at *
            have hn4 : xs.length ≤ 4000000000000 := by omega
            go_wp2_with (at_builtin; refine wpList_append_prow rfl _ _ rfl o rfl hr4 hn4 rfl (by simp) ?_; intro v5 w5 own5 hr5 hE5)
            have hA5 := hA4.ext hE5 (by decide)
            have hT5 := hT4.ext hE5 (by decide)
            have hO5 := hO4.ext hE5 (by omega)
            have HOP5 := Lib.hid (fun j (hj : j < xs.length) => (HOP4.out j hj).ext hE5 (by omega))
            have HE5 := Lib.hid (HE4.out.trans (hE5.mono (M' := fun c => c ≠ 0) (by intro c h; subst h; decide)))
            clear hE5 hA4 hT4 hr4 hO4 HOP4 HE4
            go_roundg (n2 - (i + 1))
            case measure => omega
            case rel =>
              refine ⟨own5, i + 1, xs ++ [o], fun j => if j = xs.length then O else Os j, by go_num, by omega, by have := HXL.out; rw [List.length_append, List.length_singleton]; omega, by rw [List.length_append, List.length_singleton]; exact hr5, fun j hj => ?_, hA5, hT5, HE5.out⟩
              rw [List.length_append, List.length_singleton] at hj
              by_cases hjx : j = xs.length
              · subst hjx
                dsimp only
                rw [if_pos rfl, List.getElem_append_right (Nat.le_refl _)]
                simp only [Nat.sub_self, List.getElem_singleton]
                exact ⟨hO5, HO.out⟩
              · dsimp only
                rw [if_neg hjx, List.getElem_append_left (by omega)]
                exact ⟨HOP5.out j (by omega), (HOP.out j (by omega)).2⟩
          · have h122 : ¬ (i : Int) < 12 := by omega
            generalize f2 i = nm at *
            go_wp2_with fail
            go_roundg (n2 - (i + 1))
            case measure => omega
            case rel => exact ⟨own, i + 1, xs, Os, by go_num, by omega, by have := HXL.out; omega, hr, HOP.out, hA, hT, HE.out⟩
        · obtain rfl : i = n2 := by omega
          clear hlt
          obtain ⟨ra, rc, rfl⟩ := hr.shape
          have hout : ∀ (w5 : World), w5 = wr → Below w.heap.size w w5 := by intro w5 h; rw [h]; exact HE.out.below (by simp)
          have HOUT := Lib.hid hout
          clear hout
          by_cases hx0 : xs.length = 0
          · obtain rfl : xs = [] := List.length_eq_zero_iff.1 hx0
            clear hx0
            go_wp2_with fail
            go_ret
            exact ⟨rfl, HOUT.out _ rfl⟩
          by_cases hn0 : n3 = 0
          · subst hn0
            go_wp2_with fail
            go_ret
            exact ⟨rfl, HOUT.out _ rfl⟩
          obtain ⟨P, hall⟩ : ∃ P, AllP V T ls Os P xs.length := by
            have hex : ∀ j, ∃ p, j < xs.length → OpP V T ls (Os j) p := fun j => by
              by_cases hj : j < xs.length
              · obtain ⟨_, _, _, p, hp⟩ := HOP.out j hj
                exact ⟨p, fun _ => hp⟩
              · exact ⟨0, fun h => absurd h hj⟩
            refine ⟨fun j => (hex j).choose, HTAB.out, fun j hj => (hex j).choose_spec hj, fun i j hi hj _ _ _ hpos => ?_⟩
            have := (HOP.out i hi).2.1
            omega
          have hlv : liveF Os xs.length = xs.length := liveF_all _ fun j hj => by have := (HOP.out j hj).2.2.1; omega
          have hsum : sumF P xs.length ≤ liveF Os xs.length * (2 * totalN ls nb + 11) := sumF_live _ fun j hj => by
            rw [if_neg (by have := (HOP.out j hj).2.2.1; omega)]
            exact (hall.op j hj).le fun c q1 q2 => totalN_ge ls nb c q1 (by omega)
          have hsum2 : sumF P xs.length ≤ bnd xs.length (totalN ls nb) := Nat.le_trans hsum (by rw [hlv]; exact Nat.mul_le_mul_left _ (by omega))
          have hbd := bnd_le (x := xs.length) (t := totalN ls nb) hx12 (by omega)
          have hbc := bnd_cast xs.length (totalN ls nb)
          have HALL := Lib.hid hall
          have HLV := Lib.hid hlv
          have HLEN := Lib.hid (Len_in hA hT (by decide) (by omega) HTAB.out hbn (by omega))
          obtain ⟨g, rfl, _⟩ := hr.prow_at (i := 0) (by omega)
          have hx1 : 0 < (xs.length : Int) := by omega
          have hn1 : 0 < (n3 : Int) := by omega
          have hx2 : ((xs.length : Int) == 0) = false := beq_eq_false_iff_ne.2 (by omega)
          have hn2 : ((n3 : Int) == 0) = false := beq_eq_false_iff_ne.2 (by omega)
          clear hx0 hn0
          clear hall hlv hsum hA hT
          go_wp2_with fail
          refine HLEN.out.mono ?_
          rintro e w5 ⟨own5, rfl, hA5, hT5, hE5⟩
          have hr5 := hr.ext hE5 (by decide)
          have HOP5 := Lib.hid (fun j (hj : j < xs.length) => (HOP.out j hj).1.ext hE5 (by omega))
          have HE5 := Lib.hid (HE.out.trans (hE5.mono (M' := fun c => c ≠ 0) (by intro c h; subst h; decide)))
          clear hE5 hr HE HOP HLEN HOUT
          go_wp2_with fail
          go_loopg [17, 18, 19] 26000 (fun gm lv bv kv wr => Fr3 w a t nb xs (.slice (some ⟨g, 0, none⟩) xs.length rc) gm lv bv kv wr)
          case atStart => exact ⟨own5, ls, V, T, Os, P, 0, bnd xs.length (totalN ls nb), by rw [HLV.out], rfl, rfl, by rw [HLV.out]; omega, by omega, hsum2, by omega, by rw [HLV.out]; omega, HALL.out, hvf, by omega, hbn, hA5, hT5, hr5, HOP5.out, HE5.out⟩
          case round =>
            clear HALL HLV hA5 hT5 hr5 HOP5 HE5 hsum2 hbd hbc HTAB hvf hvm hbn htot
            obtain ⟨own, ls, V, T, Os, P, k, bd, rfl, rfl, rfl, hg, hkg, hsum, hbd, htl, hall, hvf, hvm, hbn, hA, hT, hr, hops, hE⟩ := hrel
            have HE := Lib.hid hE
            have HALL := Lib.hid hall
            have HOP := Lib.hid hops
            have HA := Lib.hid hA
            have HT := Lib.hid hT
            have HR := Lib.hid hr
            have HSUM := Lib.hid hsum
            have hle := liveF_le Os xs.length
            clear hE hall hops hA hT hr hsum
            by_cases hL : 0 < liveF Os xs.length
            · have hL2 : 0 < (liveF Os xs.length : Int) := by omega
              have hLV : liveF Os xs.length = liveF Os xs.length := rfl
              obtain ⟨j0, hj0, hj9⟩ := liveF_pos _ hL
              generalize hLe : liveF Os xs.length = L at *
              obtain ⟨G, hG⟩ : ∃ G, G = gk := ⟨_, rfl⟩
              have HG := Lib.hid hG
              rw [← hG] at hg hkg hvm
              clear hG
              obtain ⟨q, hqe⟩ : ∃ q, q = k % n3 := ⟨_, rfl⟩
              have hq : q < n3 := by rw [hqe]; exact Nat.mod_lt _ (by omega)
              have hqc : (k : Int) % n3 = (q : Int) := by rw [hqe]; push_cast; rfl
              clear hqe
              have ck := hs3.at_ (HE.out.below (by simp)) hq (show 0 < 1 by omega)
              rw [Nat.add_zero, Nat.mul_one] at ck
              obtain ⟨m, hm, hbit⟩ := and_le (f3 q 0) 1023 (by decide)
              have hbit : bits .and .i64 (f3 q 0) 1023 = (m : Int) := hbit
              generalize f3 q 0 = fq at *
              obtain ⟨d, hd, hdm⟩ := reach_mod m xs.length j0 hj0
              obtain ⟨q2, hqe⟩ : ∃ q2, q2 = m % xs.length := ⟨_, rfl⟩
              have hq2 : q2 < xs.length := by rw [hqe]; exact Nat.mod_lt _ (by omega)
              have hqc2 : (m : Int) % xs.length = (q2 : Int) := by rw [hqe]; push_cast; rfl
              have HQE := Lib.hid hqe
              have cq := prow_get HR.out q2 hq2 hq2
              have HDM := Lib.hid hdm
              have HJ := Lib.hid hj9
              have HLE := Lib.hid hLe
              clear hj9 hLe hLV hqe hdm
              go_wp2_with fail
              clear ck cq hqc hbit hqc2
              go_loopg [21, 22] (d + 1) (fun gm ov iv wq => Fr4 wr xs m d gm ov iv wq)
              case atStart => exact ⟨q2, 0, hq2, rfl, rfl, by rw [HQE.out]; rfl, by omega, rfl⟩
              case round =>
                clear HQE
                obtain ⟨r, i4, hr, rfl, rfl, hre, hig, rfl⟩ := hrel
                have HOV := Lib.hid (Over_any (HOP.out r hr))
                by_cases h9 : (Os r).next = 9
                · have b1 : ((Os r).next == 9) = true := by simp [h9]
                  have hid : i4 ≤ d := by
                    rcases Nat.lt_or_ge d i4 with h | h
                    · exfalso
                      have : i4 = d + 1 := by omega
                      subst this
                      rw [Nat.add_sub_cancel, HDM.out] at hre
                      subst hre
                      exact HJ.out h9
                    · exact h
                  obtain ⟨r2, hr2⟩ : ∃ r2, r2 = (m + i4) % xs.length := ⟨_, rfl⟩
                  have hr2l : r2 < xs.length := by rw [hr2]; exact Nat.mod_lt _ (by omega)
                  have hr2c : ((m : Int) + i4) % xs.length = (r2 : Int) := by rw [hr2]; push_cast; rfl
                  have cq := prow_get HR.out r2 hr2l hr2l
                  have HR2 := Lib.hid hr2
                  clear hre hr2 h9
                  go_wp2_with fail
                  refine HOV.out.mono ?_
                  rintro e w6 ⟨rfl, rfl⟩
                  go_wp2_with fail
                  go_roundg (d - i4)
                  case measure => omega
                  case rel => exact ⟨r2, i4 + 1, hr2l, rfl, by go_num, HR2.out, by omega, rfl⟩
                · have b1 : ((Os r).next == 9) = false := by simp [h9]
                  clear hre
                  obtain ⟨ls2, P2, hall2, hf2, hb2, hno, htot2, hsum2⟩ := HALL.out.step HA.out.ok hr h9 hbn
                  have hmd := stepV_f V T (Os r)
                  have hlu := ((liveF_upd Os r (stepO V T (Os r)) h9 xs.length).1 hr).1
                  have hlu2 := ((liveF_upd Os r (stepO V T (Os r)) h9 xs.length).1 hr).2
                  have HS := Lib.hid (Step_any HA.out HT.out (HOP.out r hr) (by decide) (by omega) (by omega) (by omega) (by omega))
                  have HALL2 := Lib.hid hall2
                  have HNO := Lib.hid hno
                  have HSUM2 := Lib.hid hsum2
                  have HLU := Lib.hid hlu
                  rw [HLE.out] at hlu2
                  clear hall2 hno hsum2 hlu h9
                  generalize stepV V T (Os r) = V2 at *
                  generalize stepT V T (Os r) = T2 at *
                  generalize stepO V T (Os r) = O2 at *
                  go_wp2_with fail
                  refine HOV.out.mono ?_
                  rintro e w6 ⟨rfl, rfl⟩
                  go_wp2_with fail
                  refine HS.out.mono ?_
                  rintro e w7 ⟨rfl, own7, hE7, hA7, hT7, hO7⟩
                  have hr7 := HR.out.ext hE7 (by omega)
                  have HOP7 := Lib.hid (fun j (hj : j < xs.length) (hjr : j ≠ r) => (HOP.out j hj).ext hE7 (by omega))
                  have HOPS : Hid (∀ j (hj : j < xs.length), OpAt w7 own7 (10 + j) xs[j] t (upd Os r O2 j)) := Lib.hid fun j hj => by
                    unfold upd
                    by_cases hjr : j = r
                    · subst hjr; rw [if_pos rfl]; exact hO7
                    · rw [if_neg hjr]; exact HOP7.out j hj hjr
                  have HE7 := Lib.hid (HE.out.trans (hE7.mono (M' := fun c => c ≠ 0) (by intro c h; omega)))
                  clear hE7 hO7 HOP7 HE HS HR HOP HA HT
                  by_cases h9 : O2.next = 9
                  · have b2 : (O2.next == 9) = true := by simp [h9]
                    have HLU2 := Lib.hid (show liveF (upd Os r O2) xs.length = L - 1 by rw [HLU.out, if_pos h9, HLE.out])
                    obtain ⟨L1, hL1⟩ : ∃ L1, L1 = L - 1 := ⟨_, rfl⟩
                    have hL1c : (L : Int) - 1 = (L1 : Int) := by omega
                    have hbd2 := bnd_le (x := L1) (t := totalN ls2 nb) (by omega) (by omega)
                    have hbc2 := bnd_cast L1 (totalN ls2 nb)
                    have HL1 := Lib.hid hL1
                    have HLEN := Lib.hid (Len_in hA7 hT7 (by decide) (by omega) HALL2.out.tab hb2 (by omega))
                    clear h9 hL1 hA7 hT7 HNO
                    go_wp2_with fail
                    refine HLEN.out.mono ?_
                    rintro e w8 ⟨own8, rfl, hA8, hT8, hE8⟩
                    have hr8 := hr7.ext hE8 (by decide)
                    have HOP8 := Lib.hid (fun j (hj : j < xs.length) => (HOPS.out j hj).ext hE8 (by omega))
                    have HE8 := Lib.hid (HE7.out.trans (hE8.mono (M' := fun c => c ≠ 0) (by intro c h; subst h; decide)))
                    clear hE8 hr7 HE7 HOPS HLEN
                    go_wp2_with fail
                    go_roundg (G - 1)
                    case measure => have := HG.out; omega
                    case rel =>
                      have h1 := HG.out
                      have h2 := HL1.out
                      have h3 := HLU2.out
                      have h4 := HSUM2.out
                      rw [h3, ← h2] at h4
                      refine ⟨own8, ls2, V2, T2, upd Os r O2, P2, k + 1, bnd L1 (totalN ls2 nb), by rw [h3, ← h2], rfl, by go_num, by rw [h3]; omega, by omega, Nat.le_trans h4 (Nat.mul_le_mul_left _ (by omega)), by omega, by rw [h3]; omega, HALL2.out, by omega, by omega, hb2, hA8, hT8, hr8, HOP8.out, HE8.out⟩
                  · have b2 : (O2.next == 9) = false := by simp [h9]
                    have HLU2 := Lib.hid (show liveF (upd Os r O2) xs.length = L by rw [HLU.out, if_neg h9, HLE.out])
                    obtain ⟨n1', n2'⟩ := HNO.out h9
                    have hb1 : 1 ≤ (bd : Int) := by have := HSUM.out; omega
                    have HN1 := Lib.hid n1'
                    have HN2 := Lib.hid n2'
                    clear h9 n1' n2' HNO
                    go_wp2_with fail
                    go_roundg (G - 1)
                    case measure => have := HG.out; omega
                    case rel =>
                      have h1 := HG.out
                      have h3 := HLU2.out
                      have h4 := HSUM.out
                      have h5 := HN1.out
                      have h6 := HN2.out
                      exact ⟨own7, ls2, V2, T2, upd Os r O2, P2, k + 1, bd - 1, by rw [h3], by go_num, by go_num, by rw [h3]; omega, by omega, by omega, by omega, by rw [h3]; omega, HALL2.out, by omega, by omega, hb2, hA7, hT7, hr7, HOPS.out, HE7.out⟩
            · have hL0 : liveF Os xs.length = 0 := by omega
              have hLc : ((liveF Os xs.length : Nat) : Int) = 0 := by omega
              rw [hLc]
              have HL0 := Lib.hid hL0
              have HF := Lib.hid (Faults_any HA.out)
              clear hL hL0 hLc
              go_wp2_with fail
              refine HF.out.mono ?_
              rintro e w6 ⟨rfl, rfl⟩
              have hb0 : (V.faults == 0) = true := by simp [hvf]
              go_wp2_with fail
              go_ret
              exact ⟨by simp, HE.out.below (by simp)⟩
end Go.Proofs.Ytkfinhakhhiabaa
