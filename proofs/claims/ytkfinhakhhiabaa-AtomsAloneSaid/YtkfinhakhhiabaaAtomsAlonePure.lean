/- AtomsAlone, the plain law: one operation at a time, from its begin to its end. No program in sight. -/
import Derived.Test.YtkfinhakhhiabaaAtomsFreePure
import Derived.Test.YtkfinhakhhiabaaAtomsLaw
set_option maxRecDepth 20000
set_option linter.unusedVariables false
set_option linter.unusedSimpArgs false
namespace Go.Proofs.Ytkfinhakhhiabaa
open Go.RowKit Go.PM Go.WideShapes
/-! ### the count -/
theorem Tab.val0 {V : AV} {T : TV} {ls : Nat → List Int} (h : Tab V T ls) : ∃ xs, V.find T.block = some xs ∧ 2 ≤ xs.length ∧ V.val T.block 0 = xs.getD 0 0 ∧ V.err T.block 0 = 0 := by
  obtain ⟨xs, hx, hl, _⟩ := h.root
  have := h.bk
  obtain ⟨e1, e2, _⟩ := AV.val_at hx (i := 0) (by omega)
  exact ⟨xs, hx, by omega, e1, e2⟩
theorem Tab.count_val {V : AV} {T : TV} {ls : Nat → List Int} (h : Tab V T ls) (d : Int) (hb : -1000000 ≤ V.val T.block 0 + d ∧ V.val T.block 0 + d ≤ 1000000) :
    V.addVal T.block 0 d = V.val T.block 0 + d ∧ (V.add T.block 0 d).val T.block 0 = V.val T.block 0 + d := by
  obtain ⟨xs, hx, hl, hv, he⟩ := h.val0
  have h1 : V.addVal T.block 0 d = V.val T.block 0 + d := by
    unfold AV.addVal
    rw [if_pos he]
    unfold wrap64
    omega
  have h2 := (find_store (v := V.val T.block 0 + d) hx (i := 0) (by omega) T.block).1
  rw [if_pos rfl] at h2
  refine ⟨h1, ?_⟩
  have e : V.add T.block 0 d = V.store T.block ((0 : Nat) : Int) (V.val T.block 0 + d) := by unfold AV.add; rw [h1]; rfl
  have h3 : (V.store T.block ((0 : Nat) : Int) (V.val T.block 0 + d)).val T.block 0 = _ := (AV.val_at h2 (i := 0) (by rw [List.length_set]; omega)).1
  rw [e, h3, List.getD_eq_getElem?_getD, List.getElem?_set_self (by omega)]
  rfl
theorem val_find {V V' : AV} {b i : Int} (h : V'.find b = V.find b) : V'.val b i = V.val b i := by unfold AV.val; rw [h]
/-- What is true of arena and table beside an operation. -/
structure Va (V : AV) (T : TV) (ls : Nat → List Int) (n lv : Int) : Prop where
  tab : Tab V T ls
  faults : V.faults = 0
  cnt : V.val T.block 0 = n
  live : V.live ≤ lv
  most : V.most = 65536
def Unk (T : TV) (l : List Int) (s : ByteArray) : Prop := ∀ x ∈ l, (T.nm x).toList ≠ s.toList
/-- Where an operation that is alone stands, and how many steps it has left. -/
inductive Al (T : TV) (ls : Nat → List Int) (s : ByteArray) (c : Nat) (n lv : Int) : St → Nat → Prop where
  | start {V : AV} {O : OV} : Va V T ls n lv → O.name = s → O.cell = c → O.next = 0 → O.node = 0 → O.reserved = false → O.err = 0 → Al T ls s c n lv ⟨V, T, O⟩ ((ls c).length + 8)
  | head {V : AV} {O : OV} : Va V T ls n lv → O.name = s → O.cell = c → O.next = 1 → O.node = 0 → O.reserved = false → O.err = 0 → s.size ≤ 64 → Al T ls s c n lv ⟨V, T, O⟩ ((ls c).length + 7)
  | walk {V : AV} {O : OV} {pre suf : List Int} : Va V T ls n lv → O.name = s → O.cell = c → O.next = 2 → O.node = 0 → O.reserved = false → O.err = 0 → s.size ≤ 64 → ls c = pre ++ suf → Unk T pre s → O.at_ = hd suf → O.first = hd (ls c) → Al T ls s c n lv ⟨V, T, O⟩ (suf.length + 6)
  | reserve {V : AV} {O : OV} : Va V T ls n lv → O.name = s → O.cell = c → O.next = 3 → O.node = 0 → O.reserved = false → O.err = 0 → s.size ≤ 64 → Unk T (ls c) s → O.first = hd (ls c) → Al T ls s c n lv ⟨V, T, O⟩ 5
  | back {V : AV} {O : OV} : Va V T ls (n + 1) lv → O.next = 8 → O.id = 0 → O.err = 3 → s.size ≤ 64 → Unk T (ls c) s → T.most < n + 1 → Al T ls s c n lv ⟨V, T, O⟩ 1
  | make {V : AV} {O : OV} : Va V T ls (n + 1) lv → O.name = s → O.cell = c → O.next = 4 → O.node = 0 → O.err = 0 → s.size ≤ 64 → Unk T (ls c) s → O.first = hd (ls c) → n + 1 ≤ T.most → Al T ls s c n lv ⟨V, T, O⟩ 4
  | lay {V : AV} {O : OV} : Va V (T.put O.node s) ls (n + 1) (lv + 1) → O.cell = c → O.next = 5 → O.err = 0 → Priv V T ls O.node → s.size ≤ 64 → Unk T (ls c) s → O.first = hd (ls c) → n + 1 ≤ T.most → Al T ls s c n lv ⟨V, T.put O.node s, O⟩ 3
  | publish {V : AV} {O : OV} : Va V (T.put O.node s) ls (n + 1) (lv + 1) → O.cell = c → O.next = 6 → O.err = 0 → Priv V T ls O.node → V.find O.node = some [O.first] → s.size ≤ 64 → Unk T (ls c) s → O.first = hd (ls c) → n + 1 ≤ T.most → Al T ls s c n lv ⟨V, T.put O.node s, O⟩ 2
  | long {V : AV} {O : OV} : Va V T ls n lv → O.next = 9 → O.id = 0 → O.err = 2 → 64 < s.size → Al T ls s c n lv ⟨V, T, O⟩ 0
  | hit {V : AV} {O : OV} : Va V T ls n lv → O.next = 9 → O.id ∈ ls c → O.err = 0 → (T.nm O.id).toList = s.toList → s.size ≤ 64 → Al T ls s c n lv ⟨V, T, O⟩ 0
  | full {V : AV} {O : OV} : Va V T ls n lv → O.next = 9 → O.id = 0 → O.err = 3 → Unk T (ls c) s → s.size ≤ 64 → T.most < n + 1 → Al T ls s c n lv ⟨V, T, O⟩ 0
  | made {V : AV} {O : OV} {x : Int} : Va V (T.put x s) (push ls c x) (n + 1) (lv + 1) → O.next = 9 → O.id = x → O.err = 0 → Unk T (ls c) s → s.size ≤ 64 → n + 1 ≤ T.most → 0 < x → (∀ e : Nat, 1 ≤ e → (e : Int) ≤ T.buckets → x ∉ ls e) → Al T ls s c n lv ⟨V, T.put x s, O⟩ 0
section
variable {T : TV} {ls : Nat → List Int} {s : ByteArray} {c : Nat} {n lv : Int} {st : St} {p : Nat}
theorem Al.zero (h : Al T ls s c n lv st p) : st.O.next = 9 ↔ p = 0 := by
  have key : ∀ {x a : Int} {q : Nat}, x = a → a ≠ 9 → 0 < q → (x = 9 ↔ q = 0) := fun h1 h2 h3 => ⟨fun e => absurd (h1.symm.trans e) h2, fun e => by omega⟩
  cases h with
  | start _ _ _ h | head _ _ _ h | walk _ _ _ h | reserve _ _ _ h | make _ _ _ h => exact key h (by decide) (by omega)
  | back _ h => exact key h (by decide) (by omega)
  | lay _ _ h | publish _ _ h => exact key h (by decide) (by omega)
  | long _ h | hit _ h | full _ h | made _ h => exact ⟨fun _ => rfl, fun _ => h⟩
theorem Al.step (h : Al T ls s c n lv st p) (hok : st.V.Ok) (h9 : st.O.next ≠ 9) (hc1 : 1 ≤ c) (hc2 : (c : Int) ≤ T.buckets) (hn : 0 ≤ n ∧ n ≤ 5000) (hlv : lv ≤ 60000) : ∃ p', p' + 1 ≤ p ∧ Al T ls s c n lv st.step p' := by
  cases h with
  | @start V O hV hnm hc hx hnode hres her =>
    have eV : stepV V T O = V := by unfold stepV; rw [if_pos hx]
    have eT : stepT V T O = T := by unfold stepT; rw [if_pos hx]
    have eO : stepO V T O = step0 O := by unfold stepO; rw [if_pos hx]
    show ∃ p', p' + 1 ≤ _ ∧ Al T ls s c n lv ⟨stepV V T O, stepT V T O, stepO V T O⟩ p'
    rw [eV, eT, eO]
    unfold step0
    rw [hnm]
    by_cases hs : 64 < s.size
    · rw [if_pos hs]
      refine ⟨0, by omega, .long hV ?_ rfl rfl hs⟩
      show (if 0 < O.node then (7 : Int) else if O.reserved then 8 else 9) = 9
      rw [if_neg (by omega), hres]
      rfl
    · rw [if_neg hs]
      exact ⟨_, Nat.le_refl _, .head hV rfl hc rfl hnode hres her (by omega)⟩
  | @head V O hV hnm hc hx hnode hres her hsz =>
    obtain ⟨d1, d2, d3⟩ := hV.tab.head hc1 hc2
    have eV : stepV V T O = V := by unfold stepV; rw [if_neg (by omega), if_pos hx]; exact d3
    have eT : stepT V T O = T := by unfold stepT; rw [if_neg (by omega), if_pos hx]
    have eO : stepO V T O = { O with first := V.val T.block O.cell, at_ := V.val T.block O.cell, next := 2 } := by unfold stepO; rw [if_neg (by omega), if_pos hx]
    show ∃ p', p' + 1 ≤ _ ∧ Al T ls s c n lv ⟨stepV V T O, stepT V T O, stepO V T O⟩ p'
    rw [eV, eT, eO, hc, d1]
    exact ⟨_, Nat.le_refl _, .walk (pre := []) (suf := ls c) hV hnm rfl rfl hnode hres her hsz rfl (fun x hx => by cases hx) rfl rfl⟩
  | @walk V O pre suf hV hnm hc hx hnode hres her hsz hps hun hat hfi =>
    have eV : stepV V T O = lookV V T O := by unfold stepV; rw [if_neg (by omega), if_neg (by omega), if_pos hx]
    have eT : stepT V T O = T := by unfold stepT; rw [if_neg (by omega), if_neg (by omega), if_pos hx]
    have eO : stepO V T O = lookO V T O := by unfold stepO; rw [if_neg (by omega), if_neg (by omega), if_pos hx]
    show ∃ p', p' + 1 ≤ _ ∧ Al T ls s c n lv ⟨stepV V T O, stepT V T O, stepO V T O⟩ p'
    rw [eV, eT, eO]
    have hch : ChainOk V suf := by have := hV.tab.chain c hc1 hc2; rw [hps] at this; exact this.suffix
    unfold lookV lookO
    cases suf with
    | nil =>
      have h0 : O.at_ = 0 := hat
      rw [if_pos h0, if_pos h0, if_neg (by omega)]
      exact ⟨5, by simp, .reserve hV hnm hc rfl hnode hres her hsz (by rw [hps, List.append_nil]; exact hun) hfi⟩
    | cons x suf =>
      have hx0 : O.at_ = x := hat
      have h0 : O.at_ ≠ 0 := by have := hch.1; omega
      obtain ⟨v1, v2, v3⟩ := AV.val_one hch.2.1
      rw [if_neg h0, if_neg h0, hnm]
      by_cases hnq : (T.nm O.at_).toList = s.toList
      · rw [if_pos hnq, if_pos hnq]
        refine ⟨0, by omega, .hit hV ?_ (by show O.at_ ∈ ls c; rw [hx0, hps]; simp) rfl hnq hsz⟩
        show (if 0 < O.node then (7 : Int) else if O.reserved then 8 else 9) = 9
        rw [if_neg (by omega), hres]
        rfl
      · rw [if_neg hnq, if_neg hnq, hx0, v1, v3]
        refine ⟨suf.length + 6, by rw [List.length_cons]; omega, .walk (pre := pre ++ [x]) (suf := suf) hV rfl hc hx hnode hres her hsz (by rw [hps]; simp) (fun y hy => ?_) rfl hfi⟩
        rcases List.mem_append.1 hy with hy | hy
        · exact hun y hy
        · rw [List.mem_singleton.1 hy, ← hx0]; exact hnq
  | @reserve V O hV hnm hc hx hnode hres her hsz hun hfi =>
    have eV : stepV V T O = V.add T.block 0 1 := by unfold stepV; rw [if_neg (by omega), if_neg (by omega), if_neg (by omega), if_pos hx]
    have eT : stepT V T O = T := by unfold stepT; rw [if_neg (by omega), if_neg (by omega), if_neg (by omega), if_pos hx]
    have eO : stepO V T O = step3 V T O := by unfold stepO; rw [if_neg (by omega), if_neg (by omega), if_neg (by omega), if_pos hx]
    obtain ⟨t1, t2, t3, t4, t5⟩ := hV.tab.count (d := 1)
    have hcn := hV.cnt
    obtain ⟨a1, a2⟩ := hV.tab.count_val 1 (by omega)
    have hV2 : Va (V.add T.block 0 1) T ls (n + 1) lv := ⟨t1, by rw [t2]; exact hV.faults, by rw [a2, hcn], by rw [t4]; exact hV.live, by rw [t5]; exact hV.most⟩
    show ∃ p', p' + 1 ≤ _ ∧ Al T ls s c n lv ⟨stepV V T O, stepT V T O, stepO V T O⟩ p'
    rw [eV, eT, eO]
    unfold step3
    rw [a1, hcn]
    by_cases hs : T.most < n + 1
    · rw [if_pos hs]
      refine ⟨1, by omega, .back hV2 ?_ rfl rfl hsz hun hs⟩
      show (if 0 < O.node then (7 : Int) else if true then 8 else 9) = 8
      rw [if_neg (by omega)]
      rfl
    · rw [if_neg hs]
      exact ⟨4, by omega, .make hV2 hnm hc rfl hnode her hsz hun hfi (by omega)⟩
  | @back V O hV hx hid her hsz hun hfull =>
    have eV : stepV V T O = V.add T.block 0 (-1) := by unfold stepV lastV; rw [if_neg (by omega), if_neg (by omega), if_neg (by omega), if_neg (by omega), if_neg (by omega), if_neg (by omega), if_neg (by omega), if_neg (by omega), if_pos hx]
    have eT : stepT V T O = T := by unfold stepT lastT; rw [if_neg (by omega), if_neg (by omega), if_neg (by omega), if_neg (by omega), if_neg (by omega), if_neg (by omega), if_neg (by omega)]
    have eO : stepO V T O = { O with next := 9 } := by unfold stepO lastO; rw [if_neg (by omega), if_neg (by omega), if_neg (by omega), if_neg (by omega), if_neg (by omega), if_neg (by omega), if_neg (by omega), if_neg (by omega), if_pos hx]
    obtain ⟨t1, t2, t3, t4, t5⟩ := hV.tab.count (d := -1)
    have hcn := hV.cnt
    obtain ⟨a1, a2⟩ := hV.tab.count_val (-1) (by omega)
    show ∃ p', p' + 1 ≤ _ ∧ Al T ls s c n lv ⟨stepV V T O, stepT V T O, stepO V T O⟩ p'
    rw [eV, eT, eO]
    exact ⟨0, by omega, .full ⟨t1, by rw [t2]; exact hV.faults, by rw [a2, hcn]; omega, by rw [t4]; exact hV.live, by rw [t5]; exact hV.most⟩ rfl hid her hun hsz hfull⟩
  | @make V O hV hnm hc hx hnode her hsz hun hfi hle =>
    have hm := hV.most
    have hl := hV.live
    have he : V.allocErr 1 = 0 := by unfold AV.allocErr; rw [if_neg (by omega), if_neg (by omega)]
    have eV : stepV V T O = V.alloc 1 := by unfold stepV; rw [if_neg (by omega), if_neg (by omega), if_neg (by omega), if_neg (by omega), if_pos hx]
    have eO : stepO V T O = step4 V O := by unfold stepO; rw [if_neg (by omega), if_neg (by omega), if_neg (by omega), if_neg (by omega), if_pos hx]
    have eT : stepT V T O = T.put (V.made + 1) s := by unfold stepT; rw [if_neg (by omega), if_neg (by omega), if_neg (by omega), if_neg (by omega), if_pos hx, if_pos he, hnm]
    have hok : V.Ok := hok
    have hfa := fun b => find_alloc hok he b
    have hnone := (hfa 0).2.1
    have hmd := hok.made
    have hkeep : ∀ b y, V.find b = some y → (V.alloc 1).find b = V.find b := fun b y h => by
      rw [(hfa b).1, if_neg (fun e => by rw [e, hnone] at h; cases h)]
    have hkl : ∀ e : Nat, 1 ≤ e → (e : Int) ≤ T.buckets → ∀ b ∈ ls e, (V.alloc 1).find b = V.find b := fun e q1 q2 b hb => by
      obtain ⟨_, y, hy⟩ := (hV.tab.chain e q1 q2).at_ b hb
      exact hkeep b _ hy
    have hkb : (V.alloc 1).find T.block = V.find T.block := by
      obtain ⟨xs, hx, _⟩ := hV.tab.root
      exact hkeep _ _ hx
    have hnl : ∀ e : Nat, 1 ≤ e → (e : Int) ≤ T.buckets → V.made + 1 ∉ ls e := fun e q1 q2 hm => by
      obtain ⟨_, y, hy⟩ := (hV.tab.chain e q1 q2).at_ _ hm
      rw [hnone] at hy; cases hy
    show ∃ p', p' + 1 ≤ _ ∧ Al T ls s c n lv ⟨stepV V T O, stepT V T O, stepO V T O⟩ p'
    rw [eV, eT, eO]
    unfold step4
    rw [if_pos he]
    refine ⟨3, by omega, .lay (O := { O with next := 5, node := V.made + 1 }) ⟨hV.tab.keep rfl rfl hkb hkl, by rw [(hfa 0).2.2.1]; exact hV.faults, ?_, by rw [(hfa 0).2.2.2.1]; omega, by rw [(hfa 0).2.2.2.2]; exact hm⟩ hc rfl her ⟨by show (0 : Int) < V.made + 1; omega, ⟨0, by show (V.alloc 1).find (V.made + 1) = _; rw [(hfa (V.made + 1)).1, if_pos rfl]; rfl⟩, hnl⟩ hsz hun hfi hle⟩
    exact (val_find hkb).trans hV.cnt
  | @lay V O hV hc hx her hpr hsz hun hfi hle =>
    have eV : stepV V (T.put O.node s) O = V.store O.node ((0 : Nat) : Int) O.first := by unfold stepV; rw [if_neg (by omega), if_neg (by omega), if_neg (by omega), if_neg (by omega), if_neg (by omega), if_pos hx]; rfl
    have eT : stepT V (T.put O.node s) O = T.put O.node s := by unfold stepT; rw [if_neg (by omega), if_neg (by omega), if_neg (by omega), if_neg (by omega), if_neg (by omega), if_pos hx]
    have eO : stepO V (T.put O.node s) O = { O with next := 6 } := by unfold stepO; rw [if_neg (by omega), if_neg (by omega), if_neg (by omega), if_neg (by omega), if_neg (by omega), if_pos hx]
    obtain ⟨q1, ⟨y, hy⟩, q3⟩ := hpr
    have hf := fun b => find_store (v := O.first) hy (i := 0) (by simp) b
    have hne : O.node ≠ T.block := hV.tab.block_ne hy
    have hfb : (V.store O.node ((0 : Nat) : Int) O.first).find T.block = V.find T.block := by rw [(hf T.block).1, if_neg (Ne.symm hne)]
    show ∃ p', p' + 1 ≤ _ ∧ Al T ls s c n lv ⟨stepV V (T.put O.node s) O, stepT V (T.put O.node s) O, stepO V (T.put O.node s) O⟩ p'
    rw [eV, eT, eO]
    have hfn : (V.store O.node ((0 : Nat) : Int) O.first).find O.node = some [O.first] := by rw [(hf O.node).1, if_pos rfl]; rfl
    refine ⟨2, by omega, .publish (O := { O with next := 6 }) ⟨hV.tab.keep rfl rfl hfb fun e r1 r2 b hb => ?_, by rw [(hf 0).2.1]; exact hV.faults, (val_find hfb).trans hV.cnt, by rw [(hf 0).2.2.1]; exact hV.live, by rw [(hf 0).2.2.2]; exact hV.most⟩ hc rfl her ⟨q1, ⟨_, hfn⟩, q3⟩ hfn hsz hun hfi hle⟩
    rw [(hf b).1, if_neg (fun e2 => q3 e r1 r2 (by rw [← e2]; exact hb))]
  | @publish V O hV hc hx her hpr hfn hsz hun hfi hle =>
    have eV : stepV V (T.put O.node s) O = V.swap T.block c O.first O.node := by unfold stepV lastV; rw [if_neg (by omega), if_neg (by omega), if_neg (by omega), if_neg (by omega), if_neg (by omega), if_neg (by omega), if_pos hx, hc]; rfl
    have eT : stepT V (T.put O.node s) O = T.put O.node s := by unfold stepT lastT; rw [if_neg (by omega), if_neg (by omega), if_neg (by omega), if_neg (by omega), if_neg (by omega), if_neg (by omega), if_neg (by omega)]
    have eO : stepO V (T.put O.node s) O = if V.swapOk T.block c O.first then { O with id := O.node, next := 9 } else { O with next := 1 } := by unfold stepO lastO; rw [if_neg (by omega), if_neg (by omega), if_neg (by omega), if_neg (by omega), if_neg (by omega), if_neg (by omega), if_pos hx, hc]; rfl
    obtain ⟨s1, _, s3⟩ := hV.tab.swap (c := c) hc1 hc2 O.first O.node
    obtain ⟨t1, t2, t3, t4, t5, xs, hxs, hxs2⟩ := s3 hfi.symm hpr.1 hfn
    show ∃ p', p' + 1 ≤ _ ∧ Al T ls s c n lv ⟨stepV V (T.put O.node s) O, stepT V (T.put O.node s) O, stepO V (T.put O.node s) O⟩ p'
    have hso : V.swapOk T.block c O.first = true := s1.2 hfi.symm
    rw [eV, eT, eO, if_pos hso]
    refine ⟨0, by omega, .made (x := O.node) ⟨t1, by rw [← hV.faults]; exact t2, ?_, by have := hV.live; have t4 : (V.swap T.block c O.first O.node).live = V.live := t4; omega, by rw [← hV.most]; exact t5⟩ rfl rfl her hun hsz hle hpr.1 hpr.2.2⟩
    obtain ⟨ys, hys, hyl, hyv, _⟩ := hV.tab.val0
    have hxy : xs = ys := by rw [hxs] at hys; exact Option.some.inj hys
    subst hxy
    obtain ⟨zs, hzs, hzl, hzv, _⟩ := t1.val0
    have hzx : zs = xs.set c O.node := Option.some.inj (hzs.symm.trans hxs2)
    refine hzv.trans ?_
    rw [hzx, List.getD_eq_getElem?_getD, List.getElem?_set_ne (by omega), ← List.getD_eq_getElem?_getD, ← hyv]
    exact hV.cnt
  | long _ h | hit _ h | full _ h | made _ h => exact absurd h h9
end
/-! ### between two calls -/
theorem totalN_push_in (ls : Nat → List Int) (d : Nat) (x : Int) (h1 : 1 ≤ d) : ∀ nb, d ≤ nb → totalN (push ls d x) nb = totalN ls nb + 1
  | 0, h => by omega
  | nb + 1, h => by
    have e : (push ls d x (nb + 1)).length = (ls (nb + 1)).length + (if nb + 1 = d then 1 else 0) := by
      unfold push
      by_cases hd : nb + 1 = d
      · rw [if_pos hd, if_pos hd, ← hd]; simp
      · rw [if_neg hd, if_neg hd]; rfl
    show totalN (push ls d x) nb + (push ls d x (nb + 1)).length = totalN ls nb + (ls (nb + 1)).length + 1
    rw [e]
    by_cases hd : nb + 1 = d
    · rw [if_pos hd, (totalN_push ls d x nb).2 (by omega)]; omega
    · rw [if_neg hd, totalN_push_in ls d x h1 nb (by omega)]; omega
def cellN (nb : Int) (s : ByteArray) : Nat := (1 + hashN nb s.data.toList).toNat
theorem cellN_range {nb : Int} (h : 1 ≤ nb) (s : ByteArray) : 1 ≤ cellN nb s ∧ (cellN nb s : Int) ≤ nb ∧ 1 + hashN nb s.data.toList = cellN nb s := by
  have := hashN_range h s.data.toList
  unfold cellN
  omega
theorem bytes_eq {a b : ByteArray} (h : a.toList = b.toList) : a = b := bytes_inj (by rw [← ByteArray.toList_eq, ← ByteArray.toList_eq]; exact h)
structure Kn (T : TV) (ls : Nat → List Int) (nb : Nat) (seen : List ByteArray) (ids : List Int) : Prop where
  len : seen.length = ids.length
  nm : ∀ j (h : j < seen.length), T.nm (ids[j]'(by omega)) = seen[j]
  mem : ∀ j (h : j < seen.length), ids[j]'(by omega) ∈ ls (cellN nb seen[j])
  of : ∀ c : Nat, 1 ≤ c → c ≤ nb → ∀ x ∈ ls c, ∃ j, ∃ h : j < seen.length, ids[j]'(by omega) = x
  tot : totalN ls nb = seen.length
  dis : ∀ i j (h : j < seen.length) (hi : i < j), seen[i] ≠ seen[j]
theorem Kn.unk {T : TV} {ls : Nat → List Int} {nb : Nat} {seen : List ByteArray} {ids : List Int} {s : ByteArray} (h : Kn T ls nb seen ids) (hu : Unk T (ls (cellN nb s)) s) : ∀ j (h : j < seen.length), seen[j].toList ≠ s.toList := fun j hj e => by
  have e := bytes_eq e
  have h1 := h.mem j hj
  rw [e] at h1
  exact hu _ h1 (by rw [h.nm j hj, e])
theorem Kn.hit {T : TV} {ls : Nat → List Int} {nb : Nat} {seen : List ByteArray} {ids : List Int} {s : ByteArray} {c : Nat} {x : Int} (h : Kn T ls nb seen ids) (h1 : 1 ≤ c) (h2 : c ≤ nb) (hx : x ∈ ls c) (hn : (T.nm x).toList = s.toList) : knownN seen ids s = x := by
  obtain ⟨j, hj, e⟩ := h.of c h1 h2 x hx
  have hs : seen[j] = s := by rw [← h.nm j hj, e]; exact bytes_eq hn
  rw [← e]
  refine knownN_at h.len hj (by rw [hs]) fun i hi e2 => ?_
  exact h.dis i j hj hi (by rw [hs]; exact bytes_eq e2)
theorem Kn.grow {T : TV} {ls : Nat → List Int} {nb : Nat} {seen : List ByteArray} {ids : List Int} {s : ByteArray} {x : Int} (h : Kn T ls nb seen ids) (h1 : 1 ≤ nb) (hu : Unk T (ls (cellN nb s)) s) (hx : ∀ e : Nat, 1 ≤ e → e ≤ nb → x ∉ ls e) :
    Kn (T.put x s) (push ls (cellN nb s) x) nb (seen ++ [s]) (ids ++ [x]) ∧ ids.contains x = false := by
  have hc := cellN_range (nb := nb) (by omega) s
  have hne : ∀ j (hj : j < seen.length), ids[j]'(by have := h.len; omega) ≠ x := fun j hj e => by
    have hcj := cellN_range (nb := nb) (by omega) seen[j]
    refine hx (cellN nb seen[j]) (by omega) (by omega) ?_
    rw [← e]; exact h.mem j hj
  have hlen := h.len
  have hput : ∀ y, (T.put x s).nm y = if y = x then s else T.nm y := fun y => by unfold TV.nm TV.put; dsimp only; split <;> rfl
  refine ⟨⟨by simp [h.len], fun j hj => ?_, fun j hj => ?_, fun c q1 q2 y hy => ?_, by rw [totalN_push_in _ _ _ hc.1 _ (by omega), h.tot]; simp, fun i j hj hi => ?_⟩, ?_⟩
  · rw [List.length_append, List.length_singleton] at hj
    rw [hput]
    by_cases hjl : j < seen.length
    · rw [List.getElem_append_left (by omega), List.getElem_append_left hjl, if_neg (hne j hjl)]
      exact h.nm j hjl
    · obtain rfl : j = seen.length := by omega
      rw [List.getElem_append_right (by omega), List.getElem_append_right (by omega)]
      simp
  · rw [List.length_append, List.length_singleton] at hj
    by_cases hjl : j < seen.length
    · have e1 : (seen ++ [s])[j] = seen[j] := List.getElem_append_left hjl
      have e2 : (ids ++ [x])[j]'(by simp; omega) = ids[j]'(by omega) := List.getElem_append_left (by omega)
      rw [e1, e2]
      have := h.mem j hjl
      unfold push
      split
      · rename_i e; rw [← e]; exact List.mem_cons_of_mem _ this
      · exact this
    · obtain rfl : j = seen.length := by omega
      rw [List.getElem_append_right (by omega), List.getElem_append_right (by omega)]
      simp [push]
  · have hold : ∀ d : Nat, 1 ≤ d → d ≤ nb → y ∈ ls d → ∃ j, ∃ h : j < (seen ++ [s]).length, (ids ++ [x])[j]'(by simp; simp at h; omega) = y := fun d d1 d2 hd => by
      obtain ⟨j, hj, e⟩ := h.of d d1 d2 y hd
      exact ⟨j, by simp; omega, by rw [List.getElem_append_left (by omega)]; exact e⟩
    unfold push at hy
    split at hy
    · rename_i e
      rcases List.mem_cons.1 hy with rfl | hy
      · exact ⟨seen.length, by simp, by rw [List.getElem_append_right (by omega)]; simp⟩
      · exact hold _ (by omega) (by omega) hy
    · exact hold c q1 q2 hy
  · rw [List.length_append, List.length_singleton] at hj
    rw [List.getElem_append_left (by omega)]
    by_cases hjl : j < seen.length
    · rw [List.getElem_append_left hjl]; exact h.dis i j hjl hi
    · obtain rfl : j = seen.length := by omega
      rw [List.getElem_append_right (by omega)]
      simp only [Nat.sub_self, List.getElem_singleton]
      intro e
      exact h.unk hu i (by omega) (by rw [e])
  · rw [List.contains_eq_mem, decide_eq_false_iff_not]
    intro hm
    obtain ⟨j, hj, e⟩ := List.mem_iff_getElem.1 hm
    exact hne j (by omega) e
theorem anyIn_of (ls : Nat → List Int) (id : Int) : ∀ (nb c : Nat), 1 ≤ c → c ≤ nb → id ∈ ls c → anyIn ls id nb = true
  | 0, c, h1, h2, _ => by omega
  | nb + 1, c, h1, h2, hm => by
    show (anyIn ls id nb || (ls (nb + 1)).contains id) = true
    by_cases he : c = nb + 1
    · subst he; simp [List.contains_eq_mem, hm]
    · rw [anyIn_of ls id nb c h1 (by omega) hm]; rfl
end Go.Proofs.Ytkfinhakhhiabaa
