/- SchedWakes: a blocked thread is ready again just behind a Wake of its key. -/
import Derived.Test.YtemibcglhbjaoaaSchedPure
set_option maxRecDepth 20000
set_option linter.unusedVariables false
set_option linter.unusedSimpArgs false
namespace Go.Proofs.Ytemibcglhbjaoaa
open Go.RowKit Go.PM

/-! ### plain facts -/
theorem readyFrom_sorted (l : List (Int × Int)) : ∀ i : Nat, (readyFrom l i).Pairwise (· < ·) ∧ ∀ t ∈ readyFrom l i, (i : Int) ≤ t := by
  induction l with
  | nil => intro i; simp [readyFrom]
  | cons p l ih =>
    intro i
    obtain ⟨h1, h2⟩ := ih (i + 1)
    rw [readyFrom]
    split
    · refine ⟨List.pairwise_cons.2 ⟨fun t ht => ?_, h1⟩, fun t ht => ?_⟩
      · have := h2 t ht; omega
      · rcases List.mem_cons.1 ht with rfl | ht
        · omega
        · have := h2 t ht; omega
    · exact ⟨h1, fun t ht => by have := h2 t ht; omega⟩
theorem ready_new (V : SV) {i : Nat} (hi : i < V.ready.length) : V.ready[i] ∉ V.ready.take i := by
  intro h
  obtain ⟨j, hj, e⟩ := List.mem_iff_getElem.1 h
  rw [List.length_take] at hj
  rw [List.getElem_take] at e
  have := List.pairwise_iff_getElem.1 (readyFrom_sorted V.ths 0).1 j i (by show j < V.ready.length; omega) hi (by omega)
  have e2 : V.ready[j] = V.ready[i] := e
  have h3 : V.ready[j] < V.ready[i] := this
  omega
/-- The first i of V1's ready threads wait for the key, all else is as in V1. -/
def HeldTo (V1 V : SV) (key : Int) (i : Nat) : Prop :=
  V.ths.length = V1.ths.length ∧ ∀ p : Nat, V.ths[p]? = if (p : Int) ∈ V1.ready.take i then some (2, key) else V1.ths[p]?
/-- All of V1's ready threads wait for the key. -/
def Held (V1 V : SV) (key : Int) : Prop := V1.ths.length ≤ V.ths.length ∧ ∀ p (h : p < V1.ths.length), V1.ths[p].1 = 1 → V.ths[p]? = some (2, key)
def Woke (V1 V : SV) (key : Int) : Prop := (V1.ths.length ≤ V.ths.length ∧ ∀ p (h : p < V1.ths.length), V1.ths[p].1 = 1 → V.ths[p]? = some (1, key)) ∧ V.woken key = 0
variable {V1 V : SV} {key : Int} {i : Nat}
theorem ready_pos (hz : V1.Z) {t : Int} (ht : t ∈ V1.ready) : ∃ p : Nat, t = p ∧ 1 ≤ p ∧ ∃ h : p < V1.ths.length, V1.ths[p].1 = 1 := by
  have h := (SV.mem_ready hz t).1 ht
  obtain ⟨i, rfl, h1, hi, h2⟩ := SV.state_zero (V := V1) (t := t) (by rw [h]; decide)
  exact ⟨i, rfl, h1, hi, by rw [← h2, h]⟩
theorem SV.state_get {p : Nat} (h1 : 1 ≤ p) {x : Int × Int} (h : V.ths[p]? = some x) : V.state p = x.1 := by
  obtain ⟨hp, e⟩ := List.getElem?_eq_some_iff.1 h
  rw [SV.state_in h1 hp, e]
theorem HeldTo.zero (V1 : SV) (key : Int) : HeldTo V1 V1 key 0 := ⟨rfl, fun p => by simp⟩
theorem HeldTo.step (h : HeldTo V1 V key i) (hz : V1.Z) (hi : i < V1.ready.length) :
    V.err V1.ready[i] 1 = 0 ∧ HeldTo V1 (V.block V1.ready[i] key) key (i + 1) ∧ (V.block V1.ready[i] key).state V1.ready[i] = 2 := by
  obtain ⟨p, hp, h1, hl, hst⟩ := ready_pos hz (List.getElem_mem hi)
  have hnew := ready_new V1 hi
  obtain ⟨hlen, hths⟩ := h
  have hpp := hths p
  rw [hp] at hnew
  rw [if_neg hnew, List.getElem?_eq_getElem hl] at hpp
  have hs1 : V.state p = 1 := by rw [SV.state_get h1 hpp, hst]
  have he : V.err p 1 = 0 := SV.err_hit (by rw [hs1]; decide) hs1
  have hb : V.block p key = V.put p (2, key) := by simp [SV.block, he]
  have hth : (V.put p (2, key)).ths = V.ths.set p (2, key) := by simp [SV.put]
  rw [hp, hb]
  refine ⟨he, ⟨by rw [hth]; simpa using hlen, fun q => ?_⟩, ?_⟩
  · rw [hth, List.getElem?_set]
    have htk : V1.ready.take (i + 1) = V1.ready.take i ++ [(p : Int)] := by rw [List.take_succ_eq_append_getElem hi, hp]
    by_cases hq : p = q
    · subst hq
      rw [if_pos rfl, if_pos (by omega), if_pos (by rw [htk]; simp)]
    · rw [if_neg hq, hths q]
      have : ((q : Int) ∈ V1.ready.take (i + 1)) ↔ (q : Int) ∈ V1.ready.take i := by
        rw [htk]
        simp only [List.mem_append, List.mem_singleton]
        constructor
        · rintro (h | h)
          · exact h
          · omega
        · exact .inl
      by_cases hm : (q : Int) ∈ V1.ready.take i
      · rw [if_pos hm, if_pos (this.2 hm)]
      · rw [if_neg hm, if_neg (fun h => hm (this.1 h))]
  · refine SV.state_get h1 (x := (2, key)) ?_
    rw [hth, List.getElem?_set, if_pos rfl, if_pos (by omega)]
theorem HeldTo.pick (h : HeldTo V1 V key i) (t : Int) : HeldTo V1 (V.pick t) key i := by
  unfold SV.pick
  split <;> exact h
theorem HeldTo.all (h : HeldTo V1 V key V1.ready.length) (hz : V1.Z) : Held V1 V key := by
  refine ⟨by rw [h.1]; omega, fun p hp h1 => ?_⟩
  rw [h.2 p, List.take_length, if_pos]
  rw [SV.mem_ready hz]
  have hp1 : 1 ≤ p := by
    obtain ⟨l, hl⟩ := hz
    cases p with
    | zero => simp [hl] at h1
    | succ p => omega
  rw [SV.state_in hp1 hp, h1]
theorem Held.state (h : Held V1 V key) (hz : V1.Z) {t : Int} (ht : t ∈ V1.ready) : V.state t = 2 := by
  obtain ⟨p, rfl, h1, hl, hst⟩ := ready_pos hz ht
  exact SV.state_get h1 (h.2 p hl hst)
theorem Held.put (h : Held V1 V key) {t : Int} (ht : 1 ≤ t) (hs : V.state t ≠ 2) (x : Int × Int) : Held V1 (V.put t x) key := by
  refine ⟨by simpa [SV.put] using h.1, fun p hp h1 => ?_⟩
  have hp2 := h.2 p hp h1
  simp only [SV.put, List.getElem?_set]
  rw [if_neg, hp2]
  intro e
  apply hs
  have : t = (p : Int) := by omega
  rw [this]
  exact SV.state_get (by omega) hp2
theorem Held.doV (h : Held V1 V key) {kd t k' : Int} (h1 : kd ≠ 1) (h5 : ¬ (kd = 5 ∧ k' = key)) : Held V1 (doV V kd t k') key := by
  unfold Go.Proofs.Ytemibcglhbjaoaa.doV
  rw [if_neg h1]
  repeat' split
  · unfold SV.block; split
    · rename_i he
      obtain ⟨e1, e2, e3⟩ := SV.err_pos he
      exact h.put e1 (by rw [e3]; decide) _
    · exact h
  · unfold SV.end_; split
    · rename_i he
      obtain ⟨e1, e2, e3⟩ := SV.err_pos he
      exact h.put e1 (by rw [e3]; decide) _
    · exact h
  · unfold SV.free; split
    · rename_i he
      obtain ⟨e1, e2, e3⟩ := SV.err_pos he
      exact h.put e1 (by rw [e3]; decide) _
    · exact h
  · rename_i hk
    have hkk : k' ≠ key := fun e => h5 ⟨hk, e⟩
    refine ⟨by simpa [SV.wake] using h.1, fun p hp hp1 => ?_⟩
    have := h.2 p hp hp1
    simp only [SV.wake, List.getElem?_map, this, Option.map_some]
    simp [wakes, Ne.symm hkk]
  · unfold SV.pick; split <;> exact h
  · exact h
theorem filter_le {l : List (Int × Int)} {q : Int × Int → Bool} {q' : Int × Int → Bool} : ∀ {l' : List (Int × Int)}, l.length ≤ l'.length → (∀ p (h : p < l.length), q l[p] = true → ∃ x, l'[p]? = some x ∧ q' x = true) → (l.filter q).length ≤ (l'.filter q').length := by
  induction l with
  | nil => intro l' _ _; simp
  | cons a l ih =>
    intro l' hl h
    cases l' with
    | nil => simp at hl
    | cons b l' =>
      have h0 := h 0 (by simp)
      have hr := ih (l' := l') (by simpa using hl) (fun p hp hq => by simpa using h (p + 1) (by simpa using hp) (by simpa using hq))
      simp only [List.filter_cons]
      simp only [List.getElem_cons_zero, List.getElem?_cons_zero, Option.some.injEq] at h0
      by_cases ha : q a = true
      · obtain ⟨x, hx, hx2⟩ := h0 ha
        subst hx
        simp only [ha, hx2, if_true, List.length_cons]
        omega
      · simp only [ha, if_false, Bool.false_eq_true]
        split
        · simp only [List.length_cons]; omega
        · exact hr
theorem readyFrom_count (l : List (Int × Int)) : ∀ i, (readyFrom l i).length = (l.filter fun p => p.1 == 1).length := by
  induction l with
  | nil => intro i; rfl
  | cons p l ih =>
    intro i
    rw [readyFrom, List.filter_cons]
    by_cases h : p.1 = 1
    · simp [h, ih]
    · simp [h, ih]
theorem Held.woken (h : Held V1 V key) : (V1.ready.length : Int) ≤ V.woken key := by
  unfold SV.woken SV.ready
  rw [readyFrom_count]
  have := filter_le (q := fun p => p.1 == 1) (q' := wakes key) h.1 (fun p hp hq => ⟨(2, key), h.2 p hp (by simpa using hq), by simp [wakes]⟩)
  omega
theorem SV.wake_none (V : SV) (key : Int) : (V.wake key).woken key = 0 := by
  simp only [SV.woken, SV.wake]
  have : (V.ths.map fun p => if Go.Proofs.Ytemibcglhbjaoaa.wakes key p then (1, p.2) else p).filter (Go.Proofs.Ytemibcglhbjaoaa.wakes key) = [] := by
    rw [List.filter_eq_nil_iff]
    intro x hx
    obtain ⟨p, hp, rfl⟩ := List.mem_map.1 hx
    split
    · simp [Go.Proofs.Ytemibcglhbjaoaa.wakes]
    · assumption
  rw [this]
  rfl
theorem Held.wake (h : Held V1 V key) : Woke V1 (V.wake key) key := by
  refine ⟨⟨by simpa [SV.wake] using h.1, fun p hp h1 => ?_⟩, V.wake_none key⟩
  have := h.2 p hp h1
  simp [SV.wake, this, wakes]
theorem Woke.pick (h : Woke V1 V key) (t : Int) : Woke V1 (V.pick t) key := by
  unfold SV.pick
  split <;> exact h
theorem Woke.state (h : Woke V1 V key) (hz : V1.Z) {t : Int} (ht : t ∈ V1.ready) : V.state t = 1 := by
  obtain ⟨p, rfl, h1, hl, hst⟩ := ready_pos hz ht
  exact SV.state_get h1 (h.1.2 p hl hst)
theorem SV.pick_le (V : SV) (t : Int) : V.good ≤ (V.pick t).good ∧ (V.pick t).good ≤ V.good + 1 ∧ V.bad ≤ (V.pick t).bad ∧ (V.pick t).bad ≤ V.bad + 1 ∧ (V.pick t).ths = V.ths := by
  unfold SV.pick
  split <;> (refine ⟨?_, ?_, ?_, ?_, rfl⟩) <;> (try dsimp only) <;> omega
theorem SV.block_same (V : SV) (t key : Int) : (V.block t key).good = V.good ∧ (V.block t key).bad = V.bad ∧ (V.block t key).ths.length = V.ths.length := by
  unfold SV.block SV.put
  split <;> simp
theorem doV_len_eq (V : SV) {kd : Int} (h : kd ≠ 1) (t key : Int) : (doV V kd t key).ths.length = V.ths.length := by
  unfold doV SV.block SV.end_ SV.free SV.wake SV.pick SV.put
  rw [if_neg h]
  repeat' split
  all_goals simp

/-! ### the walk -/
def WkInv (w0 : World) (s N : Nat) (iv : Value) (w : World) : Prop :=
  ∃ (own : Nat → Nat) (i : Nat) (V : SV), iv = .int .i64 i ∧ i ≤ N ∧ V.ths.length ≤ i + 1 ∧ V.good ≤ i ∧ V.bad ≤ i ∧ V.Z ∧ Sched w own 1 s V ∧ Ext (fun c => c ≠ 0) w0 w (fun _ => 0) own
def WkInv2 (w0 w1 : World) (own1 : Nat → Nat) (s N : Nat) (V1 : SV) (key : Int) (iv : Value) (w : World) : Prop :=
  ∃ (own : Nat → Nat) (i : Nat) (V : SV), iv = .int .i64 i ∧ i ≤ V1.ready.length ∧ V.good ≤ N + i ∧ V.bad ≤ N + i ∧ HeldTo V1 V key i ∧ Sched w own 1 s V ∧ Ext (fun c => c ≠ 0) w0 w (fun _ => 0) own ∧ Ext (fun c => c = 1) w1 w own1 own
def WkInv3 (w0 w1 : World) (own1 : Nat → Nat) (s N R : Nat) (V1 : SV) (key : Int) (iv : Value) (w : World) : Prop :=
  ∃ (own : Nat → Nat) (i : Nat) (V : SV), iv = .int .i64 i ∧ i ≤ N ∧ V.ths.length = V1.ths.length ∧ V.good ≤ R + i ∧ V.bad ≤ R + i ∧ Held V1 V key ∧ Sched w own 1 s V ∧ Ext (fun c => c ≠ 0) w0 w (fun _ => 0) own ∧ Ext (fun c => c = 1) w1 w own1 own
def WkInv4 (w1 : World) (R : Nat) (iv : Value) (w : World) : Prop := ∃ i : Nat, iv = .int .i64 i ∧ i ≤ R ∧ w = w1
def WkInv5 (w0 w1 : World) (own1 : Nat → Nat) (s N : Nat) (V1 : SV) (key : Int) (iv : Value) (w : World) : Prop :=
  ∃ (own : Nat → Nat) (i : Nat) (V : SV), iv = .int .i64 i ∧ i ≤ V1.ready.length ∧ V.good ≤ N + i ∧ V.bad ≤ N + i ∧ Woke V1 V key ∧ Sched w own 1 s V ∧ Ext (fun c => c ≠ 0) w0 w (fun _ => 0) own ∧ Ext (fun c => c = 1) w1 w own1 own
set_option maxHeartbeats 2000000 in
theorem schedWakes_walk (w : World) (v : Value) (n b off : Nat) (f : Nat → Nat → Int) (hp : Recs Try.prog 22 3 w v n b off f) (key : Int) (hkey : -9223372036854775808 ≤ key ∧ key ≤ 9223372036854775807) :
    Calls Try.prog 9 #[v, .int .i64 key] w fun e w' => e = .returned (.bool true) ∧ Below w.heap.size w w' := by
  obtain ⟨i0, hi0, hz0, hs0, hz2⟩ := info_parts info_int
  have hlen := hp.len
  have hidx := hp.idx
  have hsz := hp.size
  go_enter Try.func9, Try.ntmps9
  go_wp2_with fail
  refine (SNew_any 8 1 (fun _ => 0) w).mono ?_
  rintro e w1 ⟨rfl, hB, hA⟩
  have h01 : Ext (fun c => c ≠ 0) w w1 (fun _ => 0) (ow (fun _ => 0) w.heap.size 1) := Ext.of_below hB _ _
  generalize ow (fun _ => 0) w.heap.size 1 = own1 at *
  generalize w.heap.size + 1 = s at *
  have H := Lib.hid h01
  clear h01 hB
  go_wp2_with fail
  refine (salive_any w1).mono ?_
  rintro e w2 ⟨rfl, hB⟩
  have h12 : Ext (fun c => c ≠ 0) w1 w2 own1 (ow own1 w1.heap.size 2) := Ext.of_below hB _ _
  have hA2 := hA.ext (M := fun _ => False) (Ext.of_below hB _ 2) (by simp)
  have H2 := Lib.hid (H.out.trans h12)
  clear h12 hB hA H
  go_wp2_with fail
  go_loopw [26] (fun iv wr => WkInv w s n iv wr) (fun iv _ => n - (intOf iv).toNat)
  case atStart => exact ⟨_, 0, SV.fresh 8, rfl, by omega, by simp [SV.fresh], by simp [SV.fresh], by simp [SV.fresh], SV.fresh_Z 8, hA2, H2.out⟩
  case round =>
    clear hA2 H2
    obtain ⟨own, i, V, rfl, hi, hl, hg, hbd, hz, hA, hE⟩ := hrel
    have HE := Lib.hid hE
    have HZ := Lib.hid hz
    clear hE hz
    by_cases hlt : i < n
    · have hlt2 : (i : Int) < n := by omega
      have c0 := hp.at_ (HE.out.below (by simp)) hlt (show 0 < 3 by omega)
      have c1 := hp.at_ (HE.out.below (by simp)) hlt (show 1 < 3 by omega)
      have c2 := hp.at_ (HE.out.below (by simp)) hlt (show 2 < 3 by omega)
      rw [Nat.add_zero] at c0
      generalize f i 0 = kd at *
      generalize f i 1 = t at *
      generalize f i 2 = k2 at *
      have hA' := hA.ext (M := fun _ => False) (Ext.refl.alloc (.cells #[.int .i64 kd, .int .i64 t, .int .i64 k2] 28)) (by simp)
      have HE' := Lib.hid (HE.out.alloc (.cells #[.int .i64 kd, .int .i64 t, .int .i64 k2] 28))
      clear HE hA
      by_cases hk : kd = 4
      · have b1 : (kd != 4) = false := by simp [hk]
        clear hk
        go_wp2_with fail
        go_roundw
        case rel => exact ⟨own, i + 1, V, by go_num, by omega, by omega, by omega, by omega, HZ.out, hA', HE'.out⟩
        case measure => simp [intOf]; omega
      · have b1 : (kd != 4) = true := by simp [hk]
        clear hk
        go_wp2_with fail
        refine (does_none hA' (by omega) (by omega) (by omega) kd t k2).mono ?_
        rintro e w4 ⟨v', ok, own4, rfl, hE4, hA4⟩
        have hd1 := doV_len V kd t k2
        have hd2 := doV_good V kd t k2
        have HZ4 := Lib.hid (doV_Z HZ.out kd t k2)
        have HE4 := Lib.hid (HE'.out.trans (hE4.mono (by simp)))
        generalize doV V kd t k2 = V4 at *
        clear hE4 HE' HZ hA' c0 c1 c2
        go_wp2_with fail
        go_roundw
        case rel => exact ⟨own4, i + 1, V4, by go_num, by omega, by omega, by omega, by omega, HZ4.out, hA4, HE4.out⟩
        case measure => simp [intOf]; omega
    · obtain rfl : i = n := by omega
      go_wp2_with fail
      refine (Ready_any hA 3).mono ?_
      rintro e w5 ⟨rv, rfl, hrow, hB⟩
      have hA5 := hA.ext (M := fun _ => False) (Ext.of_below hB own 3) (by simp)
      have hE5 := HE.out.trans (Ext.of_below (M := fun c => c ≠ 0) hB own 3)
      generalize ow own wr.heap.size 3 = own5 at *
      have HE5 := Lib.hid hE5
      obtain ⟨rb, hI5⟩ := Ints.of_row Try.underlying26 hi0 hs0 hrow
      have hrl := V.ready_le
      have rlen := hI5.len
      have ridx := hI5.idx
      have HR5 := Lib.hid hrow
      clear hE5 hrow HE hA hB hI5
      go_wp2_with fail
      go_loopw [42] (fun iv wr => WkInv2 w w5 own5 s i V key iv wr) (fun iv _ => V.ready.length - (intOf iv).toNat)
      case atStart => exact ⟨own5, 0, V, rfl, by omega, by omega, by omega, HeldTo.zero V key, hA5, HE5.out, Ext.refl⟩
      case round =>
        clear hA5 HE5
        obtain ⟨own, j, V2, rfl, hj, hg2, hb2, hH, hA, hE, hE1⟩ := hrel
        have hrI := (Ints.of_row Try.underlying26 hi0 hs0 (HR5.out.ext hE1 (by simp))).choose_spec
        generalize (Ints.of_row Try.underlying26 hi0 hs0 (HR5.out.ext hE1 (by simp))).choose = rb2 at *
        have hln := hH.1
        have HE := Lib.hid hE
        have HE1 := Lib.hid hE1
        clear hE hE1
        by_cases hlt : j < V.ready.length
        · have hlt2 : (j : Int) < V.ready.length := by omega
          have c0 := hrI.cell j hlt
          have rlen2 := hrI.len
          have ridx2 := hrI.idx
          rw [Nat.zero_add] at c0
          obtain ⟨e1, e2, e3⟩ := hH.step HZ.out hlt
          generalize V.ready[j] = t at *
          have hbl := sc_as (r' := .int .i64 0) (Block_any hA t key) (by rw [e1]) rfl
          obtain ⟨s1, s2, s3⟩ := V2.block_same t key
          have HBL := Lib.hid hbl
          clear hbl hrI rlen ridx e1 hH
          go_wp2_with fail
          refine HBL.out.mono ?_
          rintro e w6 ⟨rfl, own6, hE6, hA6⟩
          have HE6 := Lib.hid (HE.out.trans (hE6.mono (by simp)))
          have HE16 := Lib.hid (HE1.out.trans hE6)
          generalize V2.block t key = V3 at *
          have hs6 := State_any hA6 t
          rw [e3] at hs6
          have hpk := sc_as (r' := .bool false) (Pick_any hA6 (by omega) (by omega) t) (by rw [e3]; exact rfl) rfl
          have HS6 := Lib.hid hs6
          have HPK := Lib.hid hpk
          have HH := Lib.hid (e2.pick t)
          obtain ⟨p1, p2, p3, p4, p5⟩ := V3.pick_le t
          clear hE6 hs6 hpk HE HE1 hA HBL e2
          go_wp2_with fail
          refine HS6.out.mono ?_
          rintro e w7 ⟨rfl, rfl⟩
          go_wp2_with fail
          refine HPK.out.mono ?_
          rintro e w7 ⟨rfl, own7, hE7, hA7⟩
          have HE7 := Lib.hid (HE6.out.trans (hE7.mono (by simp)))
          have HE17 := Lib.hid (HE16.out.trans hE7)
          generalize V3.pick t = V4 at *
          clear hE7 HE6 HE16 HPK HS6 hA6 e3
          go_wp2_with fail
          go_roundw
          case rel => exact ⟨own7, j + 1, V4, by go_num, by omega, by omega, by omega, HH.out, hA7, HE7.out, HE17.out⟩
          case measure => simp [intOf]; omega
        · obtain rfl : j = V.ready.length := by omega
          have hHd := hH.all HZ.out
          have HLEN := Lib.hid hln
          clear hH hrI rlen ridx hln
          go_wp2_with fail
          go_loopw [65] (fun iv wr => WkInv3 w w5 own5 s i (i + V.ready.length) V key iv wr) (fun iv _ => i - (intOf iv).toNat)
          case atStart => exact ⟨own, 0, V2, rfl, by omega, HLEN.out, by omega, by omega, hHd, hA, HE.out, HE1.out⟩
          case round =>
            clear hA HE HE1 hHd
            obtain ⟨own, m, V3, rfl, hm, hl3, hg3, hb3, hH, hA, hE, hE1⟩ := hrel
            have HE := Lib.hid hE
            have HE1 := Lib.hid hE1
            have HH := Lib.hid hH
            clear hE hE1 hH
            by_cases hlt : m < i
            · have hlt2 : (m : Int) < i := by omega
              have c0 := hp.at_ (HE.out.below (by simp)) hlt (show 0 < 3 by omega)
              have c1 := hp.at_ (HE.out.below (by simp)) hlt (show 1 < 3 by omega)
              have c2 := hp.at_ (HE.out.below (by simp)) hlt (show 2 < 3 by omega)
              rw [Nat.add_zero] at c0
              generalize f m 0 = kd at *
              generalize f m 1 = t at *
              generalize f m 2 = k2 at *
              have hA' := hA.ext (M := fun _ => False) (Ext.refl.alloc (.cells #[.int .i64 kd, .int .i64 t, .int .i64 k2] 28)) (by simp)
              have HE' := Lib.hid (HE.out.alloc (.cells #[.int .i64 kd, .int .i64 t, .int .i64 k2] 28))
              have HE1' := Lib.hid (HE1.out.alloc (.cells #[.int .i64 kd, .int .i64 t, .int .i64 k2] 28))
              have hthl := hl
              clear HE HE1 hA
              by_cases hk1 : kd = 1
              · have b1 : (kd == 1) = true := by simp [hk1]
                have b5 : (kd == 5) = false := by simp [hk1]
                clear hk1
                go_wp2_with fail
                go_roundw
                case rel => exact ⟨own, m + 1, V3, by go_num, by omega, hl3, by omega, by omega, HH.out, hA', HE'.out, HE1'.out⟩
                case measure => simp [intOf]; omega
              · by_cases hk5 : kd = 5 ∧ k2 = key
                · have b1 : (kd == 5) = true := by simp [hk5.1]
                  have b5 : (k2 == key) = true := by simp [hk5.2]
                  clear hk1 hk5
                  go_wp2_with fail
                  go_roundw
                  case rel => exact ⟨own, m + 1, V3, by go_num, by omega, hl3, by omega, by omega, HH.out, hA', HE'.out, HE1'.out⟩
                  case measure => simp [intOf]; omega
                · have hH4 := HH.out.doV (t := t) hk1 hk5
                  have hl4 := doV_len_eq V3 hk1 t k2
                  have hd2 := doV_good V3 kd t k2
                  have hst : ∀ x ∈ V.ready, (doV V3 kd t k2).state x = 2 := fun x hx => hH4.state HZ.out hx
                  have hdn := does_none hA' (by omega) (by omega) (by omega) kd t k2
                  have HDN := Lib.hid hdn
                  have HST := Lib.hid hst
                  have HH4 := Lib.hid hH4
                  clear hdn hst hH4 hA' HH
                  have hcut : ∃ q : Bool, (kd == 5) = q ∧ (q = true → (k2 == key) = false) := ⟨kd == 5, rfl, fun h => by
                    have : kd = 5 := by simpa using h
                    have hne : k2 ≠ key := fun e => hk5 ⟨this, e⟩
                    simp [hne]⟩
                  obtain ⟨q, hq, hq2⟩ := hcut
                  have b1 : (kd == 1) = false := by simp [hk1]
                  clear hk1 hk5
                  generalize doV V3 kd t k2 = V4 at *
                  cases q
                  all_goals
                    try have hq3 := hq2 rfl
                    clear hq2
                    go_wp2_with fail
                    refine HDN.out.mono ?_
                    rintro e w7 ⟨v', ok, own7, rfl, hE7, hA7⟩
                    have HE7 := Lib.hid (HE'.out.trans (hE7.mono (by simp)))
                    have HE17 := Lib.hid (HE1'.out.trans hE7)
                    have hrI := (Ints.of_row Try.underlying26 hi0 hs0 (HR5.out.ext HE17.out (by simp))).choose_spec
                    generalize (Ints.of_row Try.underlying26 hi0 hs0 (HR5.out.ext HE17.out (by simp))).choose = rb2 at *
                    have rlen := hrI.len
                    have ridx := hrI.idx
                    have RC := Lib.hid hrI.cell
                    have HA7 := Lib.hid hA7
                    clear hE7 HE' HE1' HDN c0 c1 c2 hrI hA7
                    go_wp2_with fail
                    go_loopw [89] (fun iv wr => WkInv4 w7 V.ready.length iv wr) (fun iv _ => V.ready.length - (intOf iv).toNat)
                    case atStart => exact ⟨0, rfl, by omega, rfl⟩
                    case round =>
                      obtain ⟨r, rfl, hr, rfl⟩ := hrel
                      by_cases hlr : r < V.ready.length
                      · have hlr2 : (r : Int) < V.ready.length := by omega
                        have c0 := RC.out r hlr
                        rw [Nat.zero_add] at c0
                        have hs := State_any HA7.out V.ready[r]
                        rw [HST.out _ (List.getElem_mem hlr)] at hs
                        generalize V.ready[r] = x at *
                        have HS := Lib.hid hs
                        clear hs
                        go_wp2_with fail
                        refine HS.out.mono ?_
                        rintro e w8 ⟨rfl, rfl⟩
                        go_wp2_with fail
                        go_roundw
                        case rel => exact ⟨r + 1, by go_num, by omega, rfl⟩
                        case measure => simp [intOf]; omega
                      · obtain rfl : r = V.ready.length := by omega
                        go_wp2_with fail
                        go_roundw
                        case rel => exact ⟨own7, m + 1, V4, by go_num, by omega, by omega, by omega, by omega, HH4.out, HA7.out, HE7.out, HE17.out⟩
                        case measure => simp [intOf]; omega
            · obtain rfl : m = i := by omega
              have hwk := Wake_any hA key
              have hwn := HH.out.woken
              have HW := Lib.hid HH.out.wake
              have hwg : (V3.wake key).good = V3.good ∧ (V3.wake key).bad = V3.bad := ⟨rfl, rfl⟩
              obtain ⟨wg1, wg2⟩ := hwg
              have hrI := (Ints.of_row Try.underlying26 hi0 hs0 (HR5.out.ext HE1.out (by simp))).choose_spec
              generalize (Ints.of_row Try.underlying26 hi0 hs0 (HR5.out.ext HE1.out (by simp))).choose = rb2 at *
              have rlen := hrI.len
              have HWK := Lib.hid hwk
              clear hwk HH hrI
              generalize V3.wake key = V4 at *
              generalize V3.woken key = wn at *
              go_wp2_with fail
              refine HWK.out.mono ?_
              rintro e w7 ⟨rfl, own7, hE7, hA7⟩
              have HE7 := Lib.hid (HE.out.trans (hE7.mono (by simp)))
              have HE17 := Lib.hid (HE1.out.trans hE7)
              clear hE7 HE HE1 HWK hA
              go_wp2_with fail
              go_loopw [107] (fun iv wr => WkInv5 w w5 own5 s (m + V.ready.length + m) V key iv wr) (fun iv _ => V.ready.length - (intOf iv).toNat)
              case atStart => exact ⟨own7, 0, V4, rfl, by omega, by omega, by omega, HW.out, hA7, HE7.out, HE17.out⟩
              case round =>
                clear HW hA7 HE7 HE17 hg3 hb3
                obtain ⟨own, j, V5, rfl, hj, hg5, hb5, hH, hA, hE, hE1⟩ := hrel
                have hrI := (Ints.of_row Try.underlying26 hi0 hs0 (HR5.out.ext hE1 (by simp))).choose_spec
                generalize (Ints.of_row Try.underlying26 hi0 hs0 (HR5.out.ext hE1 (by simp))).choose = rb3 at *
                have HE := Lib.hid hE
                have HE1 := Lib.hid hE1
                have HH := Lib.hid hH
                clear hE hE1 hH
                by_cases hlt : j < V.ready.length
                · have hlt2 : (j : Int) < V.ready.length := by omega
                  have c0 := hrI.cell j hlt
                  have ridx := hrI.idx
                  rw [Nat.zero_add] at c0
                  have hs1 := HH.out.state HZ.out (List.getElem_mem hlt)
                  generalize V.ready[j] = t at *
                  have hsa := State_any hA t
                  rw [hs1] at hsa
                  have hpk := sc_as (r' := .bool true) (Pick_any hA (by omega) (by omega) t) (by rw [hs1]; exact rfl) rfl
                  have HS6 := Lib.hid hsa
                  have HPK := Lib.hid hpk
                  have HH6 := Lib.hid (HH.out.pick t)
                  obtain ⟨p1, p2, p3, p4, p5⟩ := V5.pick_le t
                  clear hsa hpk hs1 HH hrI hA
                  go_wp2_with fail
                  refine HS6.out.mono ?_
                  rintro e w8 ⟨rfl, rfl⟩
                  go_wp2_with fail
                  refine HPK.out.mono ?_
                  rintro e w8 ⟨rfl, own8, hE8, hA8⟩
                  have HE8 := Lib.hid (HE.out.trans (hE8.mono (by simp)))
                  have HE18 := Lib.hid (HE1.out.trans hE8)
                  generalize V5.pick t = V6 at *
                  clear hE8 HE HE1 HPK HS6
                  go_wp2_with fail
                  go_roundw
                  case rel => exact ⟨own8, j + 1, V6, by go_num, by omega, by omega, by omega, HH6.out, hA8, HE8.out, HE18.out⟩
                  case measure => simp [intOf]; omega
                · obtain rfl : j = V.ready.length := by omega
                  have hwk := sc_as (r' := .int .i64 0) (Wake_any hA key) (by rw [HH.out.2]) rfl
                  have HWK := Lib.hid hwk
                  clear hwk hA hrI
                  go_wp2_with fail
                  refine HWK.out.mono ?_
                  rintro e w8 ⟨rfl, own8, hE8, hA8⟩
                  have HE8 := Lib.hid (HE.out.trans (hE8.mono (by simp)))
                  clear hE8 HE HE1 HWK hA8
                  go_wp2_with fail
                  go_ret
                  exact ⟨rfl, HE8.out.below (by simp)⟩
end Go.Proofs.Ytemibcglhbjaoaa
