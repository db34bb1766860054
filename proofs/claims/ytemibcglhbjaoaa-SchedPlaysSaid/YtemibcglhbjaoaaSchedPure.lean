/- Layer 6: plain facts about schedulers; no program in sight. -/
import Derived.Test.YtemibcglhbjaoaaSchedDoes
import Derived.Test.YtemibcglhbjaoaaSchedLaw
import Derived.Test.YtemibcglhbjaoaaInts
import Derived.Test.YtemibcglhbjaoaaArgs
set_option maxRecDepth 20000
set_option linter.unusedVariables false
set_option linter.unusedSimpArgs false
namespace Go.Proofs.Ytemibcglhbjaoaa
open Go.RowKit Go.PM
variable {V : SV}
theorem doV_len (V : SV) (kd t key : Int) : V.ths.length ≤ (doV V kd t key).ths.length ∧ (doV V kd t key).ths.length ≤ V.ths.length + 1 := by
  unfold doV SV.spawn SV.block SV.end_ SV.free SV.wake SV.pick SV.put
  repeat' split
  all_goals simp
theorem doV_good (V : SV) (kd t key : Int) : V.good ≤ (doV V kd t key).good ∧ (doV V kd t key).good ≤ V.good + 1 ∧ V.bad ≤ (doV V kd t key).bad ∧ (doV V kd t key).bad ≤ V.bad + 1 := by
  unfold doV SV.spawn SV.block SV.end_ SV.free SV.wake SV.pick SV.put
  repeat' split
  all_goals (try dsimp only) <;> omega
theorem doV_most (V : SV) (kd t key : Int) : (doV V kd t key).most = V.most := by
  unfold doV SV.spawn SV.block SV.end_ SV.free SV.wake SV.pick SV.put
  repeat' split
  all_goals rfl
/-- The place 0 is nobody's. -/
def SV.Z (V : SV) : Prop := ∃ l, V.ths = (0, 0) :: l
theorem SV.fresh_Z (most : Int) : (SV.fresh most).Z := ⟨[], rfl⟩
theorem SV.state_pos {t : Int} (h : V.state t ≠ 0) : 1 ≤ t ∧ t < V.ths.length := by
  unfold SV.state at h
  split at h
  · exact absurd rfl h
  · omega
theorem SV.err_pos {t fr : Int} (h : V.err t fr = 0) : 1 ≤ t ∧ t < V.ths.length ∧ V.state t = fr := by
  unfold SV.err at h
  split at h
  · cases h
  · rename_i h0
    split at h
    · cases h
    · rename_i h1
      exact ⟨(SV.state_pos h0).1, (SV.state_pos h0).2, Classical.not_not.1 h1⟩
theorem SV.put_Z (h : V.Z) {t : Int} (ht : 1 ≤ t) (p : Int × Int) : (V.put t p).Z := by
  obtain ⟨l, hl⟩ := h
  obtain ⟨i, rfl⟩ : ∃ i : Nat, t = (i : Int) + 1 := ⟨(t - 1).toNat, by omega⟩
  refine ⟨l.set i p, ?_⟩
  simp only [SV.put, hl]
  have : ((i : Int) + 1).toNat = i + 1 := by omega
  rw [this]
  rfl
theorem doV_Z (h : V.Z) (kd t key : Int) : (doV V kd t key).Z := by
  unfold doV
  repeat' split
  · unfold SV.spawn
    split
    · obtain ⟨l, hl⟩ := h
      exact ⟨l ++ [(1, 0)], by simp [hl]⟩
    · exact h
  · unfold SV.block
    split
    · rename_i h1
      exact SV.put_Z h (SV.err_pos h1).1 _
    · exact h
  · unfold SV.end_
    split
    · rename_i h1
      exact SV.put_Z h (SV.err_pos h1).1 _
    · exact h
  · unfold SV.free
    split
    · rename_i h1
      exact SV.put_Z h (SV.err_pos h1).1 _
    · exact h
  · obtain ⟨l, hl⟩ := h
    exact ⟨l.map fun p => if wakes key p then (1, p.2) else p, by simp [SV.wake, hl, wakes]⟩
  · unfold SV.pick
    split <;> exact h
  · exact h
theorem mem_readyFrom (l : List (Int × Int)) (t : Int) : ∀ i : Nat, t ∈ readyFrom l i ↔ ∃ j : Nat, ∃ h : j < l.length, l[j].1 = 1 ∧ t = (i + j : Nat) := by
  induction l with
  | nil => intro i; simp [readyFrom]
  | cons p l ih =>
    intro i
    have hcons : (∃ j : Nat, ∃ h : j < (p :: l).length, (p :: l)[j].1 = 1 ∧ t = (i + j : Nat)) ↔ (p.1 = 1 ∧ t = i) ∨ ∃ j : Nat, ∃ h : j < l.length, l[j].1 = 1 ∧ t = (i + 1 + j : Nat) := by
      constructor
      · rintro ⟨j, h, h1, h2⟩
        cases j with
        | zero => exact .inl ⟨h1, by simpa using h2⟩
        | succ j => exact .inr ⟨j, by simpa using h, by simpa using h1, by rw [h2]; congr 1; omega⟩
      · rintro (⟨h1, h2⟩ | ⟨j, h, h1, h2⟩)
        · exact ⟨0, by simp, by simpa using h1, by simpa using h2⟩
        · exact ⟨j + 1, by simpa using h, by simpa using h1, by rw [h2]; congr 1; omega⟩
    rw [hcons, readyFrom]
    split
    · rename_i h1
      rw [List.mem_cons, ih (i + 1)]
      constructor
      · rintro (h | h)
        · exact .inl ⟨h1, h⟩
        · exact .inr h
      · rintro (h | h)
        · exact .inl h.2
        · exact .inr h
    · rename_i h1
      rw [ih (i + 1)]
      constructor
      · exact .inr
      · rintro (h | h)
        · exact absurd h.1 h1
        · exact h
theorem SV.mem_ready (hz : V.Z) (t : Int) : t ∈ V.ready ↔ V.state t = 1 := by
  obtain ⟨l, hl⟩ := hz
  rw [SV.ready, mem_readyFrom]
  constructor
  · rintro ⟨j, h, h1, h2⟩
    have hj : 1 ≤ j := by
      cases j with
      | zero => simp [hl] at h1
      | succ j => omega
    rw [Nat.zero_add] at h2
    subst h2
    rw [SV.state_in hj h]
    exact h1
  · intro h
    obtain ⟨i, rfl, h1, hi, h2⟩ := SV.state_zero (V := V) (t := t) (by rw [h]; decide)
    exact ⟨i, hi, by rw [← h2, h], by simp⟩
theorem SV.ready_has (hz : V.Z) (t : Int) : V.ready.contains t = (V.state t == 1) := by
  rw [Bool.eq_iff_iff, List.contains_iff_mem, SV.mem_ready hz]
  simp
theorem SV.ready_le (V : SV) : V.ready.length ≤ V.ths.length := readyFrom_length _ _
/-- Picks alone: the states stay. -/
def SV.picked (V : SV) (a b : Int) : SV := { V with good := V.good + a, bad := V.bad + b }
theorem SV.picked_state (V : SV) (a b t : Int) : (V.picked a b).state t = V.state t := rfl
theorem SV.picked_ready (V : SV) (a b : Int) : (V.picked a b).ready = V.ready := rfl
theorem SV.picked_hit (V : SV) (a b t : Int) (h : V.state t = 1) : (V.picked a b).pick t = V.picked (a + 1) b := by
  unfold SV.pick
  rw [SV.picked_state, if_pos h]
  simp [SV.picked]; omega
theorem SV.picked_miss (V : SV) (a b t : Int) (h : V.state t ≠ 1) : (V.picked a b).pick t = V.picked a (b + 1) := by
  unfold SV.pick
  rw [SV.picked_state, if_neg h]
  simp [SV.picked]; omega
theorem SV.picked_zero (V : SV) : V.picked 0 0 = V := by simp [SV.picked]
/-- One call against the empty document. -/
theorem does_none {w : World} {own : Nat → Nat} {s : Nat} (hS : Sched w own 1 s V) (hl : V.ths.length < 6000000000000) (hg : V.good < 600000000000000) (hb : V.bad < 600000000000000) (kd t key : Int) :
    Calls Try.prog 19 #[.pointer (some ⟨s, 0, none⟩), .agg #[.slice none 0 0, .slice none 0 0, .int .i64 0, .int .i64 0, .int .i64 0], .agg #[.int .i64 kd, .int .i64 t, .int .i64 key]] w fun e w' =>
      ∃ v' ok own', e = .returned (.tuple #[v', .bool ok]) ∧ Ext (fun c => c = 1) w w' own own' ∧ Sched w' own' 1 s (doV V kd t key) := by
  refine (does_any hS (Ref.empty w own 0) (by decide) hl (by simp) hg hb (by simp) (by simp) kd t key).mono ?_
  rintro e w' ⟨v', own', h1, h2, h3, _⟩
  exact ⟨v', _, own', h1, h2, h3⟩
end Go.Proofs.Ytemibcglhbjaoaa
