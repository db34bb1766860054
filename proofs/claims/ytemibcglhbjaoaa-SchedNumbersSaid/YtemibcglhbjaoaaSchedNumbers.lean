/- SchedNumbers: numbers are never used again; never more threads than may be. -/
import Derived.Test.YtemibcglhbjaoaaSchedPure
import Derived.Deep.DeepCutAuto
set_option maxRecDepth 20000
set_option linter.unusedVariables false
set_option linter.unusedSimpArgs false
namespace Go.Proofs.Ytemibcglhbjaoaa
open Go.RowKit Go.PM

/-! ### plain facts -/
variable {V : SV} {over : List Int}
def live2 (l : List (Int × Int)) : Nat := (l.filter fun p => p.1 != 0).length
/-- What holds after each call: who is over was ended, or freed later; not too many; no state below 0. -/
structure NumOk (V : SV) (over : List Int) : Prop where
  z : V.Z
  pos : ∀ p ∈ V.ths, 0 ≤ p.1
  few : (live2 V.ths : Int) ≤ V.most
  ov : ∀ t ∈ over, 1 ≤ t ∧ t < V.ths.length ∧ (V.state t = 3 ∨ V.state t = 0)
  three : ∀ t, V.state t = 3 → t ∈ over
theorem live2_set (l : List (Int × Int)) : ∀ (i : Nat) (h : i < l.length) (x : Int × Int), (l[i].1 ≠ 0 ∨ x.1 = 0) → live2 (l.set i x) ≤ live2 l := by
  induction l with
  | nil => intro i h; simp at h
  | cons p l ih =>
    intro i h x hx
    cases i with
    | zero =>
      simp only [List.getElem_cons_zero] at hx
      simp only [List.set_cons_zero, live2, List.filter_cons]
      rcases hx with hx | hx
      · have : (p.1 != 0) = true := by simp [hx]
        rw [if_pos this]
        split <;> simp
      · have : (x.1 != 0) = false := by simp [hx]
        rw [this]
        simp only [Bool.false_eq_true, if_false]
        split <;> simp
    | succ i =>
      have := ih i (by simpa using h) x (by simpa using hx)
      simp only [List.set_cons_succ, live2, List.filter_cons] at this ⊢
      split <;> simp <;> omega
theorem SV.state_put (hz : V.Z) {i : Nat} (h1 : 1 ≤ i) (hi : i < V.ths.length) (x : Int × Int) (t : Int) : (V.put i x).state t = if t = i then x.1 else V.state t := by
  by_cases ht : t < 1
  · have e1 : (V.put i x).state t = 0 := by unfold SV.state; rw [if_pos (.inl ht)]
    have e2 : V.state t = 0 := by unfold SV.state; rw [if_pos (.inl ht)]
    rw [e1, e2, if_neg (by omega)]
  · obtain ⟨j, rfl⟩ := Int.eq_ofNat_of_zero_le (show 0 ≤ t by omega)
    have hlen : (V.put i x).ths.length = V.ths.length := by simp [SV.put]
    by_cases hj : j < V.ths.length
    · rw [SV.state_in (V := V.put i x) (i := j) (by omega) (by omega), SV.state_in (i := j) (by omega) hj]
      simp only [SV.put, Int.toNat_natCast, List.getElem_set]
      by_cases hij : i = j
      · subst hij; simp
      · rw [if_neg hij, if_neg (by omega)]
    · have e1 : (V.put i x).state j = 0 := by unfold SV.state; rw [if_pos (.inr (by rw [hlen]; omega))]
      have e2 : V.state j = 0 := by unfold SV.state; rw [if_pos (.inr (by omega))]
      rw [e1, e2, if_neg (by omega)]
theorem NumOk.put (h : NumOk V over) {i : Nat} (h1 : 1 ≤ i) (hi : i < V.ths.length) (hst : V.state i ≠ 0) (x : Int × Int) (hx : 0 ≤ x.1) (h3 : V.state i = 3 → x.1 = 3 ∨ x.1 = 0) (h33 : x.1 = 3 → (i : Int) ∈ over) : NumOk (V.put i x) over := by
  have hs := SV.state_put h.z h1 hi x
  refine ⟨SV.put_Z h.z (by omega) x, ?_, ?_, ?_, ?_⟩
  · intro p hp
    simp only [SV.put] at hp
    rcases List.mem_or_eq_of_mem_set hp with hp | rfl
    · exact h.pos p hp
    · exact hx
  · have := live2_set V.ths i hi x (.inl (by rw [← SV.state_in h1 hi]; exact hst))
    have hf := h.few
    simp only [SV.put, Int.toNat_natCast]
    omega
  · intro t ht
    obtain ⟨o1, o2, o3⟩ := h.ov t ht
    refine ⟨o1, by simpa [SV.put] using o2, ?_⟩
    rw [hs t]
    by_cases hti : t = i
    · rw [if_pos hti]
      rcases o3 with o3 | o3
      · exact h3 (by rw [← hti]; exact o3)
      · rw [hti] at o3; exact absurd o3 hst
    · rw [if_neg hti]; exact o3
  · intro t ht
    rw [hs t] at ht
    by_cases hti : t = i
    · rw [if_pos hti] at ht; rw [hti]; exact h33 ht
    · rw [if_neg hti] at ht; exact h.three t ht
theorem SV.err_nat {t fr : Int} (h : V.err t fr = 0) : ∃ i : Nat, t = i ∧ 1 ≤ i ∧ i < V.ths.length ∧ V.state i = fr := by
  obtain ⟨h1, h2, h3⟩ := SV.err_pos h
  exact ⟨t.toNat, by omega, by omega, by omega, by rw [show ((t.toNat : Nat) : Int) = t by omega]; exact h3⟩
theorem NumOk.block (h : NumOk V over) (t key : Int) : NumOk (V.block t key) over := by
  unfold SV.block
  split
  · rename_i he
    obtain ⟨i, rfl, h1, hi, hs⟩ := SV.err_nat he
    exact h.put h1 hi (by rw [hs]; decide) _ (by simp) (by rw [hs]; intro h; exact absurd h (by decide)) (by intro h; exact absurd h (by simp))
  · exact h
theorem NumOk.free (h : NumOk V over) (t : Int) : NumOk (V.free t) over := by
  unfold SV.free
  split
  · rename_i he
    obtain ⟨i, rfl, h1, hi, hs⟩ := SV.err_nat he
    exact h.put h1 hi (by rw [hs]; decide) _ (by simp) (fun _ => .inr rfl) (by intro h; exact absurd h (by simp))
  · exact h
theorem NumOk.more (h : NumOk V over) {t : Int} (h1 : 1 ≤ t) (h2 : t < V.ths.length) (h3 : V.state t = 3 ∨ V.state t = 0) : NumOk V (over ++ [t]) := by
  refine ⟨h.z, h.pos, h.few, fun x hx => ?_, fun x hx => List.mem_append_left _ (h.three x hx)⟩
  rcases List.mem_append.1 hx with hx | hx
  · exact h.ov x hx
  · rw [List.mem_singleton.1 hx]; exact ⟨h1, h2, h3⟩
theorem NumOk.end_miss (h : NumOk V over) {t : Int} (he : V.err t 1 ≠ 0) : NumOk (V.end_ t) over := by
  unfold SV.end_
  rw [if_neg he]
  exact h
theorem NumOk.end_hit (h : NumOk V over) {t : Int} (he : V.err t 1 = 0) : NumOk (V.end_ t) (over ++ [t]) := by
  obtain ⟨i, rfl, h1, hi, hs⟩ := SV.err_nat he
  have hs2 := SV.state_put h.z h1 hi (3, V.key i)
  unfold SV.end_
  rw [if_pos he]
  refine ⟨SV.put_Z h.z (by omega) _, ?_, ?_, ?_, ?_⟩
  · intro p hp
    simp only [SV.put] at hp
    rcases List.mem_or_eq_of_mem_set hp with hp | rfl
    · exact h.pos p hp
    · simp
  · have := live2_set V.ths i hi (3, V.key i) (.inl (by rw [← SV.state_in h1 hi, hs]; decide))
    have hf := h.few
    simp only [SV.put, Int.toNat_natCast]
    omega
  · intro t ht
    rw [hs2 t]
    rcases List.mem_append.1 ht with ht | ht
    · obtain ⟨o1, o2, o3⟩ := h.ov t ht
      refine ⟨o1, by simpa [SV.put] using o2, ?_⟩
      by_cases hti : t = i
      · rw [if_pos hti]; exact .inl rfl
      · rw [if_neg hti]; exact o3
    · rw [List.mem_singleton.1 ht]
      exact ⟨by omega, by simp [SV.put]; omega, .inl (by simp)⟩
  · intro t ht
    rw [hs2 t] at ht
    by_cases hti : t = i
    · rw [hti]; simp
    · rw [if_neg hti] at ht; exact List.mem_append_left _ (h.three t ht)
theorem NumOk.pick (h : NumOk V over) (t : Int) : NumOk (V.pick t) over := by
  unfold SV.pick
  split <;> exact ⟨h.z, h.pos, h.few, h.ov, h.three⟩
theorem live2_wake (l : List (Int × Int)) (key : Int) : live2 (l.map fun p => if wakes key p then (1, p.2) else p) = live2 l := by
  induction l with
  | nil => rfl
  | cons p l ih =>
    simp only [live2] at ih
    simp only [live2, List.map_cons, List.filter_cons]
    by_cases hw : wakes key p = true
    · have h2 : p.1 = 2 := by simp only [wakes, Bool.and_eq_true, beq_iff_eq] at hw; exact hw.1
      simp [hw, h2, ih]
    · simp only [hw, Bool.false_eq_true, if_false]
      split <;> simp [ih]
theorem SV.state_wake (V : SV) (key t : Int) : (V.wake key).state t = if V.state t = 2 ∧ V.key t = key then 1 else V.state t := by
  have hlen : (V.wake key).ths.length = V.ths.length := by simp [SV.wake]
  by_cases ht : t < 1
  · have e1 : (V.wake key).state t = 0 := by unfold SV.state; rw [if_pos (.inl ht)]
    have e2 : V.state t = 0 := by unfold SV.state; rw [if_pos (.inl ht)]
    rw [e1, e2, if_neg (by intro h; exact absurd h.1 (by decide))]
  · obtain ⟨j, rfl⟩ := Int.eq_ofNat_of_zero_le (show 0 ≤ t by omega)
    by_cases hj : j < V.ths.length
    · rw [SV.state_in (V := V.wake key) (i := j) (by omega) (by omega), SV.state_in (i := j) (by omega) hj, SV.key_in hj]
      simp only [SV.wake, List.getElem_map]
      by_cases hw : wakes key V.ths[j] = true
      · rw [if_pos hw, if_pos (by simpa [wakes] using hw)]
      · rw [if_neg hw, if_neg (by intro h; exact hw (by simp [wakes, h.1, h.2]))]
    · have e1 : (V.wake key).state j = 0 := by unfold SV.state; rw [if_pos (.inr (by rw [hlen]; omega))]
      have e2 : V.state j = 0 := by unfold SV.state; rw [if_pos (.inr (by omega))]
      rw [e1, e2, if_neg (by intro h; exact absurd h.1 (by decide))]
theorem NumOk.wake (h : NumOk V over) (key : Int) : NumOk (V.wake key) over := by
  refine ⟨doV_Z (kd := 5) (t := 0) (key := key) h.z, ?_, ?_, ?_, ?_⟩
  · intro p hp
    obtain ⟨q, hq, rfl⟩ := List.mem_map.1 (show p ∈ V.ths.map _ from hp)
    split
    · simp
    · exact h.pos q hq
  · have := live2_wake V.ths key
    have hf := h.few
    simp only [SV.wake] at *
    omega
  · intro t ht
    obtain ⟨o1, o2, o3⟩ := h.ov t ht
    refine ⟨o1, by simpa [SV.wake] using o2, ?_⟩
    rw [SV.state_wake, if_neg (by intro h; omega)]
    exact o3
  · intro t ht
    rw [SV.state_wake] at ht
    split at ht
    · exact absurd ht (by decide)
    · exact h.three t ht
theorem live2_append (l : List (Int × Int)) (x : Int × Int) : live2 (l ++ [x]) ≤ live2 l + 1 := by
  simp only [live2, List.filter_append, List.length_append]
  have := List.length_filter_le (fun p : Int × Int => p.1 != 0) [x]
  simp only [List.length_singleton] at this
  omega
theorem SV.state_append {V' : SV} {x : Int × Int} (h : V'.ths = V.ths ++ [x]) (hz : V.Z) (t : Int) : V'.state t = if t = V.ths.length then x.1 else V.state t := by
  have hlen : V'.ths.length = V.ths.length + 1 := by simp [h]
  have hl1 : 1 ≤ V.ths.length := by obtain ⟨l, hl⟩ := hz; simp [hl]
  by_cases ht : t < 1
  · have e1 : V'.state t = 0 := by unfold SV.state; rw [if_pos (.inl ht)]
    have e2 : V.state t = 0 := by unfold SV.state; rw [if_pos (.inl ht)]
    rw [e1, e2, if_neg (by omega)]
  · obtain ⟨j, rfl⟩ := Int.eq_ofNat_of_zero_le (show 0 ≤ t by omega)
    by_cases hj : j < V.ths.length
    · rw [SV.state_in (V := V') (i := j) (by omega) (by omega), SV.state_in (i := j) (by omega) hj, if_neg (by omega)]
      simp only [h]
      rw [List.getElem_append_left hj]
    · by_cases hj2 : j = V.ths.length
      · subst hj2
        rw [SV.state_in (V := V') (by omega) (by omega), if_pos rfl]
        simp only [h]
        simp
      · have e1 : V'.state j = 0 := by unfold SV.state; rw [if_pos (.inr (by rw [hlen]; omega))]
        have e2 : V.state j = 0 := by unfold SV.state; rw [if_pos (.inr (by omega))]
        rw [e1, e2, if_neg (by omega)]
theorem NumOk.spawn (h : NumOk V over) : NumOk V.spawn over := by
  unfold SV.spawn
  split
  · rename_i he
    have hm : V.live < V.most := by
      unfold SV.spawnErr at he
      split at he
      · cases he
      · omega
    have hs := SV.state_append (V := V) (V' := { V with ths := V.ths ++ [(1, 0)] }) rfl h.z
    refine ⟨?_, ?_, ?_, ?_, ?_⟩
    · obtain ⟨l, hl⟩ := h.z
      exact ⟨l ++ [(1, 0)], by simp [hl]⟩
    · intro p hp
      rcases List.mem_append.1 hp with hp | hp
      · exact h.pos p hp
      · rw [List.mem_singleton.1 hp]; decide
    · have := live2_append V.ths (1, 0)
      have hl : V.live = live2 V.ths := rfl
      dsimp only
      omega
    · intro t ht
      obtain ⟨o1, o2, o3⟩ := h.ov t ht
      refine ⟨o1, by simp; omega, ?_⟩
      rw [hs t, if_neg (by omega)]
      exact o3
    · intro t ht
      rw [hs t] at ht
      split at ht
      · exact absurd ht (by decide)
      · exact h.three t ht
  · exact h
theorem NumOk.doV (h : NumOk V over) {kd t key : Int} (h3 : kd ≠ 3) (h4 : kd ≠ 4) : NumOk (doV V kd t key) over := by
  unfold Go.Proofs.Ytemibcglhbjaoaa.doV
  rw [if_neg h3, if_neg h4]
  repeat' split
  · exact h.spawn
  · exact h.block t key
  · exact h.wake key
  · exact h.pick t
  · exact h
theorem NumOk.fresh (most : Int) : NumOk (SV.fresh most) [] := by
  refine ⟨SV.fresh_Z most, ?_, ?_, by simp, ?_⟩
  · intro p hp
    simp only [SV.fresh, List.mem_singleton] at hp
    rw [hp]; decide
  · simp only [SV.fresh, live2]
    simp
    omega
  · intro t ht
    have := SV.state_pos (V := SV.fresh most) (t := t) (by rw [ht]; decide)
    simp only [SV.fresh, List.length_singleton] at this
    omega
/-- How many of the first i places are not free. -/
theorem live2_take_succ (l : List (Int × Int)) (i : Nat) (hi : i < l.length) : live2 (l.take (i + 1)) = live2 (l.take i) + if l[i].1 != 0 then 1 else 0 := lcount_succ l i hi
theorem live2_take_le (l : List (Int × Int)) (i : Nat) : live2 (l.take i) ≤ i := lcount_le l i

/-! ### the walk -/
theorem run_max (ts : Array TypeId) (ty : TypeId) (a b : Int) (w : World) : (Builtin.max_ ts ty #[.int .i64 a, .int .i64 b]).run Try.prog w = .ok (.int .i64 (max a b)) w := by
  simp only [Builtin.max_, List.foldlM_cons, List.foldlM_nil, Builtin.max2]
  have : (if a < b then b else a) = max a b := by split <;> omega
  simp [← this]
theorem run_min (ts : Array TypeId) (ty : TypeId) (a b : Int) (w : World) : (Builtin.min_ ts ty #[.int .i64 a, .int .i64 b]).run Try.prog w = .ok (.int .i64 (min a b)) w := by
  simp only [Builtin.min_, List.foldlM_cons, List.foldlM_nil, Builtin.min2]
  have : (if b < a then b else a) = min a b := by split <;> omega
  simp [← this]
def NmInv (w0 : World) (s N : Nat) (most : Int) (g : Nat) (lv ov iv : Value) (w : World) : Prop :=
  ∃ (own : Nat → Nat) (i : Nat) (V : SV) (over : List Int), iv = .int .i64 i ∧ lv = .int .i64 ((V.ths.length : Int) - 1) ∧ i + g = N ∧ over.length ≤ i ∧ 1 ≤ V.ths.length ∧ V.ths.length ≤ i + 1 ∧ V.good ≤ i ∧ V.bad ≤ i ∧ V.most = (SV.fresh most).most ∧ NumOk V over ∧
    Row w own 3 3 1 ov over.length (intsV over) ∧ Sched w own 1 s V ∧ Ext (fun c => c ≠ 0) w0 w (fun _ => 0) own
/-- Behind a call of the script. -/
def NmMid (w0 : World) (s i : Nat) (most : Int) (lv ov : Value) (w : World) : Prop :=
  ∃ (own : Nat → Nat) (V : SV) (over : List Int), lv = .int .i64 ((V.ths.length : Int) - 1) ∧ over.length ≤ i + 1 ∧ 1 ≤ V.ths.length ∧ V.ths.length ≤ i + 2 ∧ V.good ≤ i + 1 ∧ V.bad ≤ i + 1 ∧ V.most = (SV.fresh most).most ∧ NumOk V over ∧
    Row w own 3 3 1 ov over.length (intsV over) ∧ Sched w own 1 s V ∧ Ext (fun c => c ≠ 0) w0 w (fun _ => 0) own
def NmCount (V : SV) (w1 : World) (cv tv : Value) (w : World) : Prop := ∃ t : Nat, tv = .int .i64 t ∧ cv = .int .i64 (live2 (V.ths.take t) : Nat) ∧ 1 ≤ t ∧ t ≤ V.ths.length ∧ w = w1
def NmOver (over : List Int) (w1 : World) (iv : Value) (w : World) : Prop := ∃ j : Nat, iv = .int .i64 j ∧ j ≤ over.length ∧ w = w1
theorem SV.spawn_ok (V : SV) (h : V.spawnErr = 0) : V.spawnId = V.ths.length ∧ V.spawn.ths.length = V.ths.length + 1 ∧ V.spawn.good = V.good ∧ V.spawn.bad = V.bad ∧ V.spawn.most = V.most := by
  simp [SV.spawnId, SV.spawn, h]
theorem SV.spawn_full (V : SV) (h : V.spawnErr ≠ 0) : V.spawnId = 0 ∧ V.spawn = V ∧ V.spawnErr = 3 := by
  refine ⟨by simp [SV.spawnId, h], by simp [SV.spawn, h], ?_⟩
  unfold SV.spawnErr at h ⊢
  split
  · rfl
  · rename_i h'; rw [if_neg h'] at h; exact absurd rfl h
theorem doV_len_eq' (V : SV) {kd : Int} (h : kd ≠ 1) (t key : Int) : (doV V kd t key).ths.length = V.ths.length := by
  unfold doV SV.block SV.end_ SV.free SV.wake SV.pick SV.put
  rw [if_neg h]
  repeat' split
  all_goals simp
theorem SV.end_same (V : SV) (t : Int) : (V.end_ t).ths.length = V.ths.length ∧ (V.end_ t).good = V.good ∧ (V.end_ t).bad = V.bad ∧ (V.end_ t).most = V.most := by
  unfold SV.end_ SV.put; split <;> simp
theorem SV.free_same (V : SV) (t : Int) : (V.free t).ths.length = V.ths.length ∧ (V.free t).good = V.good ∧ (V.free t).bad = V.bad ∧ (V.free t).most = V.most := by
  unfold SV.free SV.put; split <;> simp
set_option maxHeartbeats 4000000 in
theorem schedNumbers_walk (w : World) (most : Int) (hmost : -9223372036854775808 ≤ most ∧ most ≤ 9223372036854775807) (v : Value) (n b off : Nat) (f : Nat → Nat → Int) (hp : Recs Try.prog 22 3 w v n b off f) :
    Calls Try.prog 3 #[.int .i64 most, v] w fun e w' => e = .returned (.bool true) ∧ Below w.heap.size w w' := by
  obtain ⟨i0, hi0, hz0, hs0, hz2⟩ := info_parts info_int
  have hlen := hp.len
  have hidx := hp.idx
  have hsz := hp.size
  go_enter Try.func3, Try.ntmps3
  go_wp2_with fail
  refine (SNew_any most 1 (fun _ => 0) w).mono ?_
  rintro e w1 ⟨rfl, hB, hA⟩
  have h01 : Ext (fun c => c ≠ 0) w w1 (fun _ => 0) (ow (fun _ => 0) w.heap.size 1) := Ext.of_below hB _ _
  generalize ow (fun _ => 0) w.heap.size 1 = own1 at *
  generalize w.heap.size + 1 = s at *
  have H := Lib.hid h01
  clear h01 hB
  go_wp2_with fail
  refine (salive_any w1).mono ?_
  rintro e w2 ⟨rfl, hB⟩
  have h12 : Ext (fun c => c ≠ 0) w1 w2 own1 (ow own1 w1.heap.size 2) := Ext.of_below hB _ _
  have hA2 := hA.ext (M := fun _ => False) (Ext.of_below hB _ 2) (by simp)
  have H2 := Lib.hid (H.out.trans h12)
  clear h12 hB hA H
  have hmx := run_max
  have hmn := run_min
  go_wp2_with fail
  go_loopg [7, 8, 31] n (fun g lv ov iv wr => NmInv w s n most g lv ov iv wr)
  case atStart =>
    refine ⟨ow (ow own1 w1.heap.size 2) w2.heap.size 3, 0, SV.fresh most, [], rfl, by simp [SV.fresh], by omega, by simp, by simp [SV.fresh], by simp [SV.fresh], by simp [SV.fresh], by simp [SV.fresh], rfl, NumOk.fresh most, ?_, ?_, ?_⟩
    · refine Row.start ?_
      exact Blk.new (own := ow (ow own1 w1.heap.size 2) w2.heap.size 3) (k := 3) w2 _ (ow_ge (Nat.le_refl _))
    · exact (hA2.ext (M := fun _ => False) (Ext.refl.ow 3) (by simp)).ext (M := fun _ => False) (Ext.refl.alloc _) (by simp)
    · exact (H2.out.ow 3).alloc _
  case round =>
    clear hA2 H2
    obtain ⟨own, i, V, over, rfl, rfl, hi, ho, hl1, hl, hg, hbd, hms, hok, hrow, hA, hE⟩ := hrel
    have HE := Lib.hid hE
    have HK := Lib.hid hok
    have HMS := Lib.hid hms
    clear hE hok hms
    by_cases hlt : i < n
    · have hlt2 : (i : Int) < n := by omega
      have c0 := hp.at_ (HE.out.below (by simp)) hlt (show 0 < 3 by omega)
      have c1 := hp.at_ (HE.out.below (by simp)) hlt (show 1 < 3 by omega)
      have c2 := hp.at_ (HE.out.below (by simp)) hlt (show 2 < 3 by omega)
      rw [Nat.add_zero] at c0
      generalize f i 0 = kd at *
      generalize f i 1 = t at *
      generalize f i 2 = k2 at *
      have hX : ∀ M, Ext M wr (wr.alloc (.cells #[.int .i64 kd, .int .i64 t, .int .i64 k2] 28)) own (ow own wr.heap.size 2) := fun M => (Ext.refl.ow 2).alloc _
      have hbox : Blk (wr.alloc (.cells #[.int .i64 kd, .int .i64 t, .int .i64 k2] 28)) (ow own wr.heap.size 2) 2 wr.heap.size (.cells #[.int .i64 kd, .int .i64 t, .int .i64 k2] 28 (0, 0)) := Blk.new wr _ (ow_ge (Nat.le_refl _))
      have hA' := hA.ext (hX (fun _ => False)) (by simp)
      have hrow' := hrow.ext (hX (fun _ => False)) (by simp)
      have HE' := Lib.hid (HE.out.trans (hX _))
      clear HE hA hrow hX
      go_upto_if 37 with fail
      generalize ow own wr.heap.size 2 = own2 at *
      generalize wr.alloc (.cells #[.int .i64 kd, .int .i64 t, .int .i64 k2] 28) = wa at *
      obtain ⟨d0, d1, d2⟩ := five_col hbox
      go_cut [7, 8] (fun lv ov wx => NmMid w s i most lv ov wx)
      case first =>
        have hzz := HK.out.z
        by_cases h1 : kd = 1
        · have b1 : (kd == 1) = true := by simp [h1]
          clear h1
          have hsp := Spawn_any hA' (by omega)
          have HKS := Lib.hid HK.out.spawn
          by_cases he : V.spawnErr = 0
          · obtain ⟨e1, e2, e3, e4, e5⟩ := SV.spawn_ok V he
            have hsp := sc_as (r' := .tuple #[.int .i64 V.ths.length, .int .i64 0]) hsp (by rw [e1, he]) rfl
            have hms2 : Hid (V.spawn.most = (SV.fresh most).most) := by rw [e5]; exact HMS.out
            have HSP := Lib.hid hsp
            clear hsp he e5 e1 hzz
            generalize V.spawn = V2 at *
            go_wp2_with fail
            refine HSP.out.mono ?_
            rintro e w4 ⟨rfl, own4, hE4, hA4⟩
            have hrow4 := hrow'.ext hE4 (by simp)
            have HE4 := Lib.hid (HE'.out.trans (hE4.mono (by simp)))
            clear hE4 HE' hrow' hA' HSP hbox d0 d1 d2
            have bb : ((V.ths.length : Int) != (V.ths.length : Int) - 1 + 1) = false := by
              simp only [bne_eq_false_iff_eq]; omega
            have hmx2 : max ((V.ths.length : Int) - 1) (V.ths.length : Int) = V.ths.length := by omega
            go_wp2_with fail
            go_meet
            refine ⟨own4, V2, over, ?_, by omega, by omega, by omega, by omega, by omega, hms2.out, HKS.out, hrow4, hA4, HE4.out⟩
            first | (rw [hmx2, e2]; congr 1; omega) | (rw [e2]; congr 1; omega)
          · obtain ⟨e1, e2, e3⟩ := SV.spawn_full V he
            have hsp := sc_as (r' := .tuple #[.int .i64 0, .int .i64 3]) hsp (by rw [e1, e3]) e2
            rw [e2] at HKS
            have HSP := Lib.hid hsp
            clear hsp he e1 e2 e3 hzz
            go_wp2_with fail
            refine HSP.out.mono ?_
            rintro e w4 ⟨rfl, own4, hE4, hA4⟩
            have hrow4 := hrow'.ext hE4 (by simp)
            have HE4 := Lib.hid (HE'.out.trans (hE4.mono (by simp)))
            clear hE4 HE' hrow' hA' HSP hbox d0 d1 d2
            have hmx2 : max ((V.ths.length : Int) - 1) 0 = (V.ths.length : Int) - 1 := by omega
            go_wp2_with fail
            go_meet
            refine ⟨own4, V, over, ?_, by omega, by omega, by omega, by omega, by omega, HMS.out, HKS.out, hrow4, hA4, HE4.out⟩
            first | rfl | rw [hmx2]
        · have b1 : (kd == 1) = false := by simp [h1]
          by_cases h3 : kd = 3
          · have b3 : (kd == 3) = true := by simp [h3]
            have b3n : (kd != 3) = false := by simp [h3]
            have b4 : (kd == 4) = false := by simp [h3]
            clear h1 h3
            have hen := End_any hA' t
            obtain ⟨e1, e2, e3, e4⟩ := V.end_same t
            have hms2 : Hid ((V.end_ t).most = (SV.fresh most).most) := by rw [e4]; exact HMS.out
            by_cases he : V.err t 1 = 0
            · have hen := sc_as (r' := .int .i64 0) hen (by rw [he]) rfl
              have HKS := Lib.hid (HK.out.end_hit he)
              have HEN := Lib.hid hen
              clear hen he e4 hzz
              generalize V.end_ t = V2 at *
              go_wp2_with fail
              refine HEN.out.mono ?_
              rintro e w4 ⟨rfl, own4, hE4, hA4⟩
              have hrow4 := hrow'.ext hE4 (by simp)
              have hbox4 := hbox.ext hE4 (by simp)
              have HE4 := Lib.hid (HE'.out.trans (hE4.mono (by simp)))
              clear hE4 HE' hrow' hA' HEN hbox d0 d1 d2
              obtain ⟨d0, d1, d2⟩ := five_col hbox4
              have hn7 : over.length ≤ 7000000000000 := by omega
              go_wp2_with (at_builtin; refine wpList_append_int rfl _ _ rfl _ rfl hrow4 hn7 rfl (by simp) ?_; intro v5 w5 own5 hr5 hE5)
              go_meet
              exact ⟨own5, V2, over ++ [t], by rw [e1], by simp; omega, by omega, by omega, by omega, by omega, hms2.out, HKS.out, by simpa using hr5, hA4.ext hE5 (by simp), HE4.out.trans (hE5.mono (by simp))⟩
            · have b5 : (V.err t 1 == 0) = false := by simp [he]
              have HKS := Lib.hid (HK.out.end_miss he)
              have HEN := Lib.hid hen
              clear hen he e4 hzz
              generalize V.end_ t = V2 at *
              generalize V.err t 1 = er at *
              go_wp2_with fail
              refine HEN.out.mono ?_
              rintro e w4 ⟨rfl, own4, hE4, hA4⟩
              have hrow4 := hrow'.ext hE4 (by simp)
              have hbox4 := hbox.ext hE4 (by simp)
              have HE4 := Lib.hid (HE'.out.trans (hE4.mono (by simp)))
              clear hE4 HE' hrow' hA' HEN hbox d0 d1 d2
              obtain ⟨d0, d1, d2⟩ := five_col hbox4
              go_wp2_with fail
              go_meet
              exact ⟨own4, V2, over, by rw [e1], by omega, by omega, by omega, by omega, by omega, hms2.out, HKS.out, hrow4, hA4, HE4.out⟩
          · have b3 : (kd == 3) = false := by simp [h3]
            have b3n : (kd != 3) = true := by simp [h3]
            by_cases h4 : kd = 4
            · have b4 : (kd == 4) = true := by simp [h4]
              have b4n : (kd != 4) = false := by simp [h4]
              clear h1 h3 h4
              have hfr := SFree_any hA' t
              obtain ⟨e1, e2, e3, e4⟩ := V.free_same t
              have hms2 : Hid ((V.free t).most = (SV.fresh most).most) := by rw [e4]; exact HMS.out
              have HKS := Lib.hid (HK.out.free t)
              by_cases he : V.err t 3 = 0
              · have hfr := sc_as (r' := .int .i64 0) hfr (by rw [he]) rfl
                have hin : over.contains t = true := by
                  rw [List.contains_iff_mem]
                  exact HK.out.three t (SV.err_pos he).2.2
                have HFR := Lib.hid hfr
                have HIN := Lib.hid hin
                clear hfr he e4 hzz hin
                generalize V.free t = V2 at *
                go_wp2_with fail
                refine HFR.out.mono ?_
                rintro e w4 ⟨rfl, own4, hE4, hA4⟩
                have hrow4 := hrow'.ext hE4 (by simp)
                have hbox4 := hbox.ext hE4 (by simp)
                have HE4 := Lib.hid (HE'.out.trans (hE4.mono (by simp)))
                clear hE4 HE' hrow' hA' HFR hbox d0 d1 d2
                obtain ⟨d0, d1, d2⟩ := five_col hbox4
                obtain ⟨rb, hI⟩ := Ints.of_row Try.underlying26 hi0 hs0 hrow4
                have hha := Has_any hI (by omega) t
                rw [HIN.out] at hha
                have HHA := Lib.hid hha
                clear hha hI HIN
                go_wp2_with fail
                refine HHA.out.mono ?_
                rintro e w5 ⟨rfl, rfl⟩
                go_wp2_with fail
                go_meet
                exact ⟨own4, V2, over, by rw [e1], by omega, by omega, by omega, by omega, by omega, hms2.out, HKS.out, hrow4, hA4, HE4.out⟩
              · have b5 : (V.err t 3 == 0) = false := by simp [he]
                have HFR := Lib.hid hfr
                clear hfr he e4 hzz
                generalize V.free t = V2 at *
                generalize V.err t 3 = er at *
                go_wp2_with fail
                refine HFR.out.mono ?_
                rintro e w4 ⟨rfl, own4, hE4, hA4⟩
                have hrow4 := hrow'.ext hE4 (by simp)
                have hbox4 := hbox.ext hE4 (by simp)
                have HE4 := Lib.hid (HE'.out.trans (hE4.mono (by simp)))
                clear hE4 HE' hrow' hA' HFR hbox d0 d1 d2
                obtain ⟨d0, d1, d2⟩ := five_col hbox4
                go_wp2_with fail
                go_meet
                exact ⟨own4, V2, over, by rw [e1], by omega, by omega, by omega, by omega, by omega, hms2.out, HKS.out, hrow4, hA4, HE4.out⟩
            · have b4 : (kd == 4) = false := by simp [h4]
              have b4n : (kd != 4) = true := by simp [h4]
              have HKS := Lib.hid (HK.out.doV (t := t) (key := k2) h3 h4)
              have hd1 := doV_len_eq' V h1 t k2
              have hd2 := doV_good V kd t k2
              have hms2 : Hid ((doV V kd t k2).most = (SV.fresh most).most) := by rw [doV_most]; exact HMS.out
              have hdn := does_none hA' (by omega) (by omega) (by omega) kd t k2
              have HDN := Lib.hid hdn
              clear hdn h1 h3 h4 hzz
              generalize doV V kd t k2 = V2 at *
              go_wp2_with fail
              refine HDN.out.mono ?_
              rintro e w4 ⟨v', ok, own4, rfl, hE4, hA4⟩
              have hrow4 := hrow'.ext hE4 (by simp)
              have HE4 := Lib.hid (HE'.out.trans (hE4.mono (by simp)))
              clear hE4 HE' hrow' hA' HDN hbox d0 d1 d2
              go_wp2_with fail
              go_meet
              exact ⟨own4, V2, over, by rw [hd1], by omega, by omega, by omega, by omega, by omega, hms2.out, HKS.out, hrow4, hA4, HE4.out⟩
      case rest =>
        clear hA' hrow' HE' hbox d0 d1 d2 HK HMS ho hl1 hl hg hbd
        obtain ⟨own3, V3, over3, rfl, ho, hl1, hl, hg, hbd, hms, hok, hrow, hA, hE⟩ := hcut
        have HE := Lib.hid hE
        have HK := Lib.hid hok
        have HMS := Lib.hid hms
        clear hE hok hms
        have hzero : live2 (V3.ths.take 1) = 0 := by
          obtain ⟨l, hl⟩ := HK.out.z
          rw [hl]; rfl
        have HZ0 := Lib.hid hzero
        clear hzero
        go_wp2_with fail
        go_loopw [13, 14] (fun cv tv wr => NmCount V3 wc cv tv wr) (fun _ tv _ => V3.ths.length - (intOf tv).toNat)
        case atStart => exact ⟨1, rfl, by rw [HZ0.out]; rfl, by omega, by omega, rfl⟩
        case round =>
          clear HZ0
          obtain ⟨q, rfl, rfl, hq1, hq2, rfl⟩ := hrel
          have hle := live2_take_le V3.ths q
          by_cases hqt : q < V3.ths.length
          · have hqt2 : (q : Int) ≤ (V3.ths.length : Int) - 1 := by omega
            have hls := live2_take_succ V3.ths q hqt
            have hps := HK.out.pos V3.ths[q] (List.getElem_mem hqt)
            have hst := State_any hA (q : Int)
            rw [SV.state_in hq1 hqt] at hst
            generalize V3.ths[q].1 = st at *
            have HST := Lib.hid hst
            clear hst
            by_cases h0 : st = 0
            · have hl2 : Hid (live2 (V3.ths.take (q + 1)) = live2 (V3.ths.take q)) := by rw [hls, h0]; exact rfl
              subst h0
              clear hls hps
              go_wp2_with fail
              refine HST.out.mono ?_
              rintro e w8 ⟨rfl, rfl⟩
              go_wp2_with fail
              go_roundw
              case rel => exact ⟨q + 1, by go_num, by rw [hl2.out], by omega, by omega, rfl⟩
              case measure => simp [intOf]; omega
            · have hl2 : Hid (live2 (V3.ths.take (q + 1)) = live2 (V3.ths.take q) + 1) := by rw [hls, if_pos (by simp [h0])]; exact rfl
              have hgt : 0 < st := by omega
              clear hls hps h0
              go_wp2_with fail
              refine HST.out.mono ?_
              rintro e w8 ⟨rfl, rfl⟩
              go_wp2_with fail
              go_roundw
              case rel => exact ⟨q + 1, by go_num, by rw [hl2.out]; go_num, by omega, by omega, rfl⟩
              case measure => simp [intOf]; omega
          · obtain rfl : q = V3.ths.length := by omega
            have hqt2 : (V3.ths.length : Int) - 1 < (V3.ths.length : Int) := by omega
            have hfew : (live2 (V3.ths.take V3.ths.length) : Int) ≤ min (max most 1) 8 := by
              rw [List.take_length]
              have h1 := HK.out.few
              rw [HMS.out] at h1
              simpa [SV.fresh] using h1
            generalize live2 (V3.ths.take V3.ths.length) = cnt at *
            obtain ⟨rb, hI⟩ := Ints.of_row Try.underlying26 hi0 hs0 hrow
            have olen := hI.len
            have oidx := hI.idx
            have OC := Lib.hid hI.cell
            clear hI
            generalize min (max most 1) 8 = top at *
            go_wp2_with fail
            go_loopw [122] (fun iv wx => NmOver over3 wr iv wx) (fun iv _ => over3.length - (intOf iv).toNat)
            case atStart => exact ⟨0, rfl, by omega, rfl⟩
            case round =>
              obtain ⟨j, rfl, hj, rfl⟩ := hrel
              by_cases hjl : j < over3.length
              · have hjl2 : (j : Int) < over3.length := by omega
                have c0 := OC.out j hjl
                rw [Nat.zero_add] at c0
                obtain ⟨o1, o2, o3⟩ := HK.out.ov over3[j] (List.getElem_mem hjl)
                generalize over3[j] = x at *
                have hst := State_any hA x
                have HST := Lib.hid hst
                clear hst
                rcases o3 with o3 | o3
                · rw [o3] at HST
                  go_wp2_with fail
                  refine HST.out.mono ?_
                  rintro e w8 ⟨rfl, rfl⟩
                  go_wp2_with fail
                  go_roundw
                  case rel => exact ⟨j + 1, by go_num, by omega, rfl⟩
                  case measure => simp [intOf]; omega
                · rw [o3] at HST
                  go_wp2_with fail
                  refine HST.out.mono ?_
                  rintro e w8 ⟨rfl, rfl⟩
                  go_wp2_with fail
                  refine HST.out.mono ?_
                  rintro e w8 ⟨rfl, rfl⟩
                  go_wp2_with fail
                  go_roundw
                  case rel => exact ⟨j + 1, by go_num, by omega, rfl⟩
                  case measure => simp [intOf]; omega
              · obtain rfl : j = over3.length := by omega
                go_wp2_with fail
                go_roundg (n - (i + 1))
                case measure => omega
                case rel => exact ⟨own3, i + 1, V3, over3, by go_num, rfl, by omega, by omega, by omega, by omega, by omega, by omega, HMS.out, HK.out, hrow, hA, HE.out⟩
    · obtain rfl : i = n := by omega
      go_wp2_with fail
      go_ret
      exact ⟨rfl, HE.out.below (by simp)⟩
end Go.Proofs.Ytemibcglhbjaoaa
