/- Layer 6, the scheduler: what each call of package sched does to memory and answers, told over a plain list of threads. -/
import Derived.Test.YtemibcglhbjaoaaProg
import Derived.Test.YtemibcglhbjaoaaMem
import Derived.Test.YtemibcglhbjaoaaRow
import Derived.Test.YtemibcglhbjaoaaPlan
import Derived.Lib.Hide
set_option maxRecDepth 20000
set_option linter.unusedVariables false
set_option linter.unusedSimpArgs false
namespace Go.Proofs.Ytemibcglhbjaoaa
open Go.RowKit Go.PM

/-- A plain scheduler: how many at most; each thread's state and key (the n-th at place n); picks that counted for somebody, for nobody. -/
structure SV where
  most : Int
  ths : List (Int × Int)
  good : Int
  bad : Int
def SV.state (V : SV) (t : Int) : Int := if t < 1 ∨ (V.ths.length : Int) ≤ t then 0 else (V.ths.getD t.toNat (0, 0)).1
/-- The error of moving a thread out of a state. -/
def SV.err (V : SV) (t fr : Int) : Int := if V.state t = 0 then 61 else if V.state t ≠ fr then 60 else 0
def SV.put (V : SV) (t : Int) (p : Int × Int) : SV := { V with ths := V.ths.set t.toNat p }
def SV.key (V : SV) (t : Int) : Int := (V.ths.getD t.toNat (0, 0)).2
def SV.block (V : SV) (t key : Int) : SV := if V.err t 1 = 0 then V.put t (2, key) else V
def SV.end_ (V : SV) (t : Int) : SV := if V.err t 1 = 0 then V.put t (3, V.key t) else V
def SV.free (V : SV) (t : Int) : SV := if V.err t 3 = 0 then V.put t (0, V.key t) else V
def wakes (key : Int) (p : Int × Int) : Bool := p.1 == 2 && p.2 == key
def SV.wake (V : SV) (key : Int) : SV := { V with ths := V.ths.map fun p => if wakes key p then (1, p.2) else p }
def SV.woken (V : SV) (key : Int) : Int := (V.ths.filter (wakes key)).length
def SV.pick (V : SV) (t : Int) : SV := if V.state t = 1 then { V with good := V.good + 1 } else { V with bad := V.bad + 1 }
def SV.live (V : SV) : Int := (V.ths.filter fun p => p.1 != 0).length
def SV.spawnErr (V : SV) : Int := if V.most ≤ V.live then 3 else 0
def SV.spawnId (V : SV) : Int := if V.spawnErr = 0 then V.ths.length else 0
def SV.spawn (V : SV) : SV := if V.spawnErr = 0 then { V with ths := V.ths ++ [(1, 0)] } else V
def readyFrom (l : List (Int × Int)) (i : Nat) : List Int := match l with
  | [] => []
  | p :: l => if p.1 = 1 then (i : Int) :: readyFrom l (i + 1) else readyFrom l (i + 1)
def SV.ready (V : SV) : List Int := readyFrom V.ths 0
def SV.fresh (most : Int) : SV := ⟨min (max most 1) 8, [(0, 0)], 0, 0⟩
structure SV.Ok (V : SV) : Prop where
  most : 1 ≤ V.most ∧ V.most ≤ 8
  len : 1 ≤ V.ths.length ∧ V.ths.length ≤ 6000000000000
  good : 0 ≤ V.good ∧ V.good ≤ 600000000000000
  bad : 0 ≤ V.bad ∧ V.bad ≤ 600000000000000

def flat2 (l : List (Int × Int)) : List Value := l.flatMap fun p => [.int .i64 p.1, .int .i64 p.2]
theorem flat2_length (l : List (Int × Int)) : (flat2 l).length = l.length * 2 := by
  induction l with
  | nil => rfl
  | cons p l ih => simp only [flat2, List.flatMap_cons, List.length_append, List.length_cons, List.length_nil] at ih ⊢; omega
theorem flat2_get (l : List (Int × Int)) : ∀ (i : Nat) (h : i < l.length), (flat2 l)[i * 2]? = some (.int .i64 l[i].1) ∧ (flat2 l)[i * 2 + 1]? = some (.int .i64 l[i].2) := by
  induction l with
  | nil => intro i h; simp at h
  | cons p l ih =>
    intro i h
    cases i with
    | zero => simp [flat2]
    | succ i =>
      have := ih i (by simpa using h)
      have e1 : (i + 1) * 2 = i * 2 + 1 + 1 := by omega
      simp only [flat2, List.flatMap_cons, List.cons_append, List.nil_append] at this ⊢
      rw [e1]
      simpa using this
theorem flat2_set (l : List (Int × Int)) : ∀ (i : Nat) (h : i < l.length) (v : Int),
    (flat2 l).set (i * 2) (.int .i64 v) = flat2 (l.set i (v, l[i].2)) ∧ (flat2 l).set (i * 2 + 1) (.int .i64 v) = flat2 (l.set i (l[i].1, v)) := by
  induction l with
  | nil => intro i h; simp at h
  | cons p l ih =>
    intro i h v
    cases i with
    | zero => simp [flat2]
    | succ i =>
      have := ih i (by simpa using h) v
      have e1 : (i + 1) * 2 = i * 2 + 1 + 1 := by omega
      simp only [flat2, List.flatMap_cons, List.cons_append, List.nil_append] at this ⊢
      rw [e1]
      simpa using this

structure SchedIn (w : World) (own : Nat → Nat) (k s : Nat) (V : SV) (g cap : Nat) (rest : List Value) : Prop where
  root : Blk w own k s (.cells #[.int .i64 V.most, .slice (some ⟨g, 0, none⟩) V.ths.length cap, .int .i64 V.bad, .int .i64 V.good] 79 (0, 0))
  row : Blk w own k g (.cells (flat2 V.ths ++ rest).toArray 81 (0, 0))
  le : V.ths.length ≤ cap
  max : cap ≤ maxLen
  rest : rest.length = (cap - V.ths.length) * 2
/-- At s, in blocks of colour k, lies a scheduler that is V. -/
def Sched (w : World) (own : Nat → Nat) (k s : Nat) (V : SV) : Prop := V.Ok ∧ ∃ g cap rest, SchedIn w own k s V g cap rest

section
variable {M : Nat → Prop} {w w' : World} {own own' : Nat → Nat} {k s : Nat} {V : SV} {g cap : Nat} {rest : List Value}
theorem SchedIn.ext (h : SchedIn w own k s V g cap rest) (e : Ext M w w' own own') (hk : ¬ M k) : SchedIn w' own' k s V g cap rest :=
  ⟨h.root.ext e hk, h.row.ext e hk, h.le, h.max, h.rest⟩
theorem Sched.ext (h : Sched w own k s V) (e : Ext M w w' own own') (hk : ¬ M k) : Sched w' own' k s V := by
  obtain ⟨ho, g, cap, rest, h⟩ := h
  exact ⟨ho, g, cap, rest, h.ext e hk⟩
theorem Sched.ok (h : Sched w own k s V) : V.Ok := h.1
theorem SchedIn.ne (h : SchedIn w own k s V g cap rest) : s ≠ g := by
  refine h.root.ne_obj h.row ?_
  intro h'
  injection h' with _ h2 _
  exact absurd h2 (by decide)
theorem SchedIn.c0 (h : SchedIn w own k s V g cap rest) : w.cell? ⟨s, 0, none⟩ = some (.int .i64 V.most) := by rw [h.root.cell]; rfl
theorem SchedIn.c1 (h : SchedIn w own k s V g cap rest) : w.cell? ⟨s, 1, none⟩ = some (.slice (some ⟨g, 0, none⟩) V.ths.length cap) := by rw [h.root.cell]; rfl
theorem SchedIn.c2 (h : SchedIn w own k s V g cap rest) : w.cell? ⟨s, 2, none⟩ = some (.int .i64 V.bad) := by rw [h.root.cell]; rfl
theorem SchedIn.c3 (h : SchedIn w own k s V g cap rest) : w.cell? ⟨s, 3, none⟩ = some (.int .i64 V.good) := by rw [h.root.cell]; rfl
theorem SchedIn.st (h : SchedIn w own k s V g cap rest) {i : Nat} (hi : i < V.ths.length) : w.cell? ⟨g, i * 2, none⟩ = some (.int .i64 V.ths[i].1) := by
  rw [h.row.cell]
  have := (flat2_get V.ths i hi).1
  have hl : i * 2 < (flat2 V.ths).length := by rw [flat2_length]; omega
  simp only [List.getElem?_toArray]
  rw [List.getElem?_append_left hl]
  exact this
theorem SchedIn.ky (h : SchedIn w own k s V g cap rest) {i : Nat} (hi : i < V.ths.length) : w.cell? ⟨g, i * 2 + 1, none⟩ = some (.int .i64 V.ths[i].2) := by
  rw [h.row.cell]
  have := (flat2_get V.ths i hi).2
  have hl : i * 2 + 1 < (flat2 V.ths).length := by rw [flat2_length]; omega
  simp only [List.getElem?_toArray]
  rw [List.getElem?_append_left hl]
  exact this
/-- A state is set; a key is set. -/
theorem SchedIn.setSt (h : SchedIn w own k s V g cap rest) {i : Nat} (hi : i < V.ths.length) (v : Int) :
    SchedIn (w.setCell ⟨g, i * 2, none⟩ (.int .i64 v)) own k s { V with ths := V.ths.set i (v, V.ths[i].2) } g cap rest := by
  have hl : i * 2 < (flat2 V.ths).length := by rw [flat2_length]; omega
  refine ⟨?_, ?_, by simpa using h.le, h.max, by simpa using h.rest⟩
  · have := h.root.setCell_other (a := ⟨g, i * 2, none⟩) h.ne (.int .i64 v)
    simpa using this
  · have := h.row.setCell (i * 2) (.int .i64 v)
    rw [List.setIfInBounds_toArray, List.set_append_left _ _ hl, (flat2_set V.ths i hi v).1] at this
    exact this
theorem SchedIn.setKy (h : SchedIn w own k s V g cap rest) {i : Nat} (hi : i < V.ths.length) (v : Int) :
    SchedIn (w.setCell ⟨g, i * 2 + 1, none⟩ (.int .i64 v)) own k s { V with ths := V.ths.set i (V.ths[i].1, v) } g cap rest := by
  have hl : i * 2 + 1 < (flat2 V.ths).length := by rw [flat2_length]; omega
  refine ⟨?_, ?_, by simpa using h.le, h.max, by simpa using h.rest⟩
  · have := h.root.setCell_other (a := ⟨g, i * 2 + 1, none⟩) h.ne (.int .i64 v)
    simpa using this
  · have := h.row.setCell (i * 2 + 1) (.int .i64 v)
    rw [List.setIfInBounds_toArray, List.set_append_left _ _ hl, (flat2_set V.ths i hi v).2] at this
    exact this

/-- A call answers r, and leaves a scheduler that is V'. -/
def ScPost (k s : Nat) (V' : SV) (w : World) (own : Nat → Nat) (r : Value) (e : Ending) (w' : World) : Prop :=
  e = .returned r ∧ ∃ own', Ext (fun c => c = k) w w' own own' ∧ Sched w' own' k s V'
theorem sc_as {f : FuncId} {args : Array Value} {V V' : SV} {r r' : Value} (h : Calls Try.prog f args w (ScPost k s V w own r)) (hr : r = r') (hV : V = V') :
    Calls Try.prog f args w (ScPost k s V' w own r') := by subst hr; subst hV; exact h

theorem SV.state_in {i : Nat} (h1 : 1 ≤ i) (hi : i < V.ths.length) : V.state i = V.ths[i].1 := by
  unfold SV.state
  rw [if_neg (by omega)]
  simp [hi]
set_option maxHeartbeats 400000 in
theorem State_any (hS : Sched w own k s V) (t : Int) :
    Calls Try.prog 20 #[.pointer (some ⟨s, 0, none⟩), .int .i64 t] w fun e w' => e = .returned (.int .i64 (V.state t)) ∧ w = w' := by
  obtain ⟨ho, g, cap, rest, hI⟩ := hS
  have c1 := hI.c1
  by_cases h1 : t < 1
  · have hr : V.state t = 0 := by unfold SV.state; rw [if_pos (by omega)]
    rw [hr]
    clear hr hI
    go_enter Try.func20, Try.ntmps20
    go_wp2
    go_ret
    exact ⟨rfl, rfl⟩
  · obtain ⟨i, rfl⟩ := Int.eq_ofNat_of_zero_le (show 0 ≤ t by omega)
    by_cases h2 : V.ths.length ≤ i
    · have hr : V.state i = 0 := by unfold SV.state; rw [if_pos (by omega)]
      rw [hr]
      clear hr hI
      go_enter Try.func20, Try.ntmps20
      go_wp2
      go_ret
      exact ⟨rfl, rfl⟩
    · have hi : i < V.ths.length := by omega
      have hi2 : (i : Int) < V.ths.length := by omega
      rw [SV.state_in (by omega) hi]
      have cs := hI.st hi
      generalize V.ths[i].1 = x at *
      clear hI ho
      go_enter Try.func20, Try.ntmps20
      go_wp2
      go_ret
      exact ⟨rfl, rfl⟩

theorem SV.state_zero {t : Int} (h : V.state t ≠ 0) : ∃ i : Nat, t = i ∧ 1 ≤ i ∧ ∃ hi : i < V.ths.length, V.state t = V.ths[i].1 := by
  unfold SV.state at h
  split at h
  · exact absurd rfl h
  · obtain ⟨i, rfl⟩ := Int.eq_ofNat_of_zero_le (show 0 ≤ t by omega)
    have hi : i < V.ths.length := by omega
    exact ⟨i, rfl, by omega, hi, SV.state_in (by omega) hi⟩
set_option maxHeartbeats 400000 in
theorem find_gone (hS : Sched w own k s V) (t fr : Int) (h : V.state t = 0) :
    Calls Try.prog 44 #[.pointer (some ⟨s, 0, none⟩), .int .i64 t, .int .i64 fr] w fun e w' => e = .returned (.tuple #[.pointer none, .int .i64 61]) ∧ w = w' := by
  have hc := State_any hS t
  rw [h] at hc
  have HC := Lib.hid hc
  clear hc h
  go_enter Try.func44, Try.ntmps44
  go_wp2_with (go_at_call 20; refine HC.out.mono ?_; rintro e w' ⟨rfl, rfl⟩)
  go_ret2
  exact ⟨rfl, rfl⟩
set_option maxHeartbeats 400000 in
theorem find_other (hS : Sched w own k s V) (t fr : Int) (h : V.state t ≠ 0) (h2 : V.state t ≠ fr) :
    Calls Try.prog 44 #[.pointer (some ⟨s, 0, none⟩), .int .i64 t, .int .i64 fr] w fun e w' => e = .returned (.tuple #[.pointer none, .int .i64 60]) ∧ w = w' := by
  have hc := State_any hS t
  generalize V.state t = x at *
  have b1 : (x == 0) = false := by simp [h]
  have b2 : (x != fr) = true := by simp [h2]
  have HC := Lib.hid hc
  clear hc h h2
  go_enter Try.func44, Try.ntmps44
  go_wp2_with (go_at_call 20; refine HC.out.mono ?_; rintro e w' ⟨rfl, rfl⟩)
  go_ret2
  exact ⟨rfl, rfl⟩
set_option maxHeartbeats 400000 in
theorem find_hit (hS : Sched w own k s V) (i : Nat) (c1 : w.cell? ⟨s, 1, none⟩ = some (.slice (some ⟨g, 0, none⟩) V.ths.length cap)) (fr : Int) (hf : fr ≠ 0) (hi : i < V.ths.length) (h : V.state i = fr) :
    Calls Try.prog 44 #[.pointer (some ⟨s, 0, none⟩), .int .i64 i, .int .i64 fr] w fun e w' => e = .returned (.tuple #[.pointer (some ⟨g, i * 2, none⟩), .int .i64 0]) ∧ w = w' := by
  have hc := State_any hS i
  rw [h] at hc
  have b1 : (fr == 0) = false := by simp [hf]
  have b2 : (fr != fr) = false := by simp
  have hi2 : (i : Int) < V.ths.length := by omega
  have HC := Lib.hid hc
  clear hc h hf
  go_enter Try.func44, Try.ntmps44
  go_wp2_with (go_at_call 20; refine HC.out.mono ?_; rintro e w' ⟨rfl, rfl⟩)
  go_ret2
  exact ⟨rfl, rfl⟩
theorem SV.Ok.put (h : V.Ok) (t : Int) (p : Int × Int) : (V.put t p).Ok := ⟨h.most, by simpa [SV.put] using h.len, h.good, h.bad⟩
theorem same_sc {r : Value} (hS : Sched w own k s V) : ScPost k s V w own r (.returned r) w := ⟨rfl, own, Ext.refl, hS⟩
theorem SV.key_in {i : Nat} (hi : i < V.ths.length) : V.key i = V.ths[i].2 := by simp [SV.key, hi]
theorem SV.err_gone {t fr : Int} (h : V.state t = 0) : V.err t fr = 61 := by simp [SV.err, h]
theorem SV.err_other {t fr : Int} (h : V.state t ≠ 0) (h2 : V.state t ≠ fr) : V.err t fr = 60 := by simp [SV.err, h, h2]
theorem SV.err_hit {t fr : Int} (h : V.state t ≠ 0) (h2 : V.state t = fr) : V.err t fr = 0 := by unfold SV.err; rw [if_neg h, if_neg (by simp [h2])]

set_option maxHeartbeats 400000 in
/-- Block. -/
theorem Block_any (hS : Sched w own k s V) (t : Int) (key : Int) :
    Calls Try.prog 36 #[.pointer (some ⟨s, 0, none⟩), .int .i64 t, .int .i64 key] w (ScPost k s (V.block t key) w own (.int .i64 (V.err t 1))) := by
  by_cases h0 : V.state t = 0
  · have hr : V.err t 1 = 61 := SV.err_gone h0
    have hv : V.block t key = V := by simp [SV.block, SV.end_, SV.free, hr]
    have hp := same_sc (r := .int .i64 61) hS
    have hc := find_gone hS t 1 h0
    rw [hr, hv]
    have HP := Lib.hid hp
    have HC := Lib.hid hc
    clear hr hv hp hc h0
    go_enter Try.func36, Try.ntmps36
    go_wp2_with (go_at_call 44; refine HC.out.mono ?_; rintro e w' ⟨rfl, rfl⟩)
    go_ret
    exact HP.out
  · by_cases h1 : V.state t = 1
    · have hr : V.err t 1 = 0 := SV.err_hit h0 h1
      obtain ⟨i, rfl, hi1, hi, hst⟩ := SV.state_zero h0
      obtain ⟨ho, g, cap, rest, hI⟩ := hS
      have hc := find_hit (w := w) (own := own) (k := k) (s := s) (V := V) ⟨ho, g, cap, rest, hI⟩ i hI.c1 1 (by decide) hi h1
      have hp : ScPost k s (V.block (i : Int) key) w own (.int .i64 0) (.returned (.int .i64 0)) ((w.setCell ⟨g, i * 2, none⟩ (.int .i64 2)).setCell ⟨g, i * 2 + 1, none⟩ (.int .i64 key)) := by
        refine ⟨rfl, own, (Ext.refl.setCell (fun _ => hI.row.col) _).setCell (fun _ => hI.row.col) _, ?_, g, cap, rest, ?_⟩
        · simp only [SV.block, hr, if_true]; exact ho.put _ _
        · have := (hI.setSt hi 2).setKy (i := i) (by simpa using hi) key
          simpa [SV.block, hr, SV.put] using this
      rw [hr]
      have cs := hI.st hi
      have ck := hI.ky hi
      have fs := hI.row.free (i * 2)
      have fk := hI.row.free (i * 2 + 1)
      have HP := Lib.hid hp
      have HC := Lib.hid hc
      clear hr hp hc h0 h1 hst hI
      go_enter Try.func36, Try.ntmps36
      go_wp2_with (go_at_call 44; refine HC.out.mono ?_; rintro e w' ⟨rfl, rfl⟩)
      go_ret
      exact HP.out
    · have hr : V.err t 1 = 60 := SV.err_other h0 h1
      have hv : V.block t key = V := by simp [SV.block, SV.end_, SV.free, hr]
      have hp := same_sc (r := .int .i64 60) hS
      have hc := find_other hS t 1 h0 h1
      rw [hr, hv]
      have HP := Lib.hid hp
      have HC := Lib.hid hc
      clear hr hv hp hc h0 h1
      go_enter Try.func36, Try.ntmps36
      go_wp2_with (go_at_call 44; refine HC.out.mono ?_; rintro e w' ⟨rfl, rfl⟩)
      go_ret
      exact HP.out

set_option maxHeartbeats 400000 in
/-- End. -/
theorem End_any (hS : Sched w own k s V) (t : Int) :
    Calls Try.prog 16 #[.pointer (some ⟨s, 0, none⟩), .int .i64 t] w (ScPost k s (V.end_ t) w own (.int .i64 (V.err t 1))) := by
  by_cases h0 : V.state t = 0
  · have hr : V.err t 1 = 61 := SV.err_gone h0
    have hv : V.end_ t = V := by simp [SV.block, SV.end_, SV.free, hr]
    have hp := same_sc (r := .int .i64 61) hS
    have hc := find_gone hS t 1 h0
    rw [hr, hv]
    have HP := Lib.hid hp
    have HC := Lib.hid hc
    clear hr hv hp hc h0
    go_enter Try.func16, Try.ntmps16
    go_wp2_with (go_at_call 44; refine HC.out.mono ?_; rintro e w' ⟨rfl, rfl⟩)
    go_ret
    exact HP.out
  · by_cases h1 : V.state t = 1
    · have hr : V.err t 1 = 0 := SV.err_hit h0 h1
      obtain ⟨i, rfl, hi1, hi, hst⟩ := SV.state_zero h0
      obtain ⟨ho, g, cap, rest, hI⟩ := hS
      have hc := find_hit (w := w) (own := own) (k := k) (s := s) (V := V) ⟨ho, g, cap, rest, hI⟩ i hI.c1 1 (by decide) hi h1
      have hp : ScPost k s (V.end_ (i : Int)) w own (.int .i64 0) (.returned (.int .i64 0)) (w.setCell ⟨g, i * 2, none⟩ (.int .i64 3)) := by
        refine ⟨rfl, own, Ext.refl.setCell (fun _ => hI.row.col) _, ?_, g, cap, rest, ?_⟩
        · simp only [SV.end_, hr, if_true]; exact ho.put _ _
        · have := hI.setSt hi 3
          simpa [SV.end_, hr, SV.put, SV.key_in hi] using this
      rw [hr]
      have cs := hI.st hi
      have ck := hI.ky hi
      have fs := hI.row.free (i * 2)
      have fk := hI.row.free (i * 2 + 1)
      have HP := Lib.hid hp
      have HC := Lib.hid hc
      clear hr hp hc h0 h1 hst hI
      go_enter Try.func16, Try.ntmps16
      go_wp2_with (go_at_call 44; refine HC.out.mono ?_; rintro e w' ⟨rfl, rfl⟩)
      go_ret
      exact HP.out
    · have hr : V.err t 1 = 60 := SV.err_other h0 h1
      have hv : V.end_ t = V := by simp [SV.block, SV.end_, SV.free, hr]
      have hp := same_sc (r := .int .i64 60) hS
      have hc := find_other hS t 1 h0 h1
      rw [hr, hv]
      have HP := Lib.hid hp
      have HC := Lib.hid hc
      clear hr hv hp hc h0 h1
      go_enter Try.func16, Try.ntmps16
      go_wp2_with (go_at_call 44; refine HC.out.mono ?_; rintro e w' ⟨rfl, rfl⟩)
      go_ret
      exact HP.out

set_option maxHeartbeats 400000 in
/-- SFree. -/
theorem SFree_any (hS : Sched w own k s V) (t : Int) :
    Calls Try.prog 17 #[.pointer (some ⟨s, 0, none⟩), .int .i64 t] w (ScPost k s (V.free t) w own (.int .i64 (V.err t 3))) := by
  by_cases h0 : V.state t = 0
  · have hr : V.err t 3 = 61 := SV.err_gone h0
    have hv : V.free t = V := by simp [SV.block, SV.end_, SV.free, hr]
    have hp := same_sc (r := .int .i64 61) hS
    have hc := find_gone hS t 3 h0
    rw [hr, hv]
    have HP := Lib.hid hp
    have HC := Lib.hid hc
    clear hr hv hp hc h0
    go_enter Try.func17, Try.ntmps17
    go_wp2_with (go_at_call 44; refine HC.out.mono ?_; rintro e w' ⟨rfl, rfl⟩)
    go_ret
    exact HP.out
  · by_cases h1 : V.state t = 3
    · have hr : V.err t 3 = 0 := SV.err_hit h0 h1
      obtain ⟨i, rfl, hi1, hi, hst⟩ := SV.state_zero h0
      obtain ⟨ho, g, cap, rest, hI⟩ := hS
      have hc := find_hit (w := w) (own := own) (k := k) (s := s) (V := V) ⟨ho, g, cap, rest, hI⟩ i hI.c1 3 (by decide) hi h1
      have hp : ScPost k s (V.free (i : Int)) w own (.int .i64 0) (.returned (.int .i64 0)) (w.setCell ⟨g, i * 2, none⟩ (.int .i64 0)) := by
        refine ⟨rfl, own, Ext.refl.setCell (fun _ => hI.row.col) _, ?_, g, cap, rest, ?_⟩
        · simp only [SV.free, hr, if_true]; exact ho.put _ _
        · have := hI.setSt hi 0
          simpa [SV.free, hr, SV.put, SV.key_in hi] using this
      rw [hr]
      have cs := hI.st hi
      have ck := hI.ky hi
      have fs := hI.row.free (i * 2)
      have fk := hI.row.free (i * 2 + 1)
      have HP := Lib.hid hp
      have HC := Lib.hid hc
      clear hr hp hc h0 h1 hst hI
      go_enter Try.func17, Try.ntmps17
      go_wp2_with (go_at_call 44; refine HC.out.mono ?_; rintro e w' ⟨rfl, rfl⟩)
      go_ret
      exact HP.out
    · have hr : V.err t 3 = 60 := SV.err_other h0 h1
      have hv : V.free t = V := by simp [SV.block, SV.end_, SV.free, hr]
      have hp := same_sc (r := .int .i64 60) hS
      have hc := find_other hS t 3 h0 h1
      rw [hr, hv]
      have HP := Lib.hid hp
      have HC := Lib.hid hc
      clear hr hv hp hc h0 h1
      go_enter Try.func17, Try.ntmps17
      go_wp2_with (go_at_call 44; refine HC.out.mono ?_; rintro e w' ⟨rfl, rfl⟩)
      go_ret
      exact HP.out

theorem SchedIn.setRoot (h : SchedIn w own k s V g cap rest) (i : Nat) (v : Int) (V1 : SV) (hV : V1.ths = V.ths)
    (he : (#[.int .i64 V.most, .slice (some ⟨g, 0, none⟩) V.ths.length cap, .int .i64 V.bad, .int .i64 V.good] : Array Value).setIfInBounds i (.int .i64 v) = #[.int .i64 V1.most, .slice (some ⟨g, 0, none⟩) V1.ths.length cap, .int .i64 V1.bad, .int .i64 V1.good]) :
    SchedIn (w.setCell ⟨s, i, none⟩ (.int .i64 v)) own k s V1 g cap rest := by
  refine ⟨?_, ?_, by rw [hV]; exact h.le, h.max, by rw [hV]; exact h.rest⟩
  · have := h.root.setCell i (.int .i64 v)
    rw [he] at this
    exact this
  · rw [hV]; exact h.row.setCell_other (Ne.symm h.ne) _
set_option maxHeartbeats 400000 in
/-- Pick. -/
theorem Pick_any (hS : Sched w own k s V) (hg : V.good < 600000000000000) (hb : V.bad < 600000000000000) (t : Int) :
    Calls Try.prog 37 #[.pointer (some ⟨s, 0, none⟩), .int .i64 t] w (ScPost k s (V.pick t) w own (.bool (V.state t == 1))) := by
  have hc := State_any hS t
  obtain ⟨ho, g, cap, rest, hI⟩ := hS
  have hg0 := ho.good
  have hb0 := ho.bad
  by_cases h1 : V.state t = 1
  · have hp : ∀ n, ScPost k s (V.pick t) w own (.bool true) (.returned (.bool true)) ((w.drewN n).setCell ⟨s, 3, none⟩ (.int .i64 (V.good + 1))) := by
      intro n
      refine ⟨rfl, own, (Ext.refl.drewN n).setCell (fun _ => hI.root.col) _, ?_, g, cap, rest, ?_⟩
      · simp only [SV.pick, h1, if_true]; exact ⟨ho.most, ho.len, by dsimp only; omega, ho.bad⟩
      · refine SchedIn.setRoot (V := V) (hI.ext (M := fun _ => False) (Ext.refl.drewN n) (by simp)) 3 _ _ ?_ ?_ <;> simp [SV.pick, h1]
    have hr : (V.state t == 1) = true := by simp [h1]
    rw [hr]
    rw [h1] at hc
    have c3 := hI.c3
    have f3 := hI.root.free 3
    have HP := Lib.hid hp
    have HC := Lib.hid hc
    clear hr hp hc h1 hI ho
    go_enter Try.func37, Try.ntmps37
    go_wp2_with (go_at_call 20; refine HC.out.mono ?_; rintro e w' ⟨rfl, rfl⟩)
    go_region
    go_wp2
    go_ret
    exact HP.out 1
  · have hp : ∀ n, ScPost k s (V.pick t) w own (.bool false) (.returned (.bool false)) ((w.drewN n).setCell ⟨s, 2, none⟩ (.int .i64 (V.bad + 1))) := by
      intro n
      refine ⟨rfl, own, (Ext.refl.drewN n).setCell (fun _ => hI.root.col) _, ?_, g, cap, rest, ?_⟩
      · simp only [SV.pick, h1, if_false]; exact ⟨ho.most, ho.len, ho.good, by dsimp only; omega⟩
      · refine SchedIn.setRoot (V := V) (hI.ext (M := fun _ => False) (Ext.refl.drewN n) (by simp)) 2 _ _ ?_ ?_ <;> simp [SV.pick, h1]
    have hr : (V.state t == 1) = false := by simp [h1]
    rw [hr]
    generalize V.state t = x at *
    have c2 := hI.c2
    have f2 := hI.root.free 2
    have HP := Lib.hid hp
    have HC := Lib.hid hc
    clear hp hc h1 hI ho
    go_enter Try.func37, Try.ntmps37
    go_wp2_with (go_at_call 20; refine HC.out.mono ?_; rintro e w' ⟨rfl, rfl⟩)
    go_region
    go_wp2
    go_ret
    exact HP.out 1
set_option maxHeartbeats 400000 in
/-- Counts. -/
theorem Counts_any (hS : Sched w own k s V) :
    Calls Try.prog 41 #[.pointer (some ⟨s, 0, none⟩)] w fun e w' => e = .returned (.tuple #[.int .i64 V.good, .int .i64 V.bad]) ∧ ∃ n, w' = w.drewN n := by
  obtain ⟨ho, g, cap, rest, hI⟩ := hS
  have c2 := hI.c2
  have c3 := hI.c3
  clear hI ho
  go_enter Try.func41, Try.ntmps41
  go_wp2
  go_quiet (fail)
  go_wp2
  go_ret2
  exact ⟨rfl, _, rfl⟩

/-! ### Wake -/
def wk (key : Int) (p : Int × Int) : Int × Int := if wakes key p then (1, p.2) else p
def wakeTo (l : List (Int × Int)) (key : Int) (i : Nat) : List (Int × Int) := (l.take i).map (wk key) ++ l.drop i
theorem wakeTo_length (l : List (Int × Int)) (key : Int) (i : Nat) : (wakeTo l key i).length = l.length := by
  simp only [wakeTo, List.length_append, List.length_map, List.length_take, List.length_drop]; omega
theorem wakeTo_get (l : List (Int × Int)) (key : Int) (i : Nat) (hi : i < l.length) : (wakeTo l key i)[i]'(by rw [wakeTo_length]; exact hi) = l[i] := by
  simp only [wakeTo]
  rw [List.getElem_append_right (by simp; omega)]
  simp [Nat.min_eq_left (Nat.le_of_lt hi)]
theorem wakeTo_succ (l : List (Int × Int)) (key : Int) (i : Nat) (hi : i < l.length) : wakeTo l key (i + 1) = (wakeTo l key i).set i (wk key l[i]) := by
  simp only [wakeTo]
  rw [List.take_succ_eq_append_getElem hi, List.map_append, List.append_assoc]
  rw [List.set_append_right _ _ (by rw [List.length_map, List.length_take]; exact Nat.min_le_left _ _)]
  congr 1
  simp only [List.length_map, List.length_take, Nat.min_eq_left (Nat.le_of_lt hi), Nat.sub_self]
  rw [List.drop_eq_getElem_cons hi]
  rfl
theorem wakeTo_all (l : List (Int × Int)) (key : Int) : wakeTo l key l.length = l.map (wk key) := by simp [wakeTo]
def wcount (l : List (Int × Int)) (key : Int) (i : Nat) : Nat := ((l.take i).filter (wakes key)).length
theorem wcount_succ (l : List (Int × Int)) (key : Int) (i : Nat) (hi : i < l.length) : wcount l key (i + 1) = wcount l key i + if wakes key l[i] then 1 else 0 := by
  simp only [wcount]
  rw [List.take_succ_eq_append_getElem hi, List.filter_append, List.length_append]
  cases h : wakes key l[i] <;> simp [h]
theorem wcount_le (l : List (Int × Int)) (key : Int) (i : Nat) : wcount l key i ≤ i := by
  refine Nat.le_trans (List.length_filter_le _ _) ?_
  rw [List.length_take]
  exact Nat.min_le_left _ _
def WakeInv (w0 : World) (own : Nat → Nat) (k s g cap : Nat) (V : SV) (key : Int) (rest : List Value) (nv iv : Value) (w : World) : Prop :=
  ∃ i : Nat, iv = .int .i64 i ∧ nv = .int .i64 (wcount V.ths key i : Nat) ∧ i ≤ V.ths.length ∧ SchedIn w own k s { V with ths := wakeTo V.ths key i } g cap rest ∧ Ext (fun c => c = k) w0 w own own
set_option maxHeartbeats 1000000 in
theorem Wake_any (hS : Sched w own k s V) (key : Int) :
    Calls Try.prog 38 #[.pointer (some ⟨s, 0, none⟩), .int .i64 key] w (ScPost k s (V.wake key) w own (.int .i64 (V.woken key))) := by
  obtain ⟨ho, g, cap, rest, hI⟩ := hS
  have hlen := ho.len
  have c1 := hI.c1
  have hI0 : SchedIn w own k s { V with ths := wakeTo V.ths key 0 } g cap rest := by simpa [wakeTo] using hI
  have hend : ∀ w', SchedIn w' own k s { V with ths := wakeTo V.ths key V.ths.length } g cap rest → Ext (fun c => c = k) w w' own own →
      ScPost k s (V.wake key) w own (.int .i64 (V.woken key)) (.returned (.int .i64 (wcount V.ths key V.ths.length : Nat))) w' := by
    intro w' h1 h2
    refine ⟨?_, own, h2, ⟨ho.most, by simpa [SV.wake] using ho.len, ho.good, ho.bad⟩, g, cap, rest, ?_⟩
    · simp [SV.woken, wcount]
    · rw [wakeTo_all] at h1
      exact h1
  have HEND := Lib.hid hend
  have H0 := Lib.hid hI0
  clear hI0 hend hI ho
  go_enter Try.func38, Try.ntmps38
  go_wp2
  go_loopw [5, 13] (fun nv iv wr => WakeInv w own k s g cap V key rest nv iv wr) (fun _ iv _ => V.ths.length - (intOf iv).toNat)
  case atStart => exact ⟨0, rfl, by simp [wcount], by omega, H0.out, Ext.refl⟩
  case round =>
    obtain ⟨i, rfl, rfl, hi, hI, hE⟩ := hrel
    have HE := Lib.hid hE
    have d1 := hI.c1
    dsimp only at d1
    rw [wakeTo_length] at d1
    clear hE c1
    have hwc := wcount_le V.ths key i
    by_cases hlt : i < V.ths.length
    · have hlt2 : (i : Int) < V.ths.length := by omega
      have hltW : i < (wakeTo V.ths key i).length := by rw [wakeTo_length]; exact hlt
      have hws := wcount_succ V.ths key i hlt
      have cs := hI.st (i := i) hltW
      have ck := hI.ky (i := i) hltW
      have fs := hI.row.free (i * 2)
      have hset := hI.setSt (i := i) hltW 1
      dsimp only at cs ck hset
      rw [wakeTo_get _ _ _ hlt] at cs ck hset
      have hnext := wakeTo_succ V.ths key i hlt
      have hget := wakeTo_get V.ths key i hlt
      generalize V.ths[i] = p at *
      obtain ⟨st, ky⟩ := p
      dsimp only at cs ck hset
      by_cases hw : st = 2
      · by_cases hk : ky = key
        · have hb : wakes key (st, ky) = true := by simp [wakes, hw, hk]
          rw [hb, if_pos rfl] at hws
          have hnx : (wakeTo V.ths key i).set i (1, ky) = wakeTo V.ths key (i + 1) := by rw [hnext]; simp [wk, hb]
          rw [hnx] at hset
          have HS := Lib.hid hset
          have HW := Lib.hid hws
          have hE2 := HE.out.setCell (a := ⟨g, i * 2, none⟩) (fun _ => hI.row.col) (.int .i64 1)
          have HE2 := Lib.hid hE2
          subst hw
          subst hk
          clear hset hnext hnx hws hI hE2 hb hget
          go_wp2
          go_roundw
          case rel => exact ⟨i + 1, by go_num, by rw [HW.out]; go_num, by omega, HS.out, HE2.out⟩
          case measure => simp [intOf]; omega
        · have hb : wakes key (st, ky) = false := by simp [wakes, hk]
          rw [hb] at hws
          simp only [Bool.false_eq_true, if_false, Nat.add_zero] at hws
          have hnx : wakeTo V.ths key i = wakeTo V.ths key (i + 1) := by
            rw [hnext]
            simp only [wk, hb, Bool.false_eq_true, if_false]
            rw [← hget, List.set_getElem_self]
          rw [hnx] at hI
          have HS := Lib.hid hI
          have HW := Lib.hid hws
          have b1 : (ky == key) = false := by simp [hk]
          subst hw
          clear hset hnext hnx hws hI hb hk hget
          go_wp2
          go_roundw
          case rel => exact ⟨i + 1, by go_num, by rw [HW.out], by omega, HS.out, HE.out⟩
          case measure => simp [intOf]; omega
      · have hb : wakes key (st, ky) = false := by simp [wakes, hw]
        rw [hb] at hws
        simp only [Bool.false_eq_true, if_false, Nat.add_zero] at hws
        have hnx : wakeTo V.ths key i = wakeTo V.ths key (i + 1) := by
          rw [hnext]
          simp only [wk, hb, Bool.false_eq_true, if_false]
          rw [← hget, List.set_getElem_self]
        rw [hnx] at hI
        have HS := Lib.hid hI
        have HW := Lib.hid hws
        have b1 : (st == 2) = false := by simp [hw]
        clear hset hnext hnx hws hI hb hw hget
        go_wp2
        go_roundw
        case rel => exact ⟨i + 1, by go_num, by rw [HW.out], by omega, HS.out, HE.out⟩
        case measure => simp [intOf]; omega
    · obtain rfl : i = V.ths.length := by omega
      have HS := Lib.hid (HEND.out _ hI HE.out)
      clear hI
      go_wp2
      go_ret
      exact HS.out

/-! ### Ready -/
theorem readyFrom_append (l m : List (Int × Int)) : ∀ i, readyFrom (l ++ m) i = readyFrom l i ++ readyFrom m (i + l.length) := by
  induction l with
  | nil => intro i; simp [readyFrom]
  | cons p l ih =>
    intro i
    have e : i + 1 + l.length = i + (l.length + 1) := by omega
    simp only [List.cons_append, readyFrom, ih, List.length_cons, e]
    split <;> simp
theorem readyFrom_length (l : List (Int × Int)) : ∀ i, (readyFrom l i).length ≤ l.length := by
  induction l with
  | nil => intro i; simp [readyFrom]
  | cons p l ih =>
    intro i
    have := ih (i + 1)
    simp only [readyFrom]
    split <;> simp <;> omega
def rto (l : List (Int × Int)) (i : Nat) : List Int := readyFrom (l.take i) 0
theorem rto_succ (l : List (Int × Int)) (i : Nat) (hi : i < l.length) : rto l (i + 1) = if l[i].1 = 1 then rto l i ++ [(i : Int)] else rto l i := by
  simp only [rto]
  rw [List.take_succ_eq_append_getElem hi, readyFrom_append]
  simp only [List.length_take, Nat.min_eq_left (Nat.le_of_lt hi), Nat.zero_add, readyFrom]
  split <;> simp
theorem rto_le (l : List (Int × Int)) (i : Nat) : (rto l i).length ≤ i := by
  refine Nat.le_trans (readyFrom_length _ _) ?_
  rw [List.length_take]
  exact Nat.min_le_left _ _
def intsV (xs : List Int) : List Value := xs.map (Value.int .i64)
theorem info_int : (Try.prog.info? 3).map (fun i => (i.zero, i.size, i.bytes)) = some (some (.int .i64 0), 1, 8) := by kernel_rfl
def ReadyInv (w0 : World) (l : List (Int × Int)) (ov iv : Value) (w : World) : Prop :=
  ∃ (i : Nat), iv = .int .i64 i ∧ i ≤ l.length ∧ Row w (fresh w0.heap.size) 1 3 1 ov (rto l i).length (intsV (rto l i)) ∧ Below w0.heap.size w0 w
set_option maxHeartbeats 1000000 in
theorem Ready_any (hS : Sched w own k s V) (L : Nat) :
    Calls Try.prog 35 #[.pointer (some ⟨s, 0, none⟩)] w fun e w' => ∃ v, e = .returned v ∧ Row w' (ow own w.heap.size L) L 3 1 v V.ready.length (intsV V.ready) ∧ Below w.heap.size w w' := by
  obtain ⟨i0, hi, hz0, hz1, hz2⟩ := info_parts info_int
  obtain ⟨ho, g, cap, rest, hI⟩ := hS
  have hlen := ho.len
  have c1 := hI.c1
  have HI := Lib.hid hI
  have hgl := hI.row.lt
  clear hI ho
  go_enter Try.func35, Try.ntmps35
  go_wp2
  go_loopw [3, 11] (fun ov iv wr => ReadyInv w V.ths ov iv wr) (fun _ iv _ => V.ths.length - (intOf iv).toNat)
  case atStart => exact ⟨0, rfl, by omega, Row.nil _ _ _ _ _, Below.refl _ _⟩
  case round =>
    clear c1
    obtain ⟨i, rfl, hil, hrow, hB⟩ := hrel
    have hsz := hB.size
    have hle := rto_le V.ths i
    have HB := Lib.hid hB
    clear hB
    by_cases hlt : i < V.ths.length
    · have hlt2 : (i : Int) < V.ths.length := by omega
      have cs : wr.cell? ⟨g, i * 2, none⟩ = some (.int .i64 V.ths[i].1) := by rw [HB.out.cell hgl]; exact HI.out.st hlt
      have ck : wr.cell? ⟨g, i * 2 + 1, none⟩ = some (.int .i64 V.ths[i].2) := by rw [HB.out.cell hgl]; exact HI.out.ky hlt
      have hrs := rto_succ V.ths i hlt
      have HR := Lib.hid hrs
      clear hrs
      by_cases h1 : V.ths[i].1 = 1
      · have hr2 : Hid (rto V.ths (i + 1) = rto V.ths i ++ [(i : Int)]) := by rw [HR.out, if_pos h1]; exact rfl
        rw [h1] at cs
        generalize V.ths[i].2 = ky at *
        clear HR h1
        have hb1 : (rto V.ths i).length + 1 ≤ maxLen := by unfold maxLen; omega
        have hb2 : ((rto V.ths i).length + 1) * 8 ≤ 140737488355328 := by omega
        go_wp2_with (at_builtin; refine wpList_append_row rfl _ _ 26 rfl i0 (.int .i64 0) 8 Try.underlying26 hi hz0 hz1 hz2 rfl (by decide) rfl ((hrow.alloc _).alloc _) ⟨wr.heap.size + 1, 0, none⟩ 1 1 [.int .i64 i] rfl rfl (one_cell (new_cell (by simp))) (one_ok rfl) hb1 hb2 ?_; intro v' w1 hrow1 hext1 _)
        rw [fresh_ow (by simp; omega)] at hrow1 hext1
        have hB2 := (((HB.out.alloc hsz _).alloc (by simp; omega) _)).trans (hext1.freshBelow (by simp; omega))
        go_roundw
        case rel =>
          refine ⟨i + 1, by go_num, by omega, ?_, hB2⟩
          rw [hr2.out, List.length_append, List.length_singleton]
          simpa [intsV] using hrow1
        case measure => simp [intOf]; omega
      · have hr2 : Hid (rto V.ths (i + 1) = rto V.ths i) := by rw [HR.out, if_neg h1]; exact rfl
        have b1 : (V.ths[i].1 == 1) = false := by simp [h1]
        generalize V.ths[i].2 = ky at *
        generalize V.ths[i].1 = st at *
        clear HR h1
        have hB2 := HB.out.alloc hsz (.cells #[.int .i64 st, .int .i64 ky] 81)
        have HB2 := Lib.hid hB2
        clear hB2
        go_wp2
        go_roundw
        case rel => exact ⟨i + 1, by go_num, by omega, by rw [hr2.out]; exact hrow.alloc _, HB2.out⟩
        case measure => simp [intOf]; omega
    · obtain rfl : i = V.ths.length := by omega
      have hfin : Row wr (ow own w.heap.size L) L 3 1 u3 V.ready.length (intsV V.ready) := by
        have e : rto V.ths V.ths.length = V.ready := by simp [rto, SV.ready]
        rw [e] at hrow
        exact hrow.recol (fun b _ hb => ow_ge (fresh_one hb))
      have HF := Lib.hid hfin
      clear hrow hfin
      go_wp2
      go_ret
      exact ⟨_, rfl, HF.out, HB.out⟩

/-! ### Spawn -/
def lcount (l : List (Int × Int)) (i : Nat) : Nat := ((l.take i).filter fun p => p.1 != 0).length
theorem lcount_succ (l : List (Int × Int)) (i : Nat) (hi : i < l.length) : lcount l (i + 1) = lcount l i + if l[i].1 != 0 then 1 else 0 := by
  simp only [lcount]
  rw [List.take_succ_eq_append_getElem hi, List.filter_append, List.length_append]
  cases h : (l[i].1 != 0) <;> simp [h]
theorem lcount_le (l : List (Int × Int)) (i : Nat) : lcount l i ≤ i := by
  refine Nat.le_trans (List.length_filter_le _ _) ?_
  rw [List.length_take]
  exact Nat.min_le_left _ _
theorem lcount_all (l : List (Int × Int)) : lcount l l.length = (l.filter fun p => p.1 != 0).length := by simp [lcount]
theorem info_thread : (Try.prog.info? 81).map (fun i => (i.zero, i.size, i.bytes)) = some (some (.agg #[.int .i64 0, .int .i64 0]), 2, 16) := by kernel_rfl
theorem SchedIn.toRow (h : SchedIn w own k s V g cap rest) : Row w own k 81 2 (.slice (some ⟨g, 0, none⟩) V.ths.length cap) V.ths.length (flat2 V.ths) := by
  refine ⟨flat2_length _, .inr ⟨g, cap, _, rfl, h.row, h.le, h.max, ?_, ?_⟩⟩
  · have := h.rest
    have hle := h.le
    simp only [List.size_toArray, List.length_append, flat2_length, this]
    omega
  · rw [← flat2_length]; exact List.take_left
def SpawnInv (w0 : World) (own : Nat → Nat) (k s g cap : Nat) (V : SV) (rest : List Value) (nv iv : Value) (w : World) : Prop :=
  ∃ i : Nat, iv = .int .i64 i ∧ nv = .int .i64 (lcount V.ths i : Nat) ∧ i ≤ V.ths.length ∧ SchedIn w (ow own w0.heap.size k) k s V g cap rest ∧ Ext (fun c => c = k) w0 w own (ow own w0.heap.size k)
theorem two_cells {w : World} {b : Nat} {x y : Value} (h : w.cell? ⟨b, 0, none⟩ = some x) (h2 : w.cell? ⟨b, 1, none⟩ = some y) : ∀ j u, ([x, y] : List Value)[j]? = some u → w.cell? ((⟨b, 0, none⟩ : Addr).add j) = some u := by
  intro j u hu
  rcases j with _ | _ | j
  · simp at hu; subst hu; exact h
  · simp at hu; subst hu; exact h2
  · simp at hu
theorem two_ok {x y : Value} (h : x.oneCell' = true) (h2 : y.oneCell' = true) : ∀ u ∈ ([x, y] : List Value), u.oneCell' = true := by
  intro u hu
  simp only [List.mem_cons, List.not_mem_nil, or_false] at hu
  rcases hu with rfl | rfl
  · exact h
  · exact h2
theorem root_grown (h : SchedIn w own k s V g cap rest) (o : Obj) {n c : Nat} (hg : (w.alloc o).grownBy w' (Value.slice (some ⟨g, 0, none⟩) n c).ownBlock) {own' : Nat → Nat} (hc : own' s = k) :
    Blk w' own' k s (.cells #[.int .i64 V.most, .slice (some ⟨g, 0, none⟩) V.ths.length cap, .int .i64 V.bad, .int .i64 V.good] 79 (0, 0)) :=
  (h.root.alloc o).grown hg (by simp only [Value.ownBlock]; intro e; exact h.ne (Option.some.inj e)) hc
theorem of_row {a : Option Addr} {n : Nat} {l : List (Int × Int)} (h : Row w own k 81 2 (.slice a n cap) n (flat2 l)) (hn : n = l.length) (h0 : 0 < n) :
    ∃ g rest, a = some ⟨g, 0, none⟩ ∧ Blk w own k g (.cells (flat2 l ++ rest).toArray 81 (0, 0)) ∧ rest.length = (cap - l.length) * 2 ∧ l.length ≤ cap ∧ cap ≤ maxLen := by
  obtain ⟨_, ⟨_, h1⟩ | ⟨g, cap', cur, hv, hb, h1, h2, h3, h4⟩⟩ := h
  · omega
  · injection hv with hv1 _ hv3
    subst hv3
    refine ⟨g, cur.toList.drop (n * 2), hv1, ?_, ?_, by omega, h2⟩
    · rw [← h4, List.take_append_drop]
      simpa using hb
    · rw [List.length_drop, Array.length_toList, h3, hn, Nat.sub_mul]
theorem flat2_append (l : List (Int × Int)) (p : Int × Int) : flat2 (l ++ [p]) = flat2 l ++ [.int .i64 p.1, .int .i64 p.2] := by simp [flat2]
theorem ow_idem (own : Nat → Nat) {n m k : Nat} (h : n ≤ m) : ow (ow own n k) m k = ow own n k := by
  funext b
  simp only [ow]
  split
  · rfl
  · rw [if_neg (by omega)]
set_option maxHeartbeats 1000000 in
theorem Spawn_any (hS : Sched w own k s V) (hlen : V.ths.length < 6000000000000) :
    Calls Try.prog 15 #[.pointer (some ⟨s, 0, none⟩)] w (ScPost k s V.spawn w own (.tuple #[.int .i64 V.spawnId, .int .i64 V.spawnErr])) := by
  obtain ⟨i0, hi0, hz0, hz1, hz2⟩ := info_parts info_thread
  have hok := hS.ok
  obtain ⟨ho, g, cap, rest, hI⟩ := hS
  have c1 := hI.c1
  have hmost := ho.most
  have hI0 : SchedIn w (ow own w.heap.size k) k s V g cap rest := hI.ext (M := fun _ => False) (Ext.refl.ow k) (by simp)
  have H0 := Lib.hid hI0
  have HOK := Lib.hid hok
  have HCOL := Lib.hid hI.root.col
  clear hI0 hI ho hok
  go_enter Try.func15, Try.ntmps15
  go_wp2
  go_loopw [4, 12] (fun nv iv wr => SpawnInv w own k s g cap V rest nv iv wr) (fun _ iv _ => V.ths.length - (intOf iv).toNat)
  case atStart => exact ⟨0, rfl, by simp [lcount], by omega, H0.out, Ext.refl.ow k⟩
  case round =>
    obtain ⟨i, rfl, rfl, hi, hI, hE⟩ := hrel
    have HE := Lib.hid hE
    have hsz := hE.size
    clear hE c1 H0
    have hlc := lcount_le V.ths i
    by_cases hlt : i < V.ths.length
    · have hlt2 : (i : Int) < V.ths.length := by omega
      have cs := hI.st hlt
      have ck := hI.ky hlt
      have hls := lcount_succ V.ths i hlt
      generalize V.ths[i].2 = ky at *
      generalize V.ths[i].1 = st at *
      have hI2 := Lib.hid (hI.ext (M := fun _ => False) (Ext.refl.alloc (.cells #[.int .i64 st, .int .i64 ky] 81)) (by simp))
      have HE2 := Lib.hid (HE.out.alloc (.cells #[.int .i64 st, .int .i64 ky] 81))
      by_cases h0 : st = 0
      · have hl2 : Hid (lcount V.ths (i + 1) = lcount V.ths i) := by rw [hls, h0]; exact rfl
        subst h0
        clear hls hI
        go_wp2
        go_roundw
        case rel => exact ⟨i + 1, by go_num, by rw [hl2.out], by omega, hI2.out, HE2.out⟩
        case measure => simp [intOf]; omega
      · have hl2 : Hid (lcount V.ths (i + 1) = lcount V.ths i + 1) := by
          rw [hls, if_pos (by simp [h0])]; exact rfl
        have b1 : (st != 0) = true := by simp [h0]
        clear hls hI h0
        go_wp2
        go_roundw
        case rel => exact ⟨i + 1, by go_num, by rw [hl2.out]; go_num, by omega, hI2.out, HE2.out⟩
        case measure => simp [intOf]; omega
    · obtain rfl : i = V.ths.length := by omega
      have c0 := hI.c0
      have hlv : V.live = (lcount V.ths V.ths.length : Nat) := by rw [lcount_all]; rfl
      by_cases hm : V.most ≤ lcount V.ths V.ths.length
      · have hr : V.spawnErr = 3 := by unfold SV.spawnErr; rw [if_pos (by rw [hlv]; exact hm)]
        have hp : ScPost k s V.spawn w own (.tuple #[.int .i64 V.spawnId, .int .i64 V.spawnErr]) (.returned (.tuple #[.int .i64 0, .int .i64 3])) wr := by
          refine ⟨by unfold SV.spawnId; rw [hr]; rfl, _, HE.out, ?_⟩
          have : V.spawn = V := by simp [SV.spawn, hr]
          rw [this]
          exact ⟨HOK.out, g, cap, rest, hI⟩
        have HP := Lib.hid hp
        clear hp hr hlv hI
        go_wp2
        go_ret2
        exact HP.out
      · have hr : V.spawnErr = 0 := by unfold SV.spawnErr; rw [if_neg (by rw [hlv]; exact hm)]
        have hm2 : (lcount V.ths V.ths.length : Int) < V.most := by omega
        have d1 := hI.c1
        have hrow := hI.toRow
        have hroot := hI.root
        have HR := Lib.hid hr
        have HI := Lib.hid hI
        clear hr hlv hI hm
        have hb1 : V.ths.length + 1 ≤ maxLen := by unfold maxLen; omega
        have hb2 : (V.ths.length + 1) * 16 ≤ 140737488355328 := by omega
        go_wp2_with (at_builtin; refine wpList_append_row rfl _ _ 76 rfl i0 (.agg #[.int .i64 0, .int .i64 0]) 16 Try.underlying76 hi0 hz0 hz1 hz2 rfl (by decide) rfl (hrow.alloc _) ⟨wr.heap.size, 0, none⟩ 1 1 [.int .i64 1, .int .i64 0] rfl rfl (two_cells (by simp) (by simp)) (two_ok rfl rfl) hb1 hb2 ?_; intro v' w1 hrow1 hext1 hgr1; obtain ⟨a3, cap3, rfl⟩ := hrow1.shape; have hroot1 := root_grown HI.out _ hgr1 (own' := ow (ow own w.heap.size k) (wr.heap.size + 1) k) (by rw [ow_lt (by have := HI.out.root.lt; omega)]; exact HI.out.root.col); have e1 : w1.cell? ⟨s, 1, none⟩ = some (.slice (some ⟨g, 0, none⟩) V.ths.length cap) := hroot1.cell 1; have f1 := hroot1.free 1)
        rw [World.size_alloc, ow_idem own (by omega)] at hrow1 hext1
        have hroot2 := hroot1.setCell 1 (.slice a3 (V.ths.length + 1) cap3)
        rw [ow_idem own (by omega)] at hroot2
        have hrow2 : Row w1 (ow own w.heap.size k) k 81 2 (.slice a3 (V.ths.length + 1) cap3) (V.ths.length + 1) (flat2 (V.ths ++ [(1, 0)])) := by rw [flat2_append]; exact hrow1
        obtain ⟨g3, rest3, rfl, hb3, hr3, hl3, hm3⟩ := of_row hrow2 (by simp) (by omega)
        have hsne : g3 ≠ s := by
          refine hb3.ne_obj (hroot1.recol (own' := ow own w.heap.size k) (by rw [ow_idem own (by omega)] at hroot1; exact hroot1.col)) ?_
          intro h'
          injection h' with _ h2 _
          exact absurd h2 (by decide)
        have hp : ScPost k s V.spawn w own (.tuple #[.int .i64 V.spawnId, .int .i64 V.spawnErr]) (.returned (.tuple #[.int .i64 V.ths.length, .int .i64 0])) (w1.setCell ⟨s, 1, none⟩ (.slice (some ⟨g3, 0, none⟩) (V.ths.length + 1) cap3)) := by
          refine ⟨by unfold SV.spawnId; rw [HR.out]; rfl, ow own w.heap.size k, (((HE.out.alloc _).trans hext1).setCell (fun _ => HCOL.out) _), ?_, g3, cap3, rest3, ?_⟩
          · simp only [SV.spawn, HR.out, if_true]
            exact ⟨HOK.out.most, by simp; omega, HOK.out.good, HOK.out.bad⟩
          · refine ⟨?_, ?_, ?_, hm3, ?_⟩
            · simpa [SV.spawn, HR.out] using hroot2
            · have := hb3.setCell_other (a := ⟨s, 1, none⟩) hsne (.slice (some ⟨g3, 0, none⟩) (V.ths.length + 1) cap3)
              simpa [SV.spawn, HR.out] using this
            · simpa [SV.spawn, HR.out] using hl3
            · simpa [SV.spawn, HR.out] using hr3
        have HP := Lib.hid hp
        clear hp
        go_ret2
        exact HP.out

theorem SV.Ok.fresh (most : Int) : (SV.fresh most).Ok := by
  refine ⟨?_, by simp [SV.fresh], by simp [SV.fresh], by simp [SV.fresh]⟩
  simp only [SV.fresh]
  omega
theorem make_thread (w : World) : (Instr.makeSlice 76 (.int .i64 1) (.int .i64 1)).run Try.prog w =
    .ok (.slice (some ⟨w.heap.size, 0, none⟩) 1 1) (w.alloc (.cells #[.int .i64 0, .int .i64 0] 81)) := by kernel_rfl
theorem new_sched (most v : Int) (hv : v = (SV.fresh most).most) (k : Nat) (own : Nat → Nat) (w : World) :
    Below w.heap.size w ((w.alloc (.cells #[.int .i64 0, .int .i64 0] 81)).alloc (.cells #[.int .i64 v, .slice (some ⟨w.heap.size, 0, none⟩) 1 1, .int .i64 0, .int .i64 0] 79)) ∧
      Sched ((w.alloc (.cells #[.int .i64 0, .int .i64 0] 81)).alloc (.cells #[.int .i64 v, .slice (some ⟨w.heap.size, 0, none⟩) 1 1, .int .i64 0, .int .i64 0] 79)) (ow own w.heap.size k) k (w.heap.size + 1) (SV.fresh most) := by
  subst hv
  refine ⟨((Below.refl _ _).alloc (Nat.le_refl _) _).alloc (by simp) _, SV.Ok.fresh most, w.heap.size, 1, [], ?_, ?_, by simp [SV.fresh], by decide, by simp [SV.fresh]⟩
  · have := Blk.new (own := ow own w.heap.size k) (k := k) (w.alloc (.cells #[.int .i64 0, .int .i64 0] 81)) (.cells #[.int .i64 (SV.fresh most).most, .slice (some ⟨w.heap.size, 0, none⟩) 1 1, .int .i64 0, .int .i64 0] 79) (by rw [World.size_alloc]; exact ow_ge (by omega))
    simpa [SV.fresh] using this
  · have := (Blk.new (own := ow own w.heap.size k) (k := k) w (.cells #[.int .i64 0, .int .i64 0] 81) (ow_ge (Nat.le_refl _))).alloc (.cells #[.int .i64 (SV.fresh most).most, .slice (some ⟨w.heap.size, 0, none⟩) 1 1, .int .i64 0, .int .i64 0] 79)
    simpa [SV.fresh, flat2] using this
set_option maxHeartbeats 400000 in
/-- New. -/
theorem SNew_any (most : Int) (k : Nat) (own : Nat → Nat) (w : World) :
    Calls Try.prog 13 #[.int .i64 most] w fun e w' => e = .returned (.pointer (some ⟨w.heap.size + 1, 0, none⟩)) ∧ Below w.heap.size w w' ∧ Sched w' (ow own w.heap.size k) k (w.heap.size + 1) (SV.fresh most) := by
  have hmk := make_thread
  go_enter Try.func13, Try.ntmps13
  go_wp2
  all_goals
    go_ret
    exact ⟨rfl, new_sched most _ (by simp only [SV.fresh]; omega) k own w⟩
end
end Go.Proofs.Ytemibcglhbjaoaa
