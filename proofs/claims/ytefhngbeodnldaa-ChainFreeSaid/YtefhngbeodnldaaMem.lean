/- Memory in colours: frames between worlds, blocks that keep their contents, maps keyed by ints told entry by entry. No program in sight. -/
import Derived.WalkKit
import Derived.BigQuiet
import Derived.Deep.QuietTactic
import Derived.WalkSpells
import Derived.Outline
set_option linter.unusedVariables false
set_option linter.unusedSimpArgs false
namespace Go.PM
open Go.RowKit

/-- From block n on every block is of colour k. -/
def ow (own : Nat → Nat) (n k : Nat) : Nat → Nat := fun b => if b < n then own b else k
theorem ow_lt {own : Nat → Nat} {n k b : Nat} (h : b < n) : ow own n k b = own b := by simp [ow, h]
theorem ow_ge {own : Nat → Nat} {n k b : Nat} (h : n ≤ b) : ow own n k b = k := by simp [ow, Nat.not_lt.2 h]

/-- w' is w, but for blocks of the colours M, and new ones. -/
structure Ext (M : Nat → Prop) (w w' : World) (own own' : Nat → Nat) : Prop where
  os : w'.os = w.os
  tape : w'.tape = w.tape
  output : w'.output = w.output
  size : w.heap.size ≤ w'.heap.size
  col : ∀ b, b < w.heap.size → own' b = own b
  same : ∀ b, b < w.heap.size → ¬ M (own b) → w'.heap[b]? = w.heap[b]?

section
variable {M M' : Nat → Prop} {w w' w1 w2 : World} {own own' own1 own2 : Nat → Nat}
theorem Ext.refl : Ext M w w own own := ⟨rfl, rfl, rfl, Nat.le_refl _, fun _ _ => rfl, fun _ _ _ => rfl⟩
theorem Ext.trans (h : Ext M w w1 own own1) (k : Ext M w1 w2 own1 own2) : Ext M w w2 own own2 :=
  ⟨k.os.trans h.os, k.tape.trans h.tape, k.output.trans h.output, Nat.le_trans h.size k.size,
    fun b hb => (k.col b (Nat.lt_of_lt_of_le hb h.size)).trans (h.col b hb),
    fun b hb hm => (k.same b (Nat.lt_of_lt_of_le hb h.size) (by rw [h.col b hb]; exact hm)).trans (h.same b hb hm)⟩
theorem Ext.mono (h : Ext M w w' own own') (hM : ∀ c, M c → M' c) : Ext M' w w' own own' :=
  ⟨h.os, h.tape, h.output, h.size, h.col, fun b hb hm => h.same b hb (fun hc => hm (hM _ hc))⟩
theorem Ext.drew (h : Ext M w w' own own') : Ext M w w'.drew own own' := ⟨h.os, h.tape, h.output, h.size, h.col, h.same⟩
theorem Ext.drewN (h : Ext M w w' own own') (n : Nat) : Ext M w (w'.drewN n) own own' := ⟨h.os, h.tape, h.output, h.size, h.col, h.same⟩
/-- The colours of what is not there yet may be named anew. -/
theorem Ext.ow (h : Ext M w w' own own') (L : Nat) : Ext M w w' own (ow own' w'.heap.size L) :=
  ⟨h.os, h.tape, h.output, h.size, fun b hb => by rw [ow_lt (Nat.lt_of_lt_of_le hb h.size)]; exact h.col b hb, h.same⟩
theorem Ext.alloc (h : Ext M w w' own own') (o : Obj) : Ext M w (w'.alloc o) own own' :=
  ⟨h.os, h.tape, h.output, by have := h.size; simp; omega, h.col,
    fun b hb hm => by rw [heap_alloc_old (h := Nat.lt_of_lt_of_le hb h.size)]; exact h.same b hb hm⟩
theorem Ext.setCell (h : Ext M w w' own own') {a : Addr} (hm : a.block < w.heap.size → M (own a.block)) (v : Value) : Ext M w (w'.setCell a v) own own' :=
  ⟨h.os, h.tape, h.output, by simpa using h.size, h.col,
    fun b hb hn => by
      rw [heap_setCell_other _ _ _ _ (fun e => hn (by subst e; exact hm hb))]; exact h.same b hb hn⟩
theorem Ext.of_below (h : Below w.heap.size w w') (own : Nat → Nat) (L : Nat) : Ext M w w' own (PM.ow own w.heap.size L) :=
  ⟨h.os, h.tape, h.output, h.size, fun _ hb => ow_lt hb, fun b hb _ => h.block b hb⟩
theorem Ext.below (h : Ext M w w' own own') (hm : ∀ b, b < w.heap.size → ¬ M (own b)) : Below w.heap.size w w' :=
  ⟨h.os, h.tape, h.output, h.size, fun b hb => h.same b hb (hm b hb)⟩
end

theorem size_drewN (w : World) (n : Nat) : (w.drewN n).heap.size = w.heap.size := rfl
theorem heap_drewN (w : World) (n : Nat) : (w.drewN n).heap = w.heap := rfl

/-- Block b, of colour k, holds o. -/
structure Blk (w : World) (own : Nat → Nat) (k b : Nat) (o : Obj) : Prop where
  at_ : w.heap[b]? = some o
  col : own b = k

section
variable {M : Nat → Prop} {w w' : World} {own own' : Nat → Nat} {k b : Nat} {o : Obj}
theorem Blk.lt (h : Blk w own k b o) : b < w.heap.size := by
  obtain ⟨h, _⟩ := h
  exact (Array.getElem?_eq_some_iff.1 h).1
theorem Blk.ext (h : Blk w own k b o) (e : Ext M w w' own own') (hk : ¬ M k) : Blk w' own' k b o :=
  ⟨by rw [e.same b h.lt (by rw [h.col]; exact hk)]; exact h.at_, by rw [e.col b h.lt]; exact h.col⟩
theorem Blk.below (h : Blk w own k b o) (e : Below w.heap.size w w') (L : Nat) : Blk w' (ow own w.heap.size L) k b o :=
  ⟨by rw [e.block b h.lt]; exact h.at_, by rw [ow_lt h.lt]; exact h.col⟩
theorem Blk.drew (h : Blk w own k b o) : Blk w.drew own k b o := ⟨h.at_, h.col⟩
theorem Blk.drewN (h : Blk w own k b o) (n : Nat) : Blk (w.drewN n) own k b o := ⟨h.at_, h.col⟩
theorem Blk.ow (h : Blk w own k b o) (L : Nat) : Blk w (PM.ow own w.heap.size L) k b o := ⟨h.at_, by rw [ow_lt h.lt]; exact h.col⟩
theorem Blk.recol {own' : Nat → Nat} (h : Blk w own k b o) (hk : own' b = k) : Blk w own' k b o := ⟨h.at_, hk⟩
theorem Blk.alloc (h : Blk w own k b o) (x : Obj) : Blk (w.alloc x) own k b o := ⟨by rw [heap_alloc_old (h := h.lt)]; exact h.at_, h.col⟩
theorem Blk.new (w : World) (o : Obj) (h : own w.heap.size = k) : Blk (w.alloc o) own k w.heap.size o := ⟨heap_alloc_new w o, h⟩
theorem Blk.setCell_other (h : Blk w own k b o) {a : Addr} (ha : b ≠ a.block) (v : Value) : Blk (w.setCell a v) own k b o :=
  ⟨by rw [heap_setCell_other _ _ _ _ ha]; exact h.at_, h.col⟩
theorem Blk.setCell {cs : Array Value} {T : TypeId} (h : Blk w own k b (.cells cs T (0, 0))) (i : Nat) (v : Value) :
    Blk (w.setCell ⟨b, i, none⟩ v) own k b (.cells (cs.setIfInBounds i v) T (0, 0)) :=
  ⟨heap_setCell_same _ _ _ _ _ _ h.at_, h.col⟩
theorem Blk.cell {cs : Array Value} {T : TypeId} {fr : Nat × Nat} (h : Blk w own k b (.cells cs T fr)) (i : Nat) : w.cell? ⟨b, i, none⟩ = cs[i]? :=
  cell_of_row _ _ _ _ _ _ h.at_
theorem Blk.free {cs : Array Value} {T : TypeId} (h : Blk w own k b (.cells cs T (0, 0))) (i : Nat) : w.frozen? ⟨b, i, none⟩ = false :=
  frozen_of_row _ _ _ _ _ h.at_
theorem Blk.ne {k' b' : Nat} {o' : Obj} (h : Blk w own k b o) (h' : Blk w own k' b' o') (hk : k ≠ k') : b ≠ b' := by
  intro e; subst e; exact hk (h.col.symm.trans h'.col)
theorem Blk.ne_obj {k' b' : Nat} {o' : Obj} (h : Blk w own k b o) (h' : Blk w own k' b' o') (ho : o ≠ o') : b ≠ b' := by
  intro e; subst e; exact ho (Option.some.inj (h.at_.symm.trans h'.at_))
end

/-- A block that is no row of cells is set anew. -/
def setObj (w : World) (r : Nat) (o : Obj) : World := { w with heap := w.heap.setIfInBounds r o }
section
variable {M : Nat → Prop} {w w' : World} {own own' : Nat → Nat} {k b : Nat} {o : Obj}
@[simp] theorem size_setObj (w : World) (r : Nat) (o : Obj) : (setObj w r o).heap.size = w.heap.size := by simp [setObj]
theorem Ext.setObj (h : Ext M w w' own own') {r : Nat} (hm : r < w.heap.size → M (own r)) (o : Obj) : Ext M w (PM.setObj w' r o) own own' :=
  ⟨h.os, h.tape, h.output, by simpa using h.size, h.col,
    fun b hb hn => by
      have : r ≠ b := fun e => hn (by subst e; exact hm hb)
      simp only [PM.setObj, Array.getElem?_setIfInBounds_ne this]
      exact h.same b hb hn⟩
theorem Blk.setObj (h : Blk w own k b o) (o' : Obj) : Blk (PM.setObj w b o') own k b o' :=
  ⟨by simp only [PM.setObj]; rw [Array.getElem?_setIfInBounds_self_of_lt h.lt], h.col⟩
theorem Blk.setObj_other (h : Blk w own k b o) {r : Nat} (hr : b ≠ r) (o' : Obj) : Blk (PM.setObj w r o') own k b o :=
  ⟨by simp only [PM.setObj, Array.getElem?_setIfInBounds_ne (Ne.symm hr)]; exact h.at_, h.col⟩
@[simp] theorem cell?_setObj {a : Addr} (r : Nat) (es : Array MapEntry) (c c' : Nat) (es' : Array MapEntry)
    (hr : w.heap[r]? = some (.map es c)) : (PM.setObj w r (.map es' c')).cell? a = w.cell? a := by
  unfold World.cell?
  by_cases h : r = a.block
  · subst h
    simp only [PM.setObj]
    rw [Array.getElem?_setIfInBounds_self_of_lt (Array.getElem?_eq_some_iff.1 hr).1, hr]
  · simp only [PM.setObj, Array.getElem?_setIfInBounds_ne h]
end

/-- x & c, c not below 0, is from 0 to c. -/
theorem and_le (T : Int) (c : Nat) (hc : c < 9223372036854775808) : ∃ m : Nat, m ≤ c ∧ bits .and .i64 T c = (m : Int) := by
  refine ⟨(BitVec.ofInt 64 T &&& BitVec.ofInt 64 c).toNat, ?_, ?_⟩
  · rw [BitVec.toNat_and]
    refine Nat.le_trans Nat.and_le_right ?_
    simp
    omega
  · have h : (BitVec.ofInt 64 T &&& BitVec.ofInt 64 c).toNat ≤ c := by
      rw [BitVec.toNat_and]
      refine Nat.le_trans Nat.and_le_right ?_
      simp
      omega
    show IntKind.i64.wrap (((BitVec.ofInt 64 T &&& BitVec.ofInt 64 c).toNat : Nat) : Int) = _
    generalize (BitVec.ofInt 64 T &&& BitVec.ofInt 64 c).toNat = q at *
    rw [IntKind.wrap_i64]
    omega

/-! ### Maps keyed by ints, entry by entry -/
/-- Entries: key, value, when it was born. -/
abbrev Ents := List (Int × Value × Nat)
def mobj (l : Ents) : Array MapEntry := (l.map fun e => (⟨.int .i64 e.1, e.2.1, e.2.2⟩ : MapEntry)).toArray
def mget (l : Ents) (k : Int) : Option Value := (l.find? (fun e => e.1 == k)).map (·.2.1)
/-- Where the key stands. -/
def midx : Ents → Int → Nat → Option (Nat × Value)
  | [], _, _ => none
  | e :: l, k, i => if k == e.1 then some (i, e.2.1) else midx l k (i + 1)
theorem findNow_int (l : Ents) (k : Int) : ∀ i, Instr.findNow (.int .i64) (.int .i64 k) (l.map fun e => (⟨.int .i64 e.1, e.2.1, e.2.2⟩ : MapEntry)) i = some (midx l k i) := by
  induction l with
  | nil => intro i; rfl
  | cons e l ih =>
    intro i
    simp only [List.map_cons, Instr.findNow, Instr.sameNow, if_true, midx]
    by_cases h : k = e.1
    · simp [h]
    · have h' : (k == e.1) = false := by simp [h]
      simp [h', ih]
theorem midx_get (l : Ents) (k : Int) : ∀ i, (midx l k i).map (·.2) = mget l k := by
  induction l with
  | nil => intro i; rfl
  | cons e l ih =>
    intro i
    simp only [midx, mget, List.find?_cons]
    by_cases h : k = e.1
    · simp [h]
    · have h' : (k == e.1) = false := by simp [h]
      have h'' : (e.1 == k) = false := by simp [Ne.symm h]
      simp only [h', h'']
      exact ih (i + 1)
theorem midx_shift (l : Ents) (k : Int) : ∀ i, midx l k i = (midx l k 0).map fun p => (p.1 + i, p.2) := by
  induction l with
  | nil => intro i; rfl
  | cons e l ih =>
    intro i
    simp only [midx]
    by_cases h : k = e.1
    · simp [h]
    · have h' : (k == e.1) = false := by simp [h]
      simp only [h']
      rw [ih (i + 1), ih (0 + 1)]
      cases midx l k 0 <;> simp <;> omega
def mdel (l : Ents) (k : Int) : Ents := l.eraseP (fun e => e.1 == k)
def mput (l : Ents) (k : Int) (v : Value) (c : Nat) : Ents :=
  match l with
  | [] => [(k, v, c)]
  | e :: l => if e.1 == k then (k, v, e.2.2) :: l else e :: mput l k v c
def mhas (l : Ents) (k : Int) : Bool := l.any (fun e => e.1 == k)

theorem map_eraseIdx {α β : Type} (f : α → β) (l : List α) : ∀ i, (l.map f).eraseIdx i = (l.eraseIdx i).map f := by
  induction l with
  | nil => intro i; simp
  | cons a l ih => intro i; cases i <;> simp [ih]
theorem map_modify (l : Ents) (k : Int) (v : Value) : ∀ i,
    ((l.map fun e => (⟨.int .i64 e.1, e.2.1, e.2.2⟩ : MapEntry)).modify i fun e => { key := .int .i64 k, val := v, born := e.born }) =
      (l.modify i fun e => (k, v, e.2.2)).map fun e => (⟨.int .i64 e.1, e.2.1, e.2.2⟩ : MapEntry) := by
  induction l with
  | nil => intro i; simp
  | cons a l ih => intro i; cases i <;> simp [ih]
theorem mdel_idx (l : Ents) (k : Int) : ∀ p, midx l k 0 = some p → l.eraseIdx p.1 = mdel l k := by
  induction l with
  | nil => intro p h; simp [midx] at h
  | cons e l ih =>
    intro p h
    simp only [midx] at h
    by_cases hk : k = e.1
    · simp only [hk, beq_self_eq_true, if_true, Option.some.injEq] at h
      subst h
      simp [mdel, hk]
    · have h' : (k == e.1) = false := by simp [hk]
      have h'' : (e.1 == k) = false := by simp [Ne.symm hk]
      simp only [h', Bool.false_eq_true, if_false] at h
      rw [midx_shift] at h
      cases hx : midx l k 0 with
      | none => simp [hx] at h
      | some q =>
        simp [hx] at h
        subst h
        have := ih q hx
        simp [mdel, h'', this] at this ⊢
theorem mdel_none (l : Ents) (k : Int) (h : midx l k 0 = none) : mdel l k = l := by
  have hg := midx_get l k 0
  rw [h] at hg
  unfold mdel
  apply List.eraseP_of_forall_not
  intro e he hk
  simp only [Option.map_none] at hg
  have : mget l k ≠ none := by
    unfold mget
    cases hf : l.find? (fun e => e.1 == k) with
    | none => exact absurd hk (by simpa using List.find?_eq_none.1 hf e he)
    | some _ => simp
  exact this hg.symm
theorem mput_idx (l : Ents) (k : Int) (v : Value) (c : Nat) : ∀ p, midx l k 0 = some p →
    (l.modify p.1 fun e => (k, v, e.2.2)) = mput l k v c ∧ ∃ e, l[p.1]? = some e ∧ e.1 = k := by
  induction l with
  | nil => intro p h; simp [midx] at h
  | cons e l ih =>
    intro p h
    simp only [midx] at h
    by_cases hk : k = e.1
    · simp only [hk, beq_self_eq_true, if_true, Option.some.injEq] at h
      subst h
      simp [mput, hk]
    · have h' : (k == e.1) = false := by simp [hk]
      have h'' : (e.1 == k) = false := by simp [Ne.symm hk]
      simp only [h', Bool.false_eq_true, if_false] at h
      rw [midx_shift] at h
      cases hx : midx l k 0 with
      | none => simp [hx] at h
      | some q =>
        simp [hx] at h
        subst h
        have := ih q hx
        simp only [List.modify_succ_cons, this.1, mput, h'', Bool.false_eq_true, if_false, List.getElem?_cons_succ, true_and]
        exact this.2
theorem mput_none (l : Ents) (k : Int) (v : Value) (c : Nat) (h : midx l k 0 = none) : mput l k v c = l ++ [(k, v, c)] := by
  induction l with
  | nil => rfl
  | cons e l ih =>
    simp only [midx] at h
    by_cases hk : k = e.1
    · simp [hk] at h
    · have h' : (k == e.1) = false := by simp [hk]
      have h'' : (e.1 == k) = false := by simp [Ne.symm hk]
      simp only [h', Bool.false_eq_true, if_false] at h
      rw [midx_shift] at h
      have : midx l k 0 = none := by
        cases hx : midx l k 0 with
        | none => rfl
        | some q => simp [hx] at h
      simp [mput, h'', ih this]

section
variable {P : Program} {T K E : TypeId} {r c : Nat} {l : Ents} {w : World} {z : Value}
theorem run_getMap (h : w.heap[r]? = some (.map (mobj l) c)) : (getObj r).run P w = .ok (.map (mobj l) c) w := by
  simp [getObj, Sem.run, h]
theorem run_checkKey_int (hK : P.underlying K = some (.int .i64)) (b : Bool) (n : Nat) (k : Int) : (Instr.checkKey b (n + 1) K (.int .i64 k)).run P w = .ok () w := by
  simp [Instr.checkKey, run_underlying hK]
theorem run_findKey_int (hK : P.underlying K = some (.int .i64)) (k : Int) : (Instr.findKey K (.int .i64 k) (mobj l).toList).run P w = .ok (midx l k 0) w := by
  have := findNow_int l k 0
  simp only [mobj, Instr.findKey]
  simp [run_underlying hK, this]
/-- v := m[k] -/
theorem run_look (hT : P.underlying T = some (.map K E)) (hK : P.underlying K = some (.int .i64)) (hz : ∀ w, (zeroValue E).run P w = .ok z w)
    (h : w.heap[r]? = some (.map (mobj l) c)) (k : Int) :
    (Instr.lookup T (.map (some r)) (.int .i64 k) false).run P w = .ok ((mget l k).getD z) w := by
  simp only [Instr.lookup, Sem.run_bind, run_underlying hT, Result.andThen_ok, run_getMap h, Sem.run_pure, run_checkKey_int hK, run_findKey_int hK]
  rw [← midx_get l k 0]
  cases midx l k 0 with
  | none => simp [hz]
  | some p => simp
/-- v, ok := m[k] -/
theorem run_look_ok (hT : P.underlying T = some (.map K E)) (hK : P.underlying K = some (.int .i64)) (hz : ∀ w, (zeroValue E).run P w = .ok z w)
    (h : w.heap[r]? = some (.map (mobj l) c)) (k : Int) :
    (Instr.lookup T (.map (some r)) (.int .i64 k) true).run P w = .ok (.tuple #[(mget l k).getD z, .bool (mget l k).isSome]) w := by
  simp only [Instr.lookup, Sem.run_bind, run_underlying hT, Result.andThen_ok, run_getMap h, Sem.run_pure, run_checkKey_int hK, run_findKey_int hK]
  rw [← midx_get l k 0]
  cases midx l k 0 with
  | none => simp [hz]
  | some p => simp
/-- delete(m, k) -/
theorem run_del (hT : P.underlying T = some (.map K E)) (hK : P.underlying K = some (.int .i64)) (ty X : TypeId)
    (h : w.heap[r]? = some (.map (mobj l) c)) (k : Int) :
    (Builtin.delete_ #[T, X] ty #[.map (some r), .int .i64 k]).run P w = .ok (.tuple #[]) (setObj w r (.map (mobj (mdel l k)) c)) := by
  have hset : ∀ o : Obj, (Go.setObj r o).run P w = .ok () (setObj w r o) := by intro o; simp [Go.setObj, Sem.run, h, setObj]
  simp [Builtin.delete_, run_underlying hT, run_getMap h, run_checkKey_int hK, run_findKey_int hK]
  cases hx : midx l k 0 with
  | none => simp [hset, mdel_none l k hx]
  | some p =>
    have := mdel_idx l k p hx
    simp [hset, ← this, mobj, map_eraseIdx]
/-- m[k] = v -/
theorem run_put (hT : P.underlying T = some (.map K E)) (hK : P.underlying K = some (.int .i64))
    (h : w.heap[r]? = some (.map (mobj l) c)) (k : Int) (v : Value) :
    ∃ c', (Instr.mapUpdate T (.map (some r)) (.int .i64 k) v).run P w = .ok () (setObj w r (.map (mobj (mput l k v c)) c')) := by
  have hset : ∀ o : Obj, (Go.setObj r o).run P w = .ok () (setObj w r o) := by intro o; simp [Go.setObj, Sem.run, h, setObj]
  simp [Instr.mapUpdate, run_underlying hT, run_getMap h, run_checkKey_int hK, run_findKey_int hK]
  cases hx : midx l k 0 with
  | none => refine ⟨c + 1, ?_⟩; simp [hset, mput_none l k v c hx, mobj]
  | some p =>
    obtain ⟨h1, e, he, hk⟩ := mput_idx l k v c p hx
    refine ⟨c, ?_⟩
    have hkey : ((mobj l)[p.1]?.map (·.key)).getD (.int .i64 k) = .int .i64 k := by simp [mobj, he, hk]
    have hstay : (Instr.keyThatStays (.int .i64 k) (.int .i64 k)).run P w = .ok (.int .i64 k) w := by simp [Instr.keyThatStays, Instr.sameBits]
    simp only [Sem.run_bind, hkey, hstay, Result.andThen_ok, hset, ← h1]
    simp [mobj, map_modify]
/-- m[k] = v at a new key -/
theorem run_put_new (hT : P.underlying T = some (.map K E)) (hK : P.underlying K = some (.int .i64))
    (h : w.heap[r]? = some (.map (mobj l) c)) (k : Int) (hk : mget l k = none) (v : Value) :
    (Instr.mapUpdate T (.map (some r)) (.int .i64 k) v).run P w = .ok () (setObj w r (.map (mobj (l ++ [(k, v, c)])) (c + 1))) := by
  have hset : ∀ o : Obj, (Go.setObj r o).run P w = .ok () (setObj w r o) := by intro o; simp [Go.setObj, Sem.run, h, setObj]
  have hx : midx l k 0 = none := by
    have := midx_get l k 0
    rw [hk] at this
    simpa using this
  simp [Instr.mapUpdate, run_underlying hT, run_getMap h, run_checkKey_int hK, run_findKey_int hK, hx, hset]
  simp [mobj]
/-- len(m) -/
theorem run_mlen (hT : P.underlying T = some (.map K E)) (ty : TypeId) (h : w.heap[r]? = some (.map (mobj l) c)) :
    (Builtin.len_ #[T] ty #[.map (some r)]).run P w = .ok (.int .i64 l.length) w := by
  simp [Builtin.len_, run_underlying hT, run_getMap h, mobj, goInt]
end
end Go.PM
