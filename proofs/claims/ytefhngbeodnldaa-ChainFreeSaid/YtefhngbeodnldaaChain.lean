/- Layer 5: what each function of package chain does, told over plain bases and operations. -/
import Derived.Test.YtefhngbeodnldaaChainSl
import Derived.Test.YtefhngbeodnldaaEpochRetire
import Derived.Test.YtefhngbeodnldaaEpochNew
import Derived.Test.YtefhngbeodnldaaPlan5
set_option maxRecDepth 20000
set_option linter.unusedVariables false
set_option linter.unusedSimpArgs false
namespace Go.Proofs.Ytefhngbeodnldaa
open Go.RowKit Go.PM

/-- A plain base: its block, how many chains. -/
structure BV where
  block : Int
  chains : Int
/-- A plain operation. -/
structure CO where
  t : Int
  chain : Int
  what : Int
  value : Int
  next : Int
  old : Int
  count : Int
  found : List Int
  list : List Int
  fresh : Int
  done : Bool
  err : Int
  ok : Bool
  stamp : Int
  values : List Int
def CO.cells (b : Nat) (O : CO) (fv lv vv : Value) : Array Value :=
  #[.pointer (some ⟨b, 0, none⟩), .int .i64 O.t, .int .i64 O.chain, .int .i64 O.what, .int .i64 O.value, .int .i64 O.next, .int .i64 O.old, .int .i64 O.count, fv, lv, .int .i64 O.fresh, .bool O.done, .int .i64 O.err, .bool O.ok, .int .i64 O.stamp, vv]
/-- At o, of colour k, lies an operation that is O, of the base at b; its rows are of the colours k + 1, k + 2, k + 3. -/
structure CX (w : World) (own : Nat → Nat) (k o b : Nat) (O : CO) (fv lv vv : Value) : Prop where
  box : Blk w own k o (.cells (O.cells b fv lv vv) 68 (0, 0))
  found : Row w own (k + 1) 2 1 fv O.found.length (irow O.found)
  list : Row w own (k + 2) 2 1 lv O.list.length (irow O.list)
  values : Row w own (k + 3) 2 1 vv O.values.length (irow O.values)
def CAt (w : World) (own : Nat → Nat) (k o b : Nat) (O : CO) : Prop := ∃ fv lv vv, CX w own k o b O fv lv vv
def BaseAt (w : World) (own : Nat → Nat) (k b a y : Nat) (B : BV) : Prop := Blk w own k b (.cells #[.pointer (some ⟨a, 0, none⟩), .pointer (some ⟨y, 0, none⟩), .int .i64 B.block, .int .i64 B.chains] 70 (0, 0))
def OpC (k : Nat) (c : Nat) : Prop := k ≤ c ∧ c ≤ k + 3
theorem CX.ext {M : Nat → Prop} {w w' : World} {own own' : Nat → Nat} {k o b : Nat} {O : CO} {fv lv vv : Value} (h : CX w own k o b O fv lv vv) (e : Ext M w w' own own') (hk : ∀ c, k ≤ c → c ≤ k + 3 → ¬ M c) : CX w' own' k o b O fv lv vv :=
  ⟨h.box.ext e (hk k (by omega) (by omega)), h.found.ext e (hk _ (by omega) (by omega)), h.list.ext e (hk _ (by omega) (by omega)), h.values.ext e (hk _ (by omega) (by omega))⟩
theorem CAt.ext {M : Nat → Prop} {w w' : World} {own own' : Nat → Nat} {k o b : Nat} {O : CO} (h : CAt w own k o b O) (e : Ext M w w' own own') (hk : ∀ c, k ≤ c → c ≤ k + 3 → ¬ M c) : CAt w' own' k o b O := by
  obtain ⟨fv, lv, vv, h⟩ := h
  exact ⟨fv, lv, vv, h.ext e hk⟩
theorem CO.ne64 (b : Nat) (O : CO) (fv lv vv : Value) : ∀ cs, (Obj.cells (O.cells b fv lv vv) 68 (0, 0)) ≠ .cells cs 2 (0, 0) := by
  intro cs h
  injection h with _ h
  cases h
section
variable {w : World} {own : Nat → Nat} {k o b : Nat} {O : CO} {fv lv vv : Value}
/-- A field is set. -/
theorem CX.set (h : CX w own k o b O fv lv vv) (i : Nat) (v : Value) {O' : CO} {fv' lv' vv' : Value} (hc : (O.cells b fv lv vv).setIfInBounds i v = O'.cells b fv' lv' vv')
    (hf : Row w own (k + 1) 2 1 fv' O'.found.length (irow O'.found)) (hl : Row w own (k + 2) 2 1 lv' O'.list.length (irow O'.list)) (hv : Row w own (k + 3) 2 1 vv' O'.values.length (irow O'.values)) :
    CX (w.setCell ⟨o, i, none⟩ v) own k o b O' fv' lv' vv' := by
  refine ⟨?_, hf.setCell_other h.box.at_ (CO.ne64 _ _ _ _ _) v, hl.setCell_other h.box.at_ (CO.ne64 _ _ _ _ _) v, hv.setCell_other h.box.at_ (CO.ne64 _ _ _ _ _) v⟩
  have := Blk.setCell h.box i v
  rw [hc] at this
  exact this
theorem CX.sets (h : CX w own k o b O fv lv vv) (i : Nat) (v : Value) {O' : CO} (hc : (O.cells b fv lv vv).setIfInBounds i v = O'.cells b fv lv vv) (h1 : O'.found = O.found := by rfl) (h2 : O'.list = O.list := by rfl) (h3 : O'.values = O.values := by rfl) :
    CX (w.setCell ⟨o, i, none⟩ v) own k o b O' fv lv vv :=
  h.set i v hc (by rw [h1]; exact h.found) (by rw [h2]; exact h.list) (by rw [h3]; exact h.values)
theorem extO {M : Nat → Prop} {w0 w : World} {own0 own : Nat → Nat} (h : Ext M w0 w own0 own) (hm : o < w0.heap.size → M (own0 o)) (i : Nat) (v : Value) : Ext M w0 (w.setCell ⟨o, i, none⟩ v) own0 own := h.setCell (a := ⟨o, i, none⟩) hm v
theorem CX.y (h : CX w own k o b O fv lv vv) :
    (w.cell? ⟨o, 0, none⟩ = some (.pointer (some ⟨b, 0, none⟩)) ∧ w.cell? ⟨o, 1, none⟩ = some (.int .i64 O.t) ∧ w.cell? ⟨o, 2, none⟩ = some (.int .i64 O.chain) ∧ w.cell? ⟨o, 3, none⟩ = some (.int .i64 O.what) ∧ w.cell? ⟨o, 4, none⟩ = some (.int .i64 O.value) ∧ w.cell? ⟨o, 5, none⟩ = some (.int .i64 O.next) ∧
      w.cell? ⟨o, 6, none⟩ = some (.int .i64 O.old) ∧ w.cell? ⟨o, 7, none⟩ = some (.int .i64 O.count) ∧ w.cell? ⟨o, 8, none⟩ = some fv ∧ w.cell? ⟨o, 9, none⟩ = some lv ∧ w.cell? ⟨o, 10, none⟩ = some (.int .i64 O.fresh) ∧ w.cell? ⟨o, 11, none⟩ = some (.bool O.done) ∧
      w.cell? ⟨o, 12, none⟩ = some (.int .i64 O.err) ∧ w.cell? ⟨o, 13, none⟩ = some (.bool O.ok) ∧ w.cell? ⟨o, 14, none⟩ = some (.int .i64 O.stamp) ∧ w.cell? ⟨o, 15, none⟩ = some vv) :=
  ⟨h.box.cell 0, h.box.cell 1, h.box.cell 2, h.box.cell 3, h.box.cell 4, h.box.cell 5, h.box.cell 6, h.box.cell 7, h.box.cell 8, h.box.cell 9, h.box.cell 10, h.box.cell 11, h.box.cell 12, h.box.cell 13, h.box.cell 14, h.box.cell 15⟩
theorem CX.f (h : CX w own k o b O fv lv vv) : w.frozen? ⟨o, 5, none⟩ = false ∧ w.frozen? ⟨o, 6, none⟩ = false ∧ w.frozen? ⟨o, 7, none⟩ = false ∧ w.frozen? ⟨o, 8, none⟩ = false ∧ w.frozen? ⟨o, 9, none⟩ = false ∧ w.frozen? ⟨o, 10, none⟩ = false ∧ w.frozen? ⟨o, 11, none⟩ = false ∧
    w.frozen? ⟨o, 12, none⟩ = false ∧ w.frozen? ⟨o, 13, none⟩ = false ∧ w.frozen? ⟨o, 14, none⟩ = false ∧ w.frozen? ⟨o, 15, none⟩ = false :=
  ⟨h.box.free 5, h.box.free 6, h.box.free 7, h.box.free 8, h.box.free 9, h.box.free 10, h.box.free 11, h.box.free 12, h.box.free 13, h.box.free 14, h.box.free 15⟩
theorem BaseAt.y {a y : Nat} {B : BV} (h : BaseAt w own k b a y B) : w.cell? ⟨b, 0, none⟩ = some (.pointer (some ⟨a, 0, none⟩)) ∧ w.cell? ⟨b, 1, none⟩ = some (.pointer (some ⟨y, 0, none⟩)) ∧ w.cell? ⟨b, 2, none⟩ = some (.int .i64 B.block) ∧ w.cell? ⟨b, 3, none⟩ = some (.int .i64 B.chains) :=
  ⟨h.cell 0, h.cell 1, h.cell 2, h.cell 3⟩
/-! ### Over, Done, stamp, fail, Answer -/
theorem CoOver_any (h : CAt w own k o b O) : Calls Try.prog 11 #[.pointer (some ⟨o, 0, none⟩)] w fun e w' => e = .returned (.bool (O.next == 11)) ∧ w' = w := by
  obtain ⟨fv, lv, vv, h⟩ := h
  obtain ⟨c0, c1, c2, c3, c4, c5, c6, c7, c8, c9, c10, c11, c12, c13, c14, c15⟩ := h.y
  clear h
  go_enter Try.func11, Try.ntmps11
  go_wp2_with fail
  go_ret
  exact ⟨rfl, rfl⟩
theorem CoDone_any (h : CAt w own k o b O) : Calls Try.prog 33 #[.pointer (some ⟨o, 0, none⟩)] w fun e w' => e = .returned (.bool O.done) ∧ w' = w := by
  obtain ⟨fv, lv, vv, h⟩ := h
  obtain ⟨c0, c1, c2, c3, c4, c5, c6, c7, c8, c9, c10, c11, c12, c13, c14, c15⟩ := h.y
  clear h
  go_enter Try.func33, Try.ntmps33
  go_wp2_with fail
  go_ret
  exact ⟨rfl, rfl⟩
def hd0 (l : List Int) : Int := l.headD 0
theorem head_get : ∀ (l : List Int) (h : 0 < l.length), l[0] = hd0 l
  | [], h => by simp at h
  | x :: l, _ => rfl
def CO.st (O : CO) : Int := hd0 O.found
theorem CoStamp_any (h : CAt w own k o b O) : Calls Try.prog 39 #[.pointer (some ⟨o, 0, none⟩)] w fun e w' => e = .returned (.int .i64 O.st) ∧ w' = w := by
  obtain ⟨fv, lv, vv, h⟩ := h
  obtain ⟨c0, c1, c2, c3, c4, c5, c6, c7, c8, c9, c10, c11, c12, c13, c14, c15⟩ := h.y
  have hf := h.found
  clear h
  obtain ⟨a, c, rfl⟩ := hf.shape
  by_cases h0 : O.found.length = 0
  · have hn : O.found = [] := List.length_eq_zero_iff.1 h0
    have HX := Lib.hid (show O.st = 0 by unfold CO.st; rw [hn]; rfl)
    rw [h0] at c8
    clear hf hn h0
    go_enter Try.func39, Try.ntmps39
    go_wp2_with fail
    go_ret
    exact ⟨by rw [HX.out]; rfl, rfl⟩
  · obtain ⟨g, rfl, hg, _, _, hx, hc⟩ := hf.irow_at (i := 0) (by omega)
    have hb : ((O.found.length : Int) == 0) = false := by rw [beq_eq_false_iff_ne]; omega
    have hlt : (0 : Int) < (O.found.length : Int) := by omega
    rw [show O.found[0]'(by omega) = O.st from head_get O.found (by omega)] at hc
    clear hf hx h0
    generalize O.found.length = n at *
    generalize O.st = st at *
    go_enter Try.func39, Try.ntmps39
    go_wp2_with fail
    go_ret
    exact ⟨rfl, rfl⟩
/-- A call leaves the operation's blocks turned, and nothing else. -/
def OPost (w : World) (own : Nat → Nat) (k o b : Nat) (O' : CO) (w' : World) : Prop := Ext (OpC k) w w' own own ∧ CAt w' own k o b O'
/-- The answer is set. -/
theorem CX.ans (h : CX w own k o b O fv lv vv) (er : Int) (ok : Bool) (st : Int) {vv' : Value} {vs : List Int} (hv : Row w own (k + 3) 2 1 vv' vs.length (irow vs)) :
    CX ((((w.setCell ⟨o, 12, none⟩ (.int .i64 er)).setCell ⟨o, 13, none⟩ (.bool ok)).setCell ⟨o, 14, none⟩ (.int .i64 st)).setCell ⟨o, 15, none⟩ vv') own k o b { O with err := er, ok := ok, stamp := st, values := vs } fv lv vv' ∧
      Ext (OpC k) w ((((w.setCell ⟨o, 12, none⟩ (.int .i64 er)).setCell ⟨o, 13, none⟩ (.bool ok)).setCell ⟨o, 14, none⟩ (.int .i64 st)).setCell ⟨o, 15, none⟩ vv') own own := by
  have h1 := h.sets 12 (.int .i64 er) (O' := { O with err := er }) rfl
  have h2 := h1.sets 13 (.bool ok) (O' := { O with err := er, ok := ok }) rfl
  have h3 := h2.sets 14 (.int .i64 st) (O' := { O with err := er, ok := ok, stamp := st }) rfl
  have hv3 := ((hv.setCell_other h.box.at_ (CO.ne64 _ _ _ _ _) (.int .i64 er) (a := ⟨o, 12, none⟩)).setCell_other h1.box.at_ (CO.ne64 _ _ _ _ _) (.bool ok) (a := ⟨o, 13, none⟩)).setCell_other h2.box.at_ (CO.ne64 _ _ _ _ _) (.int .i64 st) (a := ⟨o, 14, none⟩)
  have h4 := h3.set 15 vv' (O' := { O with err := er, ok := ok, stamp := st, values := vs }) (fv' := fv) (lv' := lv) (vv' := vv') rfl h3.found h3.list hv3
  have hm : o < w.heap.size → OpC k (own o) := fun _ => by rw [h.box.col]; exact ⟨by omega, by omega⟩
  exact ⟨h4, extO (extO (extO (extO Ext.refl hm _ _) hm _ _) hm _ _) hm _ _⟩
theorem CX.nxt (h : CX w own k o b O fv lv vv) (n : Int) : CX (w.setCell ⟨o, 5, none⟩ (.int .i64 n)) own k o b { O with next := n } fv lv vv ∧ Ext (OpC k) w (w.setCell ⟨o, 5, none⟩ (.int .i64 n)) own own :=
  ⟨h.sets 5 (.int .i64 n) (O' := { O with next := n }) rfl, extO Ext.refl (fun _ => by rw [h.box.col]; exact ⟨by omega, by omega⟩) _ _⟩
def CO.fail (O : CO) (e : Int) : CO := { O with err := e, ok := false, stamp := 0, values := [], next := if 0 < O.fresh then 8 else 10 }
set_option maxHeartbeats 1000000 in
theorem CoFail_any (h : CAt w own k o b O) (er : Int) : Calls Try.prog 42 #[.pointer (some ⟨o, 0, none⟩), .int .i64 er] w fun e w' => (∃ r, e = .returned r) ∧ OPost w own k o b (O.fail er) w' := by
  obtain ⟨fv, lv, vv, h⟩ := h
  obtain ⟨c0, c1, c2, c3, c4, c5, c6, c7, c8, c9, c10, c11, c12, c13, c14, c15⟩ := h.y
  obtain ⟨f5, f6, f7, f8, f9, f10, f11, f12, f13, f14, f15⟩ := h.f
  obtain ⟨h1, e1⟩ := h.ans er false 0 (vs := []) (Row.nil w own (k + 3) 2 1)
  obtain ⟨h2, e2⟩ := h1.nxt 10
  obtain ⟨h3, e3⟩ := h2.nxt 8
  by_cases hf : 0 < O.fresh
  · have HP := Lib.hid (show OPost w own k o b (O.fail er) _ from ⟨(e1.trans e2).trans e3, _, _, _, by unfold CO.fail; rw [if_pos hf]; exact h3⟩)
    have hb : (0 < O.fresh) = True := by simp [hf]
    clear h h1 e1 h2 e2 h3 e3
    go_enter Try.func42, Try.ntmps42
    go_wp2_with fail
    go_end0
    exact ⟨⟨_, rfl⟩, HP.out⟩
  · have HP := Lib.hid (show OPost w own k o b (O.fail er) _ from ⟨e1.trans e2, _, _, _, by unfold CO.fail; rw [if_neg hf]; exact h2⟩)
    clear h h1 e1 h2 e2 h3 e3
    go_enter Try.func42, Try.ntmps42
    go_wp2_with fail
    go_end0
    exact ⟨⟨_, rfl⟩, HP.out⟩
/-- What an operation is answered: the cells. -/
structure AnsV where
  err : Int
  ok : Bool
  stamp : Int
  values : List Int
def CO.answer (O : CO) : AnsV := if O.next = 11 then ⟨O.err, O.ok, O.stamp, O.values⟩ else ⟨0, false, 0, []⟩
def AnsAt (w : World) (v : Value) (A : AnsV) : Prop := ∃ a l c, v = .agg #[.int .i64 A.err, .bool A.ok, .int .i64 A.stamp, .slice a l c] ∧ Vw w (.slice a l c) A.values
theorem ext_same {M : Nat → Prop} {w w' : World} (own : Nat → Nat) (h : Below w.heap.size w w') : Ext M w w' own own := ⟨h.os, h.tape, h.output, h.size, fun _ _ => rfl, fun b hb _ => h.block b hb⟩
theorem blk_same {w w' : World} {own : Nat → Nat} {k b : Nat} {o : Obj} (h : Blk w own k b o) (e : Below w.heap.size w w') : Blk w' own k b o := ⟨by rw [e.block b h.lt]; exact h.at_, h.col⟩
set_option maxHeartbeats 1000000 in
theorem CoAnswer_any (h : CAt w own k o b O) (hl : O.values.length ≤ 1000) : Calls Try.prog 10 #[.pointer (some ⟨o, 0, none⟩)] w fun e w' => ∃ v, e = .returned v ∧ AnsAt w' v O.answer ∧ Below w.heap.size w w' := by
  have HO := Lib.hid (fun w2 (hB : Below w.heap.size w w2) => CoOver_any (h.ext (M := fun _ => False) (ext_same own hB) (fun _ _ _ h => h)))
  obtain ⟨fv, lv, vv, h⟩ := h
  obtain ⟨c0, c1, c2, c3, c4, c5, c6, c7, c8, c9, c10, c11, c12, c13, c14, c15⟩ := h.y
  have hol := h.box.lt
  have HV := Lib.hid (Row.vw0 h.values rfl hl)
  obtain ⟨va, vc, rfl⟩ := h.values.shape
  clear h
  by_cases h11 : O.next = 11
  · have HA := Lib.hid (show O.answer = ⟨O.err, O.ok, O.stamp, O.values⟩ from if_pos h11)
    have b1 : (O.next == 11) = true := by simp [h11]
    clear h11
    go_enter Try.func10, Try.ntmps10
    go_wp2_with fail
    refine (HO.out _ ((Below.refl _ _).alloc (Nat.le_refl _) _)).mono ?_
    rintro e w1 ⟨rfl, rfl⟩
    rw [b1]
    go_wp2_with fail
    have hb0 := Blk.new (own := PM.ow (fun _ => 9) (w.heap.size + 2) 8) (k := 9) w (.cells #[.int .i64 0, .bool false, .int .i64 0, .slice none 0 0] 41) (ow_lt (by omega))
    have hsz := World.size_alloc w (.cells #[.int .i64 0, .bool false, .int .i64 0, .slice none 0 0] 41)
    have hB0 : Below w.heap.size w (w.alloc (.cells #[.int .i64 0, .bool false, .int .i64 0, .slice none 0 0] 41)) := (Below.refl _ _).alloc (Nat.le_refl _) _
    generalize w.alloc (.cells #[.int .i64 0, .bool false, .int .i64 0, .slice none 0 0] 41) = wa at *
    have hb1 := Blk.new (own := PM.ow (fun _ => 9) (w.heap.size + 2) 8) (k := 9) wa (.cells #[.int .i64 O.err, .bool O.ok, .int .i64 O.stamp, .slice va O.values.length vc] 41) (ow_lt (by omega))
    rw [hsz] at hb1
    have hb0' := hb0.alloc (.cells #[.int .i64 O.err, .bool O.ok, .int .i64 O.stamp, .slice va O.values.length vc] 41)
    have hB1 := hB0.alloc hB0.size (.cells #[.int .i64 O.err, .bool O.ok, .int .i64 O.stamp, .slice va O.values.length vc] 41)
    have hsz1 := World.size_alloc wa (.cells #[.int .i64 O.err, .bool O.ok, .int .i64 O.stamp, .slice va O.values.length vc] 41)
    rw [hsz] at hsz1
    generalize wa.alloc (.cells #[.int .i64 O.err, .bool O.ok, .int .i64 O.stamp, .slice va O.values.length vc] 41) = wb at *
    clear hb0 hB0 hsz
    refine (Clone_any (Vw.below HV.out hB1) (PM.ow (fun _ => 9) (w.heap.size + 2) 8) (k := 8) (fun b hb => ow_ge (by omega))).mono ?_
    rintro e w2 ⟨v', rfl, hB2, hr⟩
    obtain ⟨a', c', rfl⟩ := hr.shape
    have hx := blk_same hb0' hB2
    have hy := blk_same hb1 hB2
    have hE : Ext (fun c => c = 9) w2 (((((w2.setCell ⟨w.heap.size + 1, 3, none⟩ (.slice a' O.values.length c')).setCell ⟨w.heap.size, 0, none⟩ (.int .i64 O.err)).setCell ⟨w.heap.size, 1, none⟩ (.bool O.ok)).setCell ⟨w.heap.size, 2, none⟩ (.int .i64 O.stamp)).setCell ⟨w.heap.size, 3, none⟩ (.slice a' O.values.length c')) (PM.ow (fun _ => 9) (w.heap.size + 2) 8) (PM.ow (fun _ => 9) (w.heap.size + 2) 8) :=
      extO (extO (extO (extO (extO Ext.refl (fun _ => hy.col) _ _) (fun _ => hx.col) _ _) (fun _ => hx.col) _ _) (fun _ => hx.col) _ _) (fun _ => hx.col) _ _
    have hEw := extO (extO (extO (extO (extO (ext_same (M := fun _ => False) (fun _ => 0) (hB1.trans (hB2.mono hB1.size))) (o := w.heap.size + 1) (fun h => by omega) 3 (.slice a' O.values.length c')) (o := w.heap.size) (fun h => by omega) 0 (.int .i64 O.err)) (o := w.heap.size) (fun h => by omega) 1 (.bool O.ok)) (o := w.heap.size) (fun h => by omega) 2 (.int .i64 O.stamp)) (o := w.heap.size) (fun h => by omega) 3 (.slice a' O.values.length c')
    have hend := (((((hx.setCell_other (a := ⟨w.heap.size + 1, 3, none⟩) (by show ¬ w.heap.size = w.heap.size + 1; omega) (.slice a' O.values.length c')).setCell 0 (.int .i64 O.err)).setCell 1 (.bool O.ok)).setCell 2 (.int .i64 O.stamp)).setCell 3 (.slice a' O.values.length c'))
    have HEND := Lib.hid hend.at_
    have HP := Lib.hid (show ∃ v, (Ending.returned (.agg #[.int .i64 O.err, .bool O.ok, .int .i64 O.stamp, .slice a' O.values.length c'])) = .returned v ∧ AnsAt _ v O.answer ∧ Below w.heap.size w _ from
      ⟨_, rfl, ⟨a', _, c', by rw [HA.out], by rw [HA.out]; exact Row.vw0 (hr.ext hE (by decide)) rfl hl⟩, hEw.below fun _ _ h => h⟩)
    have d0 := hx.free 0
    have d1 := hx.free 1
    have d2 := hx.free 2
    have d3 := hx.free 3
    have hxl := hx.lt
    have x0 : w2.cell? ⟨w.heap.size, 0, none⟩ = some (.int .i64 0) := hx.cell 0
    have x1 : w2.cell? ⟨w.heap.size, 1, none⟩ = some (.bool false) := hx.cell 1
    have x2 : w2.cell? ⟨w.heap.size, 2, none⟩ = some (.int .i64 0) := hx.cell 2
    have x3 : w2.cell? ⟨w.heap.size, 3, none⟩ = some (.slice none 0 0) := hx.cell 3
    have g3 := hy.free 3
    have hyl := hy.lt
    have y0 : w2.cell? ⟨w.heap.size + 1, 0, none⟩ = some (.int .i64 O.err) := hy.cell 0
    have y1 : w2.cell? ⟨w.heap.size + 1, 1, none⟩ = some (.bool O.ok) := hy.cell 1
    have y2 : w2.cell? ⟨w.heap.size + 1, 2, none⟩ = some (.int .i64 O.stamp) := hy.cell 2
    have y3 : w2.cell? ⟨w.heap.size + 1, 3, none⟩ = some (.slice va O.values.length vc) := hy.cell 3
    clear hx hy hE hEw hend hr hB1 hB2 hb0' hb1 hsz1 HA HO HV c0 c1 c2 c3 c4 c5 c6 c7 c8 c9 c10 c11 c12 c13 c14 c15 hl
    go_wp2_with fail
    trace_state
    ((try simp only [Exit.inBlock, Exit.then]); refine bodyPost_ret (results_cell_row rfl _ _ ((w.heap.size)) 41 _ _ _ rfl (HEND.out) Try.underlying41 rfl (by kernel_rfl)) rfl ?_)
    exact HP.out
  · have HA := Lib.hid (show O.answer = ⟨0, false, 0, []⟩ from if_neg h11)
    have b1 : (O.next == 11) = false := by simp [h11]
    clear h11
    go_enter Try.func10, Try.ntmps10
    go_wp2_with fail
    refine (HO.out _ ((Below.refl _ _).alloc (Nat.le_refl _) _)).mono ?_
    rintro e w1 ⟨rfl, rfl⟩
    rw [b1]
    go_wp2_with fail
    ((try simp only [Exit.inBlock, Exit.then]); refine bodyPost_ret (results_cell_row rfl _ _ ((w.heap.size)) 41 _ _ _ rfl ((heap_alloc_new w _)) Try.underlying41 rfl (by kernel_rfl)) rfl ?_)
    exact ⟨_, rfl, ⟨none, 0, 0, by rw [HA.out], by rw [HA.out]; exact ⟨by simp, .inl ⟨rfl, rfl⟩⟩⟩, (Below.refl _ _).alloc (Nat.le_refl _) _⟩
end
end Go.Proofs.Ytefhngbeodnldaa
