/- package code: instructions as plain data, in memory; maker.add, maker.slot. -/
import Derived.Test.YtamiidklcadkmaaBaseTerm
import Derived.Test.YtamiidklcadkmaaPlan4
set_option maxRecDepth 20000
set_option linter.unusedVariables false
set_option linter.unusedSimpArgs false
namespace Go.Proofs.Ytamiidklcadkmaa
open Go.RowKit Go.PM
/-- An instruction. -/
structure In where
  op : Int
  a : Int
  t : Tm
def zeroT : Tm := .mk 0 noStr 0 []
/-- Cells that are instructions, one behind the other. -/
def ICells (w : World) (C : Nat → Prop) : List In → List Value → Prop
  | [], xs => xs = []
  | i :: is, xs => ∃ sl xs', xs = .int .i64 i.op :: .int .i64 i.a :: .int .i64 i.t.k :: .string i.t.s :: .int .i64 i.t.x :: sl :: xs' ∧ (rng64 i.t.k ∧ i.t.s.size ≤ 9223372036854775807 ∧ rng64 i.t.x ∧ Tm.At w C i.t sl) ∧ ICells w C is xs'
theorem ICells.carry {w w' : World} {C C' : Nat → Prop} (hs : w.heap.size ≤ w'.heap.size) (hc : ∀ g, g < w.heap.size → C g → w'.heap[g]? = w.heap[g]? ∧ C' g) : ∀ {is : List In} {xs : List Value}, ICells w C is xs → ICells w' C' is xs
  | [], _, h => h
  | t :: ts, _, h => by
    unfold ICells at h ⊢
    obtain ⟨sl, xs', rfl, ⟨h1, h2, h3, h4⟩, h⟩ := h
    exact ⟨sl, xs', rfl, ⟨h1, h2, h3, Tm.at_carry hs hc t.t sl h4⟩, ICells.carry hs hc h⟩
theorem ICells.snoc {w : World} {C : Nat → Prop} {i : In} {k : Int} {s : ByteArray} {x : Int} {sl : Value} (hv : TmV w C i.t (.agg #[.int .i64 k, .string s, .int .i64 x, sl])) : ∀ {is : List In} {xs : List Value}, ICells w C is xs → ICells w C (is ++ [i]) (xs ++ [.int .i64 i.op, .int .i64 i.a, .int .i64 k, .string s, .int .i64 x, sl])
  | [], _, h => by
    unfold ICells at h
    subst h
    obtain ⟨e0, e1, e2, h1, h2, h3, h4⟩ := TmV_at hv
    subst e0
    subst e1
    subst e2
    exact ⟨_, [], rfl, ⟨h1, h2, h3, h4⟩, rfl⟩
  | t' :: ts, _, h => by
    unfold ICells at h
    obtain ⟨sl', xs', rfl, h1, h⟩ := h
    exact ⟨sl', _, rfl, h1, ICells.snoc hv h⟩
theorem ICells.get {w : World} {C : Nat → Prop} : ∀ {is : List In} {xs : List Value}, ICells w C is xs → ∀ {i : Nat} (h : i < is.length),
    xs[i * 6]? = some (.int .i64 is[i].op) ∧ xs[i * 6 + 1]? = some (.int .i64 is[i].a) ∧ xs[i * 6 + 2]? = some (.int .i64 is[i].t.k) ∧ xs[i * 6 + 3]? = some (.string is[i].t.s) ∧ xs[i * 6 + 4]? = some (.int .i64 is[i].t.x) ∧ ∃ sl, xs[i * 6 + 5]? = some sl ∧ rng64 is[i].t.k ∧ is[i].t.s.size ≤ 9223372036854775807 ∧ rng64 is[i].t.x ∧ Tm.At w C is[i].t sl
  | t :: ts, _, h, 0, _ => by
    unfold ICells at h
    obtain ⟨sl, xs', rfl, ⟨h1, h2, h3, h4⟩, h⟩ := h
    exact ⟨rfl, rfl, rfl, rfl, rfl, sl, rfl, h1, h2, h3, h4⟩
  | t :: ts, _, h, i + 1, hi => by
    unfold ICells at h
    obtain ⟨sl, xs', rfl, _, h⟩ := h
    obtain ⟨q0, q1, q2, q3, q4, sl2, q5, q6⟩ := ICells.get h (i := i) (by simpa using hi)
    have key : ∀ (a b c d e f : Value) (j : Nat), (a :: b :: c :: d :: e :: f :: xs')[(i + 1) * 6 + j]? = xs'[i * 6 + j]? := fun a b c d e f j => by
      rw [show (i + 1) * 6 + j = i * 6 + j + 6 by omega]
      rfl
    have k0 := key (.int .i64 t.op) (.int .i64 t.a) (.int .i64 t.t.k) (.string t.t.s) (.int .i64 t.t.x) sl 0
    simp only [Nat.add_zero] at k0
    exact ⟨by rw [k0]; exact q0, by rw [key]; exact q1, by rw [key]; exact q2, by rw [key]; exact q3, by rw [key]; exact q4, sl2, by rw [key]; exact q5, q6⟩
/-- The a of an instruction is set. -/
def setA (is : List In) (i : Nat) (x : Int) : List In := is.modify i fun n => { n with a := x }
theorem ICells.set {w : World} {C : Nat → Prop} (x : Int) : ∀ {is : List In} {xs : List Value}, ICells w C is xs → ∀ (i : Nat), i < is.length → ICells w C (setA is i x) (xs.set (i * 6 + 1) (.int .i64 x))
  | t :: ts, _, h, 0, _ => by
    unfold ICells at h
    obtain ⟨sl, xs', rfl, h1, h⟩ := h
    exact ⟨sl, xs', rfl, h1, h⟩
  | t :: ts, _, h, i + 1, hi => by
    unfold ICells at h
    obtain ⟨sl, xs', rfl, h1, h⟩ := h
    have := ICells.set x h i (by simpa using hi)
    rw [show (i + 1) * 6 + 1 = i * 6 + 1 + 1 + 1 + 1 + 1 + 1 + 1 by omega]
    exact ⟨sl, _, rfl, h1, this⟩
theorem ICells.len {w : World} {C : Nat → Prop} : ∀ {is : List In} {xs : List Value}, ICells w C is xs → xs.length = is.length * 6
  | [], _, h => by unfold ICells at h; subst h; rfl
  | t :: ts, _, h => by
    unfold ICells at h
    obtain ⟨sl, xs', rfl, _, h⟩ := h
    have := ICells.len h
    simp [this]
    omega
/-- Terms' blocks: not the maker's (1), not its instructions' (2). -/
def TC (own : Nat → Nat) (g : Nat) : Prop := own g ≠ 1 ∧ own g ≠ 2 ∧ own g ≠ 3
def MM (c : Nat) : Prop := c = 1 ∨ c = 2
/-- v is the slice of the instructions. -/
def IRow (w : World) (own : Nat → Nat) (v : Value) (is : List In) : Prop := ∃ xs, Row w own 2 48 6 v is.length xs ∧ ICells w (TC own) is xs
/-- A maker at mb: predicate, variables, slots, instructions. -/
def Mk (w : World) (own : Nat → Nat) (mb : Nat) (p : ByteArray × Int) (vs slots : Int) (is : List In) : Prop :=
  ∃ rv, Blk w own 1 mb (.cells #[.string p.1, .int .i64 p.2, .int .i64 vs, .int .i64 slots, rv] 70 (0, 0)) ∧ IRow w own rv is
theorem IRow.ext {M : Nat → Prop} {w w' : World} {own own' : Nat → Nat} {v : Value} {is : List In} (h : IRow w own v is) (e : Ext M w w' own own') (hM : ∀ c, M c → c = 1 ∨ c = 3) : IRow w' own' v is := by
  obtain ⟨xs, h1, h2⟩ := h
  refine ⟨xs, h1.ext e (fun h => by have := hM _ h; omega), h2.carry e.size fun g hg hc => ⟨e.same g hg fun h => (hM _ h).elim hc.1 hc.2.2, ?_⟩⟩
  show own' g ≠ 1 ∧ own' g ≠ 2 ∧ own' g ≠ 3
  rw [e.col g hg]
  exact hc
theorem IRow.shape {w : World} {own : Nat → Nat} {v : Value} {is : List In} (h : IRow w own v is) : ∃ a c, v = .slice a is.length c := by
  obtain ⟨xs, h1, _⟩ := h
  exact h1.shape
theorem Mk.ext {w w' : World} {own own' : Nat → Nat} {mb : Nat} {p : ByteArray × Int} {vs slots : Int} {is : List In} (h : Mk w own mb p vs slots is) (e : Ext (fun _ => False) w w' own own') : Mk w' own' mb p vs slots is := by
  obtain ⟨rv, h1, h2⟩ := h
  exact ⟨rv, h1.ext e id, h2.ext e fun c h => h.elim⟩
theorem TmV.mm {w w' : World} {own own' : Nat → Nat} {t : Tm} {v : Value} (h : TmV w (TC own) t v) (e : Ext MM w w' own own') : TmV w' (TC own') t v :=
  h.carry e.size fun g hg hc => ⟨e.same g hg (fun h => by rcases h with h | h; exact hc.1 h; exact hc.2.1 h), by show own' g ≠ 1 ∧ own' g ≠ 2 ∧ own' g ≠ 3; rw [e.col g hg]; exact hc⟩
theorem info_ins : (Try.prog.info? 48).map (fun i => (i.zero, i.size, i.bytes)) = some (some (.agg #[.int .i64 0, .int .i64 0, .int .i64 0, .string noStr, .int .i64 0, .slice none 0 0]), 6, 72) := by kernel_rfl
theorem parts_ins : ∃ i, Try.prog.info? 48 = some i ∧ i.zero = some (.agg #[.int .i64 0, .int .i64 0, .int .i64 0, .string noStr, .int .i64 0, .slice none 0 0]) ∧ i.size = 6 ∧ i.bytes = 72 := by
  have h := info_ins
  cases hx : Try.prog.info? 48 with
  | none => rw [hx] at h; cases h
  | some i =>
    rw [hx] at h
    have := Option.some.inj h
    injection this with h1 h2
    injection h2 with h2 h3
    exact ⟨i, rfl, h1, h2, h3⟩
/-- append of an instruction, the world behind it told whole but for the row. -/
theorem wpList_append_ins {ops : Array Oper} {rest : List Oper} {o : Oper} {a : Act} {Q : Exit → Act → World → Prop} {w0 : World} {own : Nat → Nat} {v : Value} {is : List In} (hgd : o.guard = none) (s y : Operand)
    (ho : o.op = .call { callee := .builtin .append, args := #[s, y], argTypes := #[30, 30] })
    {i : In} {k : Int} {st : ByteArray} {x : Int} {a2 : Option Addr} {l2 c2 : Nat} (hv : TmV w0 (TC own) i.t (.agg #[.int .i64 k, .string st, .int .i64 x, .slice a2 l2 c2]))
    (hs : a.eval s = v) (hrow : IRow w0 own v is) (hn : is.length ≤ 1000000000000)
    {q : Nat} (hx : a.eval y = .slice (some ⟨q, 0, none⟩) 1 1) (hq : q = w0.heap.size)
    (h : ∀ v' w', IRow w' (ow (ow own w0.heap.size 0) (w0.heap.size + 1) 2) v' (is ++ [i]) → Ext (fun c => c = 2) w0 w' own (ow (ow own w0.heap.size 0) (w0.heap.size + 1) 2) → wpList Try.prog ops Q rest (a.put o.dst v') w') :
    wpList Try.prog ops Q (o :: rest) a (w0.alloc (.cells #[.int .i64 i.op, .int .i64 i.a, .int .i64 k, .string st, .int .i64 x, .slice a2 l2 c2] 48)) := by
  subst hq
  obtain ⟨xs, h1, h2⟩ := hrow
  obtain ⟨i0, hi0, hz0, hz1, hz2⟩ := parts_ins
  have hb1 : is.length + 1 ≤ maxLen := by unfold maxLen; omega
  have hb2 : (is.length + 1) * 72 ≤ 140737488355328 := by omega
  have hnew : (w0.alloc (.cells #[.int .i64 i.op, .int .i64 i.a, .int .i64 k, .string st, .int .i64 x, .slice a2 l2 c2] 48)).heap[w0.heap.size]? = some (.cells #[.int .i64 i.op, .int .i64 i.a, .int .i64 k, .string st, .int .i64 x, .slice a2 l2 c2] 48) := heap_alloc_new _ _
  have hrow0 : Row (w0.alloc (.cells #[.int .i64 i.op, .int .i64 i.a, .int .i64 k, .string st, .int .i64 x, .slice a2 l2 c2] 48)) (ow own w0.heap.size 0) 2 48 6 v is.length xs := (Row_ow h1 0).alloc _
  refine wpList_append_row hgd s y 30 ho i0 _ 72 Try.underlying30 hi0 hz0 hz1 hz2 rfl (by decide) hs hrow0 ⟨w0.heap.size, 0, none⟩ 1 1 [.int .i64 i.op, .int .i64 i.a, .int .i64 k, .string st, .int .i64 x, .slice a2 l2 c2] hx rfl ?_ ?_ hb1 hb2 ?_
  · intro j u hu
    have hadd : ((⟨w0.heap.size, 0, none⟩ : Addr).add j) = ⟨w0.heap.size, j, none⟩ := by unfold Addr.add; split <;> simp_all
    rw [hadd, cell_of_row _ _ _ _ _ _ hnew]
    simpa using hu
  · intro u hu
    simp at hu
    rcases hu with rfl | rfl | rfl | rfl | rfl | rfl <;> rfl
  · intro v' w' hr hE _
    rw [World.size_alloc] at hr hE
    have hE2 : Ext (fun c => c = 2) w0 w' own (ow (ow own w0.heap.size 0) (w0.heap.size + 1) 2) := (ext_box 0 _).trans hE
    refine h v' w' ⟨_, by rw [List.length_append]; exact hr, ?_⟩ hE2
    refine (ICells.snoc hv h2).carry hE2.size fun g hg hc => ⟨hE2.same g hg hc.2.1, ?_⟩
    show _ ≠ 1 ∧ _ ≠ 2 ∧ _ ≠ 3
    rw [hE2.col g hg]
    exact hc
def MkPost (w : World) (own : Nat → Nat) (mb : Nat) (p : ByteArray × Int) (vs slots : Int) (is : List In) (v : Value) (e : Ending) (w' : World) : Prop :=
  ∃ own', e = .returned v ∧ Mk w' own' mb p vs slots is ∧ Ext MM w w' own own'
theorem slot_any {w : World} {own : Nat → Nat} {mb : Nat} {p : ByteArray × Int} {vs slots : Int} {is : List In} (hm : Mk w own mb p vs slots is) (h0 : 0 ≤ slots) (h1 : slots ≤ 1000000000) :
    Calls Try.prog 61 #[.pointer (some ⟨mb, 0, none⟩)] w (MkPost w own mb p vs (slots + 1) is (.int .i64 slots)) := by
  obtain ⟨rv, hb, hr⟩ := hm
  have HB := Lib.hid hb
  have HR := Lib.hid hr
  have c3 : w.cell? ⟨mb, 3, none⟩ = some (.int .i64 slots) := hb.cell 3
  have f3 := hb.free 3
  have hl := hb.lt
  clear hb hr
  go_enter Try.func61, Try.ntmps61
  go_wp2_with fail
  go_ret
  have hE : Ext (fun c => c = 1) w (w.setCell ⟨mb, 3, none⟩ (.int .i64 (slots + 1))) own own := Ext.refl.setCell (fun _ => HB.out.col) _
  refine ⟨own, by congr 2, ⟨rv, ?_, HR.out.ext hE fun c h => .inl h⟩, hE.mono fun c h => .inl h⟩
  have := HB.out.setCell 3 (.int .i64 (slots + 1))
  simpa using this
end Go.Proofs.Ytamiidklcadkmaa
