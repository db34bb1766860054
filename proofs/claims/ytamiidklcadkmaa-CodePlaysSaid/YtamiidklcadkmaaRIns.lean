/- The document's instructions: rows that stand; one, two, join. -/
import Derived.Test.YtamiidklcadkmaaRef16
set_option maxRecDepth 20000
set_option linter.unusedVariables false
set_option linter.unusedSimpArgs false
namespace Go.Proofs.Ytamiidklcadkmaa
open Go.RowKit Go.PM
/-- v is a slice of these instructions; it stands; their terms' blocks are C. -/
def RV (w : World) (C : Nat → Prop) (v : Value) (is : List In) : Prop := ∃ a c, v = .slice a is.length c ∧ (0 < is.length → ∃ (g : Nat) (cur : Array Value) (xs : List Value), a = some ⟨g, 0, none⟩ ∧ w.heap[g]? = some (Obj.cells cur 75 (0, 0)) ∧ (∀ j, j < is.length * 6 → cur[j]? = xs[j]?) ∧ ICells w C is xs)
theorem RV.nil (w : World) (C : Nat → Prop) : RV w C (.slice none 0 0) [] := ⟨none, 0, rfl, fun h => absurd h (by decide)⟩
theorem RV.shape {w : World} {C : Nat → Prop} {v : Value} {is : List In} (h : RV w C v is) : ∃ a c, v = .slice a is.length c := by
  obtain ⟨a, c, h, _⟩ := h
  exact ⟨a, c, h⟩
theorem RV.carry {w w' : World} {C C' : Nat → Prop} {v : Value} {is : List In} (h : RV w C v is) (hs : w.heap.size ≤ w'.heap.size) (hr : ∀ (g : Nat) (cur : Array Value), w.heap[g]? = some (Obj.cells cur 75 (0, 0)) → w'.heap[g]? = w.heap[g]?) (hc : ∀ g, g < w.heap.size → C g → w'.heap[g]? = w.heap[g]? ∧ C' g) : RV w' C' v is := by
  obtain ⟨a, c, rfl, h⟩ := h
  refine ⟨a, c, rfl, fun h0 => ?_⟩
  obtain ⟨g, cur, xs, h1, h2, h4, h5⟩ := h h0
  exact ⟨g, cur, xs, h1, by rw [hr g cur h2]; exact h2, h4, h5.carry hs hc⟩
theorem RV.below {w w' : World} {C : Nat → Prop} {v : Value} {is : List In} (h : RV w C v is) (e : Below w.heap.size w w') : RV w' C v is :=
  h.carry e.size (fun g cur hg => e.block g (Array.getElem?_eq_some_iff.1 hg).1) fun g hg hc => ⟨e.block g hg, hc⟩
theorem RV.get {w : World} {C : Nat → Prop} {a : Option Addr} {n c : Nat} {is : List In} (h : RV w C (.slice a n c) is) {i : Nat} (hi : i < is.length) :
    ∃ g a2 l2 c2, a = some ⟨g, 0, none⟩ ∧ g < w.heap.size ∧ w.cell? ⟨g, i * 6, none⟩ = some (.int .i64 is[i].op) ∧ w.cell? ⟨g, i * 6 + 1, none⟩ = some (.int .i64 is[i].a) ∧ w.cell? ⟨g, i * 6 + 2, none⟩ = some (.int .i64 is[i].t.k) ∧ w.cell? ⟨g, i * 6 + 3, none⟩ = some (.string is[i].t.s) ∧ w.cell? ⟨g, i * 6 + 4, none⟩ = some (.int .i64 is[i].t.x) ∧ w.cell? ⟨g, i * 6 + 5, none⟩ = some (.slice a2 l2 c2) ∧
      TmV w C is[i].t (.agg #[.int .i64 is[i].t.k, .string is[i].t.s, .int .i64 is[i].t.x, .slice a2 l2 c2]) := by
  obtain ⟨a', c', he, h⟩ := h
  obtain ⟨g, cur, xs, h1, h2, h3, h4⟩ := h (by omega)
  injection he with he
  subst he
  obtain ⟨q0, q1, q2, q3, q4, sl, q5, q6, q7, q8, q9⟩ := ICells.get h4 hi
  obtain ⟨a2, l2, c2, rfl⟩ := Tm.at_shape q9
  have hc : ∀ j, j < is.length * 6 → w.cell? ⟨g, j, none⟩ = xs[j]? := fun j hj => by rw [cell_of_row _ _ _ _ _ _ h2, h3 j hj]
  exact ⟨g, a2, l2, c2, h1, (Array.getElem?_eq_some_iff.1 h2).1, by rw [hc _ (by omega)]; exact q0, by rw [hc _ (by omega)]; exact q1, by rw [hc _ (by omega)]; exact q2, by rw [hc _ (by omega)]; exact q3, by rw [hc _ (by omega)]; exact q4, by rw [hc _ (by omega)]; exact q5, ⟨_, rfl, q6, q7, q8, q9⟩⟩
theorem RV.len {w : World} {C : Nat → Prop} {a : Option Addr} {n c : Nat} {is : List In} (h : RV w C (.slice a n c) is) : n = is.length := by
  obtain ⟨a', c', he, _⟩ := h
  injection he
/-- A block of one instruction. -/
theorem RV.one {w : World} {C : Nat → Prop} {g c : Nat} {i : In} {k : Int} {s : ByteArray} {x : Int} {sl : Value} (hg : w.heap[g]? = some (.cells #[.int .i64 i.op, .int .i64 i.a, .int .i64 k, .string s, .int .i64 x, sl] 75 (0, 0))) (hv : TmV w C i.t (.agg #[.int .i64 k, .string s, .int .i64 x, sl])) : RV w C (.slice (some ⟨g, 0, none⟩) 1 c) [i] := by
  refine ⟨_, c, rfl, fun _ => ⟨g, _, [.int .i64 i.op, .int .i64 i.a, .int .i64 k, .string s, .int .i64 x, sl], rfl, hg, fun j hj => by simp, ?_⟩⟩
  exact ICells.snoc (is := []) (xs := []) hv rfl
theorem put_size : ∀ (vs : List Value) (w : World) (b i : Nat), (putCells w b i vs).heap.size = w.heap.size
  | [], w, b, i => rfl
  | v :: vs, w, b, i => by rw [putCells, put_size vs, World.size_setCell]
theorem put_block {w : World} {b g : Nat} (h : g ≠ b) : ∀ (vs : List Value) (i : Nat), (putCells w b i vs).heap[g]? = w.heap[g]? := fun vs i => by
  have hE : Ext (fun c => c = 1) w (putCells w b i vs) (fun g => if g = b then 1 else 0) (fun g => if g = b then 1 else 0) := Ext.putCells (M := fun c => c = 1) (fun _ => by simp) _ _ _ Ext.refl
  by_cases hg : g < w.heap.size
  · exact hE.same g hg (by rw [if_neg h]; decide)
  · have h1 : w.heap[g]? = none := Array.getElem?_eq_none (by omega)
    have h2 := put_size vs w b i
    rw [h1]
    exact Array.getElem?_eq_none (by omega)
/-- A block of another kind is set. -/
theorem RV.put {w : World} {C : Nat → Prop} {v : Value} {is : List In} {b : Nat} {own : Nat → Nat} {J : Nat} {cs : Array Value} {T : TypeId} (h : RV w C v is) (hb : Blk w own J b (.cells cs T (0, 0))) (hT : T ≠ 75) (hC : ¬ C b) (vs : List Value) : RV (putCells w b 0 vs) C v is :=
  h.carry (by rw [put_size]; exact Nat.le_refl _) (fun g cur hg => put_block (fun (e : g = b) => by
    rw [e, hb.at_] at hg
    injection hg with hg
    injection hg with _ hg
    exact hT hg) vs 0) fun g hg hc => ⟨put_block (fun (e : g = b) => hC (e ▸ hc)) vs 0, hc⟩
/-- Rows of the document's instructions, while they grow: colour 2. -/
def RRow (w : World) (own : Nat → Nat) (C : Nat → Prop) (v : Value) (is : List In) : Prop := ∃ xs, Row w own 2 75 6 v is.length xs ∧ ICells w (fun g => own g ≠ 2 ∧ C g) is xs
theorem RRow.shape {w : World} {own : Nat → Nat} {C : Nat → Prop} {v : Value} {is : List In} (h : RRow w own C v is) : ∃ a c, v = .slice a is.length c := by
  obtain ⟨xs, h1, _⟩ := h
  exact h1.shape
theorem RRow.view {w : World} {own : Nat → Nat} {C : Nat → Prop} {v : Value} {is : List In} (h : RRow w own C v is) : RV w C v is := by
  obtain ⟨xs, h1, h3⟩ := h
  obtain ⟨a, c, rfl⟩ := h1.shape
  refine ⟨a, c, rfl, fun h0 => ?_⟩
  obtain ⟨g, cap, cur, he, hb, _, _, _, hcell⟩ := h1.cells h0
  injection he with he
  exact ⟨g, cur, xs, he, hb.at_, fun j hj => by rw [← hcell j hj, hb.cell], h3.carry (Nat.le_refl _) fun u _ hu => ⟨rfl, hu.2⟩⟩
theorem info_rins : (Try.prog.info? 75).map (fun i => (i.zero, i.size, i.bytes)) = some (some (.agg #[.int .i64 0, .int .i64 0, .int .i64 0, .string noStr, .int .i64 0, .slice none 0 0]), 6, 72) := by kernel_rfl
theorem parts_rins : ∃ i, Try.prog.info? 75 = some i ∧ i.zero = some (.agg #[.int .i64 0, .int .i64 0, .int .i64 0, .string noStr, .int .i64 0, .slice none 0 0]) ∧ i.size = 6 ∧ i.bytes = 72 := by
  have h := info_rins
  cases hx : Try.prog.info? 75 with
  | none => rw [hx] at h; cases h
  | some i =>
    rw [hx] at h
    have := Option.some.inj h
    injection this with h1 h2
    injection h2 with h2 h3
    exact ⟨i, rfl, h1, h2, h3⟩
/-- append of an instruction, the world behind it told whole but for the row. -/
theorem wpList_append_rins {C : Nat → Prop} {ops : Array Oper} {rest : List Oper} {o : Oper} {a : Act} {Q : Exit → Act → World → Prop} {w0 : World} {own : Nat → Nat} {v : Value} {is : List In} (hgd : o.guard = none) (s y : Operand)
    (ho : o.op = .call { callee := .builtin .append, args := #[s, y], argTypes := #[36, 36] })
    {i : In} {k : Int} {st : ByteArray} {x : Int} {a2 : Option Addr} {l2 c2 : Nat} (hv : TmV w0 (fun g => own g ≠ 2 ∧ C g) i.t (.agg #[.int .i64 k, .string st, .int .i64 x, .slice a2 l2 c2]))
    (hs : a.eval s = v) (hrow : RRow w0 own C v is) (hn : is.length ≤ 1000000000000)
    {q : Nat} (hx : a.eval y = .slice (some ⟨q, 0, none⟩) 1 1) (hq : q = w0.heap.size)
    (h : ∀ v' w', RRow w' (ow (ow own w0.heap.size 0) (w0.heap.size + 1) 2) C v' (is ++ [i]) → Ext (fun c => c = 2) w0 w' own (ow (ow own w0.heap.size 0) (w0.heap.size + 1) 2) → wpList Try.prog ops Q rest (a.put o.dst v') w') :
    wpList Try.prog ops Q (o :: rest) a (w0.alloc (.cells #[.int .i64 i.op, .int .i64 i.a, .int .i64 k, .string st, .int .i64 x, .slice a2 l2 c2] 75)) := by
  subst hq
  obtain ⟨xs, h1, h2⟩ := hrow
  obtain ⟨i0, hi0, hz0, hz1, hz2⟩ := parts_rins
  have hb1 : is.length + 1 ≤ maxLen := by unfold maxLen; omega
  have hb2 : (is.length + 1) * 72 ≤ 140737488355328 := by omega
  have hnew : (w0.alloc (.cells #[.int .i64 i.op, .int .i64 i.a, .int .i64 k, .string st, .int .i64 x, .slice a2 l2 c2] 75)).heap[w0.heap.size]? = some (.cells #[.int .i64 i.op, .int .i64 i.a, .int .i64 k, .string st, .int .i64 x, .slice a2 l2 c2] 75) := heap_alloc_new _ _
  have hrow0 : Row (w0.alloc (.cells #[.int .i64 i.op, .int .i64 i.a, .int .i64 k, .string st, .int .i64 x, .slice a2 l2 c2] 75)) (ow own w0.heap.size 0) 2 75 6 v is.length xs := (Row_ow h1 0).alloc _
  refine wpList_append_row hgd s y 36 ho i0 _ 72 Try.underlying36 hi0 hz0 hz1 hz2 rfl (by decide) hs hrow0 ⟨w0.heap.size, 0, none⟩ 1 1 [.int .i64 i.op, .int .i64 i.a, .int .i64 k, .string st, .int .i64 x, .slice a2 l2 c2] hx rfl ?_ ?_ hb1 hb2 ?_
  · intro j u hu
    have hadd : ((⟨w0.heap.size, 0, none⟩ : Addr).add j) = ⟨w0.heap.size, j, none⟩ := by unfold Addr.add; split <;> simp_all
    rw [hadd, cell_of_row _ _ _ _ _ _ hnew]
    simpa using hu
  · intro u hu
    simp at hu
    rcases hu with rfl | rfl | rfl | rfl | rfl | rfl <;> rfl
  · intro v' w' hr hE _
    rw [World.size_alloc] at hr hE
    have hE2 : Ext (fun c => c = 2) w0 w' own (ow (ow own w0.heap.size 0) (w0.heap.size + 1) 2) := (ext_box 0 _).trans hE
    refine h v' w' ⟨_, by rw [List.length_append]; exact hr, ?_⟩ hE2
    refine (ICells.snoc hv h2).carry hE2.size fun g hg hc => ⟨hE2.same g hg hc.1, ?_⟩
    show _ ≠ 2 ∧ C g
    rw [hE2.col g hg]
    exact hc
theorem rtwo_any (t : Tm) (nm : ByteArray) (w : World) (C : Nat → Prop) (v : Value) (hv : TmV w C t v) :
    Calls Try.prog 62 #[v, .string nm] w fun e w' => e = .returned (.bool (Tm.two t nm)) ∧ Below w.heap.size w w' := by
  obtain ⟨a2, l2, c2, rfl, wk, ws, wx, hat⟩ := TmV_open hv
  obtain ⟨hl2, hl3⟩ := at_len hat
  have HI := Lib.hid (show Tm.two t nm = (decide (t.k = 4) && (decide (t.s = nm) && decide (t.ls.length = 2))) from rfl)
  rw [← hl2] at HI
  clear hv hat hl2
  generalize Tm.two t nm = r at *
  generalize Tm.k t = k1 at *
  generalize Tm.s t = s1 at *
  generalize Tm.x t = x1 at *
  have HB0 := Lib.hid (fun o1 => (Below.refl w.heap.size w).alloc (Nat.le_refl _) o1)
  by_cases k4 : k1 = 4
  · subst k4
    by_cases hs : s1 = nm
    · subst hs
      by_cases hl : l2 = 2
      · subst hl
        rw [show r = true by rw [HI.out]; simp]
        go_enter Try.func62, Try.ntmps62
        go_wp2_with fail
        go_ret
        exact ⟨rfl, HB0.out _⟩
      · rw [show r = false by rw [HI.out]; simp [hl]]
        have hb : ((l2 : Int) == 2) = false := by rw [beq_eq_false_iff_ne]; omega
        clear hl
        go_enter Try.func62, Try.ntmps62
        go_wp2_with fail
        go_ret
        exact ⟨rfl, HB0.out _⟩
    · rw [show r = false by rw [HI.out]; simp [hs]]
      have hb := str_ne hs
      go_enter Try.func62, Try.ntmps62
      go_wp2_with fail
      go_ret
      exact ⟨rfl, HB0.out _⟩
  · rw [show r = false by rw [HI.out]; simp [k4]]
    have hb : (k1 == 4) = false := by simp [k4]
    clear k4
    go_enter Try.func62, Try.ntmps62
    go_wp2_with fail
    go_ret
    exact ⟨rfl, HB0.out _⟩
def RvRet (C : Nat → Prop) (w : World) (is : List In) (e : Ending) (w' : World) : Prop := ∃ v, e = .returned v ∧ RV w' C v is ∧ Below w.heap.size w w'
theorem zeroT_V (w : World) (C : Nat → Prop) : TmV w C zeroT (.agg #[.int .i64 0, .string noStr, .int .i64 0, .slice none 0 0]) := tm_zero w C
theorem one_any (C : Nat → Prop) (op a : Int) (w : World) : Calls Try.prog 50 #[.int .i64 op, .int .i64 a] w (RvRet C w [In0 op a]) := by
  go_enter Try.func50, Try.ntmps50
  go_wp2_with fail
  go_ret
  exact ⟨_, rfl, RV.one (i := In0 op a) (heap_alloc_new _ _) (zeroT_V _ _), (Below.refl _ _).alloc (Nat.le_refl _) _⟩
/-- v is a slice of pieces. -/
def Pcs (w : World) (C : Nat → Prop) (v : Value) (ps : List (List In)) : Prop := ∃ ga c, v = .slice (some ⟨ga, 0, none⟩) ps.length c ∧ ga < w.heap.size ∧ ∀ j (h : j < ps.length), ∃ pv, w.cell? ⟨ga, j, none⟩ = some pv ∧ RV w C pv ps[j]
def JnInv (C : Nat → Prop) (w1 : World) (own1 : Nat → Nat) (ps : List (List In)) (g : Nat) (ov iv : Value) (w : World) : Prop :=
  ∃ (own : Nat → Nat) (i : Nat), iv = .int .i64 i ∧ i + g = ps.length ∧ RRow w own C ov (ps.take i).flatten ∧ Ext (fun c => c = 2) w1 w own1 own
def Jn2Inv (C : Nat → Prop) (w1 : World) (own1 : Nat → Nat) (pre is : List In) (g : Nat) (ov iv : Value) (w : World) : Prop :=
  ∃ (own : Nat → Nat) (i : Nat), iv = .int .i64 i ∧ i + g = is.length ∧ RRow w own C ov (pre ++ is.take i) ∧ Ext (fun c => c = 2) w1 w own1 own
theorem jn_step {ps : List (List In)} {i : Nat} (h : i < ps.length) : (ps.take (i + 1)).flatten = (ps.take i).flatten ++ ps[i] := by
  rw [List.take_succ_eq_append_getElem h, List.flatten_append]
  simp
theorem jn_len {ps : List (List In)} {i : Nat} : ∀ {ps : List (List In)} {i : Nat}, (ps.take i).flatten.length ≤ ps.flatten.length
  | [], i => by simp
  | p :: ps, 0 => by simp
  | p :: ps, i + 1 => by
    have := @jn_len ps i ps i
    simp only [List.take_succ_cons, List.flatten_cons, List.length_append]
    omega
set_option maxHeartbeats 2000000 in
theorem join_any (ps : List (List In)) (w : World) (C : Nat → Prop) (v : Value) (hv : Pcs w C v ps) (hl : ps.flatten.length ≤ 1000000) (hp : ps.length ≤ 1000) :
    Calls Try.prog 49 #[v] w (RvRet C w ps.flatten) := by
  obtain ⟨ga, c, rfl, hga, hps⟩ := hv
  have HPS := Lib.hid hps
  have hE1 : Ext (fun c => c = 2) w (w.alloc (.cells #[] 75)) (fun _ => 0) (ow (fun _ => 0) w.heap.size 2) := (Ext.refl.ow 2).alloc _
  have HE1 := Lib.hid hE1
  have HROW1 : Hid (RRow (w.alloc (.cells #[] 75)) (ow (fun _ => 0) w.heap.size 2) C (.slice (some ⟨w.heap.size, 0, none⟩) 0 0) []) := Lib.hid ⟨[], Row.start (Blk.new w _ (ow_ge (Nat.le_refl _))), rfl⟩
  have HLOW := Lib.hid (show ∀ b, b < w.heap.size → (ow (fun _ => 0) w.heap.size 2) b = 0 from fun b hb => ow_lt hb)
  clear hps hE1
  go_enter Try.func49, Try.ntmps49
  go_wp2_with fail
  generalize (w.alloc (.cells #[] 75)) = w1 at *
  generalize hq2 : (Value.slice (some ⟨w.heap.size, 0, none⟩) 0 0) = bv2 at *
  generalize (ow (fun _ => 0) w.heap.size 2) = own1 at *
  clear hq2
  go_loopg [3, 4] ps.length (fun g ov iv wr => JnInv C w1 own1 ps g ov iv wr)
  case atStart => exact ⟨own1, 0, rfl, by omega, HROW1.out, Ext.refl⟩
  case round =>
    obtain ⟨ownr, i, rfl, hi, hrow, hEr⟩ := hrel
    have HER := Lib.hid hEr
    have HROW := Lib.hid hrow
    have hB := (HE1.out.trans hEr).below fun b hb => by decide
    have HB := Lib.hid hB
    obtain ⟨oa, oc, rfl⟩ := hrow.shape
    by_cases hlt : i < ps.length
    · have hlt2 : (i : Int) < ps.length := by omega
      obtain ⟨pv, hpv, hrv⟩ := HPS.out i hlt
      obtain ⟨pa, pc, rfl⟩ := hrv.shape
      have hpv2 : wr.cell? ⟨ga, i, none⟩ = some (.slice pa ps[i].length pc) := by rw [hB.cell (p := ⟨ga, i, none⟩) hga]; exact hpv
      have hga2 : ga < wr.heap.size := by have := hB.size; omega
      have HRV := Lib.hid hrv
      have HSTEP := Lib.hid (jn_step hlt)
      have HLEN := Lib.hid (@jn_len ps 0 ps (i + 1))
      have hisl : ps[i].length ≤ 1000000 := by
        have := HLEN.out
        rw [HSTEP.out, List.length_append] at this
        omega
      clear hrow hEr hB hpv hrv
      generalize hpre : (ps.take i).flatten = pre at *
      generalize hpi : ps[i] = is at *
      clear hpre hpi
      go_wp2_with fail
      generalize wr = w2 at *
      go_loopg [3, 5] is.length (fun g ov iv wr => Jn2Inv C w2 ownr pre is g ov iv wr)
      case atStart => exact ⟨ownr, 0, rfl, by omega, by rw [List.take_zero, List.append_nil]; exact HROW.out, Ext.refl⟩
      case round =>
        obtain ⟨ownq, k, rfl, hi2, hrow, hEq⟩ := hrel
        have hEw := (HE1.out.trans HER.out).trans hEq
        have hB := hEw.below fun b hb => by decide
        have HB2 := Lib.hid hB
        have HEQ := Lib.hid hEq
        have HROWQ := Lib.hid hrow
        have hpv3 : wr.cell? ⟨ga, i, none⟩ = some (.slice pa is.length pc) := by
          have h1 := hB.cell (p := ⟨ga, i, none⟩) hga
          have h2 := HB.out.cell (p := ⟨ga, i, none⟩) hga
          rw [h1, ← h2]; exact hpv2
        have hga3 : ga < wr.heap.size := by have := hB.size; omega
        obtain ⟨oa2, oc2, rfl⟩ := hrow.shape
        clear hpv2 hga2
        by_cases hk : k < is.length
        · have hk2 : (k : Int) < is.length := by omega
          obtain ⟨g6, a6, l6, c6, rfl, hg6, x0, x1, x2, x3, x4, x5, ht⟩ := HRV.out.get hk
          have y0 : wr.cell? ⟨g6, k * 6, none⟩ = some (.int .i64 is[k].op) := by rw [hB.cell (p := ⟨g6, k * 6, none⟩) hg6]; exact x0
          have y1 : wr.cell? ⟨g6, k * 6 + 1, none⟩ = some (.int .i64 is[k].a) := by rw [hB.cell (p := ⟨g6, k * 6 + 1, none⟩) hg6]; exact x1
          have y2 : wr.cell? ⟨g6, k * 6 + 2, none⟩ = some (.int .i64 is[k].t.k) := by rw [hB.cell (p := ⟨g6, k * 6 + 2, none⟩) hg6]; exact x2
          have y3 : wr.cell? ⟨g6, k * 6 + 3, none⟩ = some (.string is[k].t.s) := by rw [hB.cell (p := ⟨g6, k * 6 + 3, none⟩) hg6]; exact x3
          have y4 : wr.cell? ⟨g6, k * 6 + 4, none⟩ = some (.int .i64 is[k].t.x) := by rw [hB.cell (p := ⟨g6, k * 6 + 4, none⟩) hg6]; exact x4
          have y5 : wr.cell? ⟨g6, k * 6 + 5, none⟩ = some (.slice a6 l6 c6) := by rw [hB.cell (p := ⟨g6, k * 6 + 5, none⟩) hg6]; exact x5
          have hg62 : g6 < wr.heap.size := by have := hB.size; omega
          have HT := Lib.hid (ht.carry (w' := wr) (C' := fun g => ownq g ≠ 2 ∧ C g) hB.size fun g hg hc => ⟨hB.block g hg, by show ownq g ≠ 2 ∧ C g; rw [hEw.col g hg]; exact ⟨by decide, hc⟩⟩)
          have HNX := Lib.hid (show pre ++ is.take (k + 1) = (pre ++ is.take k) ++ [is[k]] by rw [List.take_succ_eq_append_getElem hk, List.append_assoc])
          have hlk : (pre ++ is.take k).length ≤ 1000000000000 := by
            have := HLEN.out
            rw [HSTEP.out, List.length_append] at this
            rw [List.length_append, List.length_take]
            omega
          clear hEw hB hEq hrow x0 x1 x2 x3 x4 x5 ht hg6
          generalize pre ++ is.take k = rs at *
          generalize is[k] = u at *
          go_wp2_with (at_builtin; refine wpList_append_rins (v := .slice oa2 rs.length oc2) rfl _ _ rfl HT.out rfl HROWQ.out hlk rfl rfl ?_; intro v8 w8 hr8 hE8; obtain ⟨a8, c8, rfl⟩ := hr8.shape)
          have HR8 := Lib.hid hr8
          have HE8 := Lib.hid (HEQ.out.trans hE8)
          clear hr8 hE8
          go_wp2_with fail
          go_roundg (is.length - (k + 1))
          case measure => omega
          case rel => exact ⟨_, k + 1, by go_num, by omega, by rw [HNX.out]; simpa only [List.length_append, List.length_singleton] using HR8.out, HE8.out⟩
        · obtain rfl : k = is.length := by omega
          simp only [List.take_length] at HROWQ ⊢
          have HX := Lib.hid (HER.out.trans hEq)
          clear hEw hB hEq hrow
          go_wp2_with fail
          go_roundg (ps.length - (i + 1))
          case measure => omega
          case rel => exact ⟨_, i + 1, by go_num, by omega, by rw [HSTEP.out]; exact HROWQ.out, HX.out⟩
    · obtain rfl : i = ps.length := by omega
      simp only [List.take_length] at HROW ⊢
      clear hrow hEr hB
      go_wp2_with fail
      go_ret
      exact ⟨_, rfl, HROW.out.view, HB.out⟩
end Go.Proofs.Ytamiidklcadkmaa
