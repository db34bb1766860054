/- Layer 2, the document's answer: what each function of package pythiaref02 answers, told over a plain list of blocks. -/
import Derived.Test.YtdomehpdjnfkeaaCells
import Derived.Test.YtdomehpdjnfkeaaRow
import Derived.Test.YtdomehpdjnfkeaaRes
import Derived.Deep.LoopGhost
set_option maxRecDepth 20000
set_option linter.unusedVariables false
set_option linter.unusedSimpArgs false
namespace Go.Proofs.Ytdomehpdjnfkeaa
open Go.RowKit Go.PM

/-- The document's arena: the blocks, the n-th at place n - 1, empty ones are freed. -/
structure RA where
  blocks : List (List Int)
  most : Int
  faults : Int
def RA.blk (A : RA) (b : Int) : List Int := if b < 1 ∨ (A.blocks.length : Int) < b then [] else A.blocks.getD (b - 1).toNat []
def RA.is (A : RA) (b : Int) : Bool := decide (0 < (A.blk b).length)
def RA.put (A : RA) (b : Int) (x : List Int) : RA := { A with blocks := A.blocks.set (b - 1).toNat x }
def RA.fault (A : RA) : RA := { A with faults := A.faults + 1 }
def RA.freeErr (A : RA) (b : Int) : Int := if A.is b then 0 else 20
def RA.free (A : RA) (b : Int) : RA := if A.is b then A.put b [] else A.fault
def RA.reachErr (A : RA) (b i : Int) : Int := if A.is b then (if i < 0 ∨ ((A.blk b).length : Int) ≤ i then 1 else 0) else 20
def RA.reach (A : RA) (b : Int) : RA := if A.is b then A else A.fault
def RA.set (A : RA) (b i v : Int) : RA := A.put b ((A.blk b).set i.toNat v)
def nlive (l : List (List Int)) : Nat := (l.filter fun x => decide (0 < x.length)).length
def mlive (l : List (List Int)) : Nat := (l.map List.length).sum
def RA.allocErr (A : RA) (n : Int) : Int := if n < 1 ∨ 256 < n then 1 else if A.most < mlive A.blocks + n then 21 else 0
def RA.allocId (A : RA) (n : Int) : Int := if A.allocErr n = 0 then A.blocks.length + 1 else 0
def RA.alloc (A : RA) (n : Int) : RA := if A.allocErr n = 0 then { A with blocks := A.blocks ++ [List.replicate n.toNat 0] } else A
def RA.fresh (most : Int) : RA := ⟨[], min (max most 0) 65536, 0⟩

theorem RA.blk_in {A : RA} {j : Nat} (hj : j < A.blocks.length) : A.blk ((j : Int) + 1) = A.blocks[j] := by
  have e1 : ((j : Int) + 1 - 1).toNat = j := by omega
  unfold RA.blk
  rw [if_neg (by omega), e1, List.getD_eq_getElem?_getD, List.getElem?_eq_getElem hj]
  rfl
theorem RA.is_in {A : RA} {b : Int} (h : A.is b = true) : ∃ j : Nat, b = (j : Int) + 1 ∧ ∃ hj : j < A.blocks.length, 0 < A.blocks[j].length := by
  have h0 : 0 < (A.blk b).length := by simpa [RA.is] using h
  by_cases hb : b < 1 ∨ (A.blocks.length : Int) < b
  · unfold RA.blk at h0
    rw [if_pos hb] at h0
    simp at h0
  · obtain ⟨j, rfl⟩ : ∃ j : Nat, b = (j : Int) + 1 := ⟨(b - 1).toNat, by omega⟩
    have hj : j < A.blocks.length := by omega
    rw [RA.blk_in hj] at h0
    exact ⟨j, rfl, hj, h0⟩
def aAgg (bv : Value) (A : RA) : Value := .agg #[bv, .int .i64 A.most, .int .i64 A.faults]
def longs (xs : List Int) : List Value := xs.map (Value.int .i64)
/-- vs are the blocks' slices, of colour L. -/
def BRows (w : World) (own : Nat → Nat) (L : Nat) (blocks : List (List Int)) (vs : List Value) : Prop :=
  vs.length = blocks.length ∧ ∀ (j : Nat) (h : j < blocks.length), blocks[j].length ≤ 256 ∧ ∃ x, vs[j]? = some x ∧ Row w own L 2 1 x blocks[j].length (longs blocks[j])
/-- v is the document's arena A; its rows lie in blocks of colour L. -/
def RefA (w : World) (own : Nat → Nat) (L : Nat) (v : Value) (A : RA) : Prop :=
  A.blocks.length ≤ 4000000000000 ∧ ∃ bv vs, v = aAgg bv A ∧ Row w own L 61 1 bv A.blocks.length vs ∧ BRows w own L A.blocks vs
section
variable {M : Nat → Prop} {w w' : World} {own own' : Nat → Nat} {L : Nat} {v : Value} {A : RA} {bs : List (List Int)} {vs : List Value}
theorem BRows.ext (h : BRows w own L bs vs) (e : Ext M w w' own own') (hk : ¬ M L) : BRows w' own' L bs vs :=
  ⟨h.1, fun j hj => by obtain ⟨h1, x, h2, h3⟩ := h.2 j hj; exact ⟨h1, x, h2, h3.ext e hk⟩⟩
theorem BRows.recol {L' : Nat} (h : BRows w own L bs vs) (hc : ∀ b, b < w.heap.size → own b = L → own' b = L') : BRows w own' L' bs vs :=
  ⟨h.1, fun j hj => by obtain ⟨h1, x, h2, h3⟩ := h.2 j hj; exact ⟨h1, x, h2, h3.recol hc⟩⟩
theorem RefA.ext (h : RefA w own L v A) (e : Ext M w w' own own') (hk : ¬ M L) : RefA w' own' L v A := by
  obtain ⟨hl, bv, vs, h1, h2, h3⟩ := h
  exact ⟨hl, bv, vs, h1, h2.ext e hk, h3.ext e hk⟩
theorem RefA.recol {L' : Nat} (h : RefA w own L v A) (hc : ∀ b, b < w.heap.size → own b = L → own' b = L') : RefA w own' L' v A := by
  obtain ⟨hl, bv, vs, h1, h2, h3⟩ := h
  exact ⟨hl, bv, vs, h1, h2.recol hc, h3.recol hc⟩
theorem RefA.empty (w : World) (own : Nat → Nat) (L : Nat) : RefA w own L (.agg #[.slice none 0 0, .int .i64 0, .int .i64 0]) ⟨[], 0, 0⟩ :=
  ⟨by simp, _, [], rfl, Row.nil _ _ _ _ _, rfl, fun j hj => absurd hj (by simp)⟩
end
/-- A call answers an arena A', its rows new or of colour L, and leaves memory as it was. -/
def APost (L : Nat) (A' : RA) (w : World) (own : Nat → Nat) (f : Value → Value) (e : Ending) (w' : World) : Prop :=
  ∃ v', e = .returned (f v') ∧ RefA w' (ow own w.heap.size L) L v' A' ∧ Below w.heap.size w w'
/-- Colours inside a call: 5 the model's rows, 0 what else was there, 2 what is new. -/
def hueA (own : Nat → Nat) (L n : Nat) : Nat → Nat := fun b => if b < n then (if own b = L then 5 else 0) else 2
def M5 (c : Nat) : Prop := c ≠ 0 ∧ c ≠ 5
section
variable {w : World} {own : Nat → Nat} {L : Nat} {v : Value} {A : RA}
theorem hueA_ref (h : RefA w own L v A) : RefA w (hueA own L w.heap.size) 5 v A :=
  h.recol (fun b hb hc => by simp [hueA, hb, hc])
/-- A colour that is no old block's, or the model's, is L in the end. -/
theorem hueA_col {M : Nat → Prop} {w' : World} {own' own0 : Nat → Nat} (h0 : ∀ b, b < w.heap.size → own0 b = hueA own L w.heap.size b) (hE : Ext M w w' own0 own') {c : Nat} (hc : c ≠ 0) (b : Nat) (hb : own' b = c) : ow own w.heap.size L b = L := by
  by_cases h' : b < w.heap.size
  · have := hE.col b h'
    rw [hb, h0 b h'] at this
    simp only [hueA, if_pos h'] at this
    rw [ow_lt h']
    by_cases hl : own b = L
    · exact hl
    · rw [if_neg hl] at this; exact absurd this hc
  · exact ow_ge (by omega)
theorem hueA_below {w' : World} {own' own0 : Nat → Nat} (h0 : ∀ b, b < w.heap.size → own0 b = hueA own L w.heap.size b) (hE : Ext M5 w w' own0 own') : Below w.heap.size w w' :=
  hE.below (fun b hb => by rw [h0 b hb]; simp only [hueA, if_pos hb, M5]; split <;> simp)
theorem hueA_boxes (w : World) (own : Nat → Nat) (L : Nat) (o1 o2 : Obj) :
    Ext M5 w ((w.alloc o1).alloc o2) (hueA own L w.heap.size) (hueA own L w.heap.size) ∧ Blk ((w.alloc o1).alloc o2) (hueA own L w.heap.size) 2 w.heap.size o1 ∧ Blk ((w.alloc o1).alloc o2) (hueA own L w.heap.size) 2 (w.heap.size + 1) o2 := by
  refine ⟨(Ext.refl.alloc _).alloc _, (Blk.new w o1 (by simp [hueA])).alloc _, ?_⟩
  have := Blk.new (own := hueA own L w.heap.size) (k := 2) (w.alloc o1) o2 (by simp [hueA]; omega)
  rwa [World.size_alloc] at this
theorem _root_.Go.PM.Ext.same_cell {M : Nat → Prop} {w w' : World} {own own' : Nat → Nat} (h : Ext M w w' own own') {b i : Nat} (hb : b < w.heap.size) (hm : ¬ M (own b)) {u : Option Value} (hc : w.cell? ⟨b, i, none⟩ = u) : w'.cell? ⟨b, i, none⟩ = u := by
  have e := h.same b hb hm
  rw [← hc]
  simp only [World.cell?, e]
theorem three {w : World} {own : Nat → Nat} {k b : Nat} {T : TypeId} {x0 x1 x2 : Value} (h : Blk w own k b (.cells #[x0, x1, x2] T (0, 0))) :
    w.cell? ⟨b, 0, none⟩ = some x0 ∧ w.cell? ⟨b, 1, none⟩ = some x1 ∧ w.cell? ⟨b, 2, none⟩ = some x2 := ⟨h.cell 0, h.cell 1, h.cell 2⟩
theorem three_free {w : World} {own : Nat → Nat} {k b : Nat} {T : TypeId} {x0 x1 x2 : Value} (h : Blk w own k b (.cells #[x0, x1, x2] T (0, 0))) :
    w.frozen? ⟨b, 0, none⟩ = false ∧ w.frozen? ⟨b, 1, none⟩ = false ∧ w.frozen? ⟨b, 2, none⟩ = false := ⟨h.free 0, h.free 1, h.free 2⟩
theorem RefA.agg (h : RefA w own L v A) : ∃ ba bc, v = aAgg (.slice ba A.blocks.length bc) A := by
  obtain ⟨_, bv, vs, h, h1, _⟩ := h
  obtain ⟨ba, bc, rfl⟩ := h1.shape
  exact ⟨ba, bc, h⟩
theorem RefA.rows {A' : RA} {bv : Value} (h : RefA w own L (aAgg bv A') A) : ∃ vs, Row w own L 61 1 bv A.blocks.length vs ∧ BRows w own L A.blocks vs := by
  obtain ⟨_, bv', vs, h, h1, h2⟩ := h
  unfold aAgg at h
  injection h with h
  injection h with h
  injection h with ha h
  subst ha
  exact ⟨vs, h1, h2⟩
/-- The j-th block's slice. -/
theorem RefA.at_ {A' : RA} {ba : Option Addr} {n bc : Nat} (h : RefA w own L (aAgg (.slice ba n bc) A') A) (hn : n = A.blocks.length) {j : Nat} (hj : j < A.blocks.length) :
    ∃ g xa xc, ba = some ⟨g, 0, none⟩ ∧ g < w.heap.size ∧ own g = L ∧ w.cell? ⟨g, j, none⟩ = some (.slice xa A.blocks[j].length xc) ∧ Row w own L 2 1 (.slice xa A.blocks[j].length xc) A.blocks[j].length (longs A.blocks[j]) ∧ A.blocks[j].length ≤ 256 := by
  subst hn
  obtain ⟨vs, h1, h2⟩ := h.rows
  obtain ⟨h3, x, hx, hr⟩ := h2.2 j hj
  obtain ⟨g, cap, cur, hv, hb, _, _, _, hc⟩ := h1.cells (by omega)
  obtain ⟨xa, xc, rfl⟩ := hr.shape
  injection hv with hv1
  refine ⟨g, xa, xc, hv1, hb.lt, hb.col, ?_, hr, h3⟩
  rw [hc j (by omega), hx]
set_option maxHeartbeats 1000000 in
theorem aIs_any (hR : RefA w own L v A) (b : Int) :
    Calls Try.prog 42 #[v, .int .i64 b] w fun e w' => e = .returned (.bool (A.is b)) ∧ Below w.heap.size w w' := by
  have hlen := hR.1
  obtain ⟨ba, bc, rfl⟩ := hR.agg
  have hB : Below w.heap.size w (w.alloc (.cells #[.slice ba A.blocks.length bc, .int .i64 A.most, .int .i64 A.faults] 39)) := (Below.refl _ _).alloc (Nat.le_refl _) _
  have HB := Lib.hid hB
  clear hB
  unfold aAgg
  by_cases h1 : b < 1
  · have hr : A.is b = false := by simp [RA.is, RA.blk, h1]
    rw [hr]
    clear hr hR
    go_enter Try.func42, Try.ntmps42
    go_wp2
    go_ret
    exact ⟨rfl, HB.out⟩
  · by_cases h2 : (A.blocks.length : Int) < b
    · have hr : A.is b = false := by simp [RA.is, RA.blk, h2]
      rw [hr]
      clear hr hR
      go_enter Try.func42, Try.ntmps42
      go_wp2
      go_ret
      exact ⟨rfl, HB.out⟩
    · obtain ⟨j, rfl⟩ : ∃ j : Nat, b = (j : Int) + 1 := ⟨(b - 1).toNat, by omega⟩
      have hj : j < A.blocks.length := by omega
      have hj2 : (j : Int) < A.blocks.length := by omega
      obtain ⟨g, xa, xc, rfl, hg, _, hc, _, hx⟩ := hR.at_ rfl hj
      have hr : A.is ((j : Int) + 1) = decide (0 < A.blocks[j].length) := by
        simp only [RA.is, RA.blk_in hj]
      have hc2 : (w.alloc (.cells #[.slice (some ⟨g, 0, none⟩) A.blocks.length bc, .int .i64 A.most, .int .i64 A.faults] 39)).cell? ⟨g, j, none⟩ = some (.slice xa A.blocks[j].length xc) := by
        rw [HB.out.cell hg]; exact hc
      rw [hr]
      generalize A.blocks[j].length = q at *
      clear hr hR hc
      by_cases hq : 0 < q
      · have hq2 : (0 : Int) < q := by omega
        have e : decide (0 < q) = true := by simp [hq]
        rw [e]
        clear e
        go_enter Try.func42, Try.ntmps42
        go_wp2
        go_ret
        exact ⟨rfl, HB.out⟩
      · obtain rfl : q = 0 := by omega
        go_enter Try.func42, Try.ntmps42
        go_wp2
        go_ret
        exact ⟨rfl, HB.out⟩

/-! ### appends -/
theorem info_long : (Try.prog.info? 2).map (fun i => (i.zero, i.size, i.bytes)) = some (some (.int .i64 0), 1, 8) := by kernel_rfl
theorem info_longs : (Try.prog.info? 61).map (fun i => (i.zero, i.size, i.bytes)) = some (some (.slice none 0 0), 1, 24) := by kernel_rfl
theorem wpList_append_one {T E : TypeId} {i0 : TypeInfo} {z : Value} {bytes : Nat} (hT : Try.prog.underlying T = some (.slice E)) (hi0 : Try.prog.info? E = some i0) (hz0 : i0.zero = some z) (hz1 : i0.size = 1) (hz2 : i0.bytes = bytes) (hzc : z.cells.size = 1)
    {ops : Array Oper} {rest : List Oper} {o : Oper} {a : Act} {Q : Exit → Act → World → Prop} {w0 : World} {own : Nat → Nat} {k n : Nat} {v : Value} {xs : List Value} (hgd : o.guard = none) (s y : Operand)
    (ho : o.op = .call { callee := .builtin .append, args := #[s, y], argTypes := #[T, T] })
    (x : Value) (hxc : x.oneCell' = true) (hs : a.eval s = v) (hrow : Row w0 own k E 1 v n xs) (hn : n + 1 ≤ maxLen) (hn2 : (n + 1) * bytes ≤ 140737488355328)
    {q : Nat} (hx : a.eval y = .slice (some ⟨q, 0, none⟩) 1 1) (hq : q = w0.heap.size)
    (h : ∀ v' w' own', Row w' own' k E 1 v' (n + 1) (xs ++ [x]) → Ext (fun c => c = k) w0 w' own own' → wpList Try.prog ops Q rest (a.put o.dst v') w') :
    wpList Try.prog ops Q (o :: rest) a (w0.alloc (.cells #[x] E)) := by
  subst hq
  refine wpList_append_row hgd s y T ho i0 z bytes hT hi0 hz0 hz1 hz2 hzc (by decide) hs (hrow.alloc _) ⟨w0.heap.size, 0, none⟩ 1 1 [x] hx rfl (one_cell (new_cell rfl)) (one_ok hxc) hn hn2 ?_
  intro v' w' h1 h2 _
  exact h v' w' _ h1 ((Ext.refl.alloc _).trans h2)
theorem wpList_append_long {ops : Array Oper} {rest : List Oper} {o : Oper} {a : Act} {Q : Exit → Act → World → Prop} {w0 : World} {own : Nat → Nat} {k n : Nat} {v : Value} {xs : List Int} (hgd : o.guard = none) (s y : Operand)
    (ho : o.op = .call { callee := .builtin .append, args := #[s, y], argTypes := #[61, 61] })
    (x : Int) (hs : a.eval s = v) (hrow : Row w0 own k 2 1 v n (longs xs)) (hn : n ≤ 7000000000000)
    {q : Nat} (hx : a.eval y = .slice (some ⟨q, 0, none⟩) 1 1) (hq : q = w0.heap.size)
    (h : ∀ v' w' own', Row w' own' k 2 1 v' (n + 1) (longs (xs ++ [x])) → Ext (fun c => c = k) w0 w' own own' → wpList Try.prog ops Q rest (a.put o.dst v') w') :
    wpList Try.prog ops Q (o :: rest) a (w0.alloc (.cells #[.int .i64 x] 2)) := by
  obtain ⟨i0, hi0, hz0, hz1, hz2⟩ := info_parts info_long
  refine wpList_append_one Try.underlying61 hi0 hz0 hz1 hz2 rfl hgd s y ho (.int .i64 x) rfl hs hrow (by unfold maxLen; omega) (by omega) hx hq ?_
  intro v' w' own' h1 h2
  refine h v' w' own' ?_ h2
  simpa [longs] using h1
theorem wpList_append_blk {ops : Array Oper} {rest : List Oper} {o : Oper} {a : Act} {Q : Exit → Act → World → Prop} {w0 : World} {own : Nat → Nat} {k n : Nat} {v : Value} {xs : List Value} (hgd : o.guard = none) (s y : Operand)
    (ho : o.op = .call { callee := .builtin .append, args := #[s, y], argTypes := #[37, 37] })
    (xa : Option Addr) (xn xc : Nat) (hs : a.eval s = v) (hrow : Row w0 own k 61 1 v n xs) (hn : n ≤ 5000000000000)
    {q : Nat} (hx : a.eval y = .slice (some ⟨q, 0, none⟩) 1 1) (hq : q = w0.heap.size)
    (h : ∀ v' w' own', Row w' own' k 61 1 v' (n + 1) (xs ++ [.slice xa xn xc]) → Ext (fun c => c = k) w0 w' own own' → wpList Try.prog ops Q rest (a.put o.dst v') w') :
    wpList Try.prog ops Q (o :: rest) a (w0.alloc (.cells #[.slice xa xn xc] 61)) := by
  obtain ⟨i0, hi0, hz0, hz1, hz2⟩ := info_parts info_longs
  exact wpList_append_one Try.underlying37 hi0 hz0 hz1 hz2 rfl hgd s y ho (.slice xa xn xc) rfl hs hrow (by unfold maxLen; omega) (by omega) hx hq h

/-! ### Live -/
theorem nlive_succ (l : List (List Int)) (i : Nat) (hi : i < l.length) : nlive (l.take (i + 1)) = nlive (l.take i) + if 0 < l[i].length then 1 else 0 := by
  simp only [nlive]
  rw [List.take_succ_eq_append_getElem hi, List.filter_append, List.length_append]
  by_cases h : 0 < l[i].length <;> simp [h]
theorem mlive_succ (l : List (List Int)) (i : Nat) (hi : i < l.length) : mlive (l.take (i + 1)) = mlive (l.take i) + l[i].length := by
  simp only [mlive]
  rw [List.take_succ_eq_append_getElem hi, List.map_append, List.sum_append]
  simp
theorem nlive_le (l : List (List Int)) (i : Nat) : nlive (l.take i) ≤ i := by
  refine Nat.le_trans (List.length_filter_le _ _) ?_
  rw [List.length_take]
  exact Nat.min_le_left _ _
def LiveInv (w1 : World) (A : RA) (g : Nat) (nv mv iv : Value) (w : World) : Prop :=
  ∃ i : Nat, iv = .int .i64 i ∧ nv = .int .i64 (nlive (A.blocks.take i) : Nat) ∧ mv = .int .i64 (mlive (A.blocks.take i) : Nat) ∧ i + g = A.blocks.length ∧ mlive (A.blocks.take i) ≤ 256 * i ∧ w = w1
set_option maxHeartbeats 1000000 in
theorem aLive_any (hR : RefA w own L v A) :
    Calls Try.prog 45 #[v] w fun e w' => e = .returned (.tuple #[.int .i64 (nlive A.blocks : Nat), .int .i64 (mlive A.blocks : Nat)]) ∧ Below w.heap.size w w' := by
  have hlen := hR.1
  obtain ⟨ba, bc, rfl⟩ := hR.agg
  have HR := Lib.hid hR
  have hB : Below w.heap.size w (w.alloc (.cells #[.slice ba A.blocks.length bc, .int .i64 A.most, .int .i64 A.faults] 39)) := (Below.refl _ _).alloc (Nat.le_refl _) _
  have hb := Blk.new (own := hueA own L w.heap.size) (k := 2) w (.cells #[.slice ba A.blocks.length bc, .int .i64 A.most, .int .i64 A.faults] 39 (0, 0)) (by simp [hueA])
  obtain ⟨b0, b1, b2⟩ := three hb
  have HB := Lib.hid hB
  clear hB hR hb
  unfold aAgg
  go_enter Try.func45, Try.ntmps45
  go_wp2
  generalize hwa : w.alloc (.cells #[.slice ba A.blocks.length bc, .int .i64 A.most, .int .i64 A.faults] 39) = wa at *
  clear hwa
  go_loopg [4, 5, 6] A.blocks.length (fun g nv mv iv wr => LiveInv wa A g nv mv iv wr)
  case atStart => exact ⟨0, rfl, by simp [nlive], by simp [mlive], by omega, by simp [mlive], rfl⟩
  case round =>
    obtain ⟨i, rfl, rfl, rfl, hi, hm, rfl⟩ := hrel
    have hnl := nlive_le A.blocks i
    by_cases hlt : i < A.blocks.length
    · have hlt2 : (i : Int) < A.blocks.length := by omega
      obtain ⟨g, xa, xc, rfl, hg, _, hc, _, hx⟩ := HR.out.at_ rfl hlt
      have hc2 : wr.cell? ⟨g, i, none⟩ = some (.slice xa A.blocks[i].length xc) := by rw [HB.out.cell hg]; exact hc
      have hn2 := nlive_succ A.blocks i hlt
      have hm2 := mlive_succ A.blocks i hlt
      generalize A.blocks[i].length = q at *
      clear hc
      by_cases hq : 0 < q
      · have hq2 : (0 : Int) < q := by omega
        rw [if_pos hq] at hn2
        have HN := Lib.hid hn2
        have HM := Lib.hid hm2
        clear hn2 hm2
        go_wp2
        go_roundg (A.blocks.length - (i + 1))
        case measure => omega
        case rel => exact ⟨i + 1, by go_num, by rw [HN.out]; go_num, by rw [HM.out]; go_num, by omega, by rw [HM.out]; omega, rfl⟩
      · obtain rfl : q = 0 := by omega
        rw [if_neg hq] at hn2
        have HN := Lib.hid hn2
        have HM := Lib.hid hm2
        clear hn2 hm2
        go_wp2
        go_roundg (A.blocks.length - (i + 1))
        case measure => omega
        case rel => exact ⟨i + 1, by go_num, by rw [HN.out, Nat.add_zero], by rw [HM.out, Nat.add_zero], by omega, by rw [HM.out]; omega, rfl⟩
    · obtain rfl : i = A.blocks.length := by omega
      have HBW := Lib.hid HB.out
      rw [List.take_length]
      go_wp2
      go_ret2
      exact ⟨rfl, HBW.out⟩

/-! ### put -/
def tintA (own : Nat → Nat) (L n : Nat) : Nat → Nat := fun b => if b = n + 2 then 1 else hueA own L n b
theorem tintA_old (own : Nat → Nat) (L n : Nat) : ∀ b, b < n → tintA own L n b = hueA own L n b := fun b hb => by simp only [tintA]; rw [if_neg (by omega)]
def zeroA : List Value := [.slice none 0 0, .int .i64 0, .int .i64 0]
def PutA (w0 : World) (own0 : Nat → Nat) (L : Nat) (bv : Value) (A : RA) (ys : List Value) (g : Nat) (ov iv : Value) (w : World) : Prop :=
  ∃ (own : Nat → Nat) (i : Nat), iv = .int .i64 i ∧ i + g = ys.length ∧ Row w own 1 61 1 ov i (ys.take i) ∧
    Blk w own 2 w0.heap.size (.cells #[bv, .int .i64 A.most, .int .i64 A.faults] 39 (0, 0)) ∧
    Blk w own 2 (w0.heap.size + 1) (.cells #[.slice none 0 0, .int .i64 0, .int .i64 0] 39 (0, 0)) ∧ Ext M5 w0 w (tintA own0 L w0.heap.size) own
theorem putA_start (w : World) (own : Nat → Nat) (L : Nat) (bv : Value) (A : RA) (ys : List Value) :
    PutA w own L bv A ys ys.length (.slice (some ⟨w.heap.size + 1 + 1, 0, none⟩) 0 0) (.int .i64 0)
      (((w.alloc (.cells #[bv, .int .i64 A.most, .int .i64 A.faults] 39)).alloc (.cells #[.slice none 0 0, .int .i64 0, .int .i64 0] 39)).alloc (.cells #[] 61)) := by
  refine ⟨tintA own L w.heap.size, 0, rfl, by omega, ?_, ?_, ?_, ((Ext.refl.alloc _).alloc _).alloc _⟩
  · refine Row.start ?_
    have := Blk.new (own := tintA own L w.heap.size) (k := 1) ((w.alloc (.cells #[bv, .int .i64 A.most, .int .i64 A.faults] 39)).alloc (.cells #[.slice none 0 0, .int .i64 0, .int .i64 0] 39)) (.cells #[] 61 (0, 0)) (by simp [tintA])
    simpa using this
  · exact ((Blk.new w _ (by simp [tintA, hueA])).alloc _).alloc _
  · have := (Blk.new (own := tintA own L w.heap.size) (k := 2) (w.alloc (.cells #[bv, .int .i64 A.most, .int .i64 A.faults] 39)) (.cells #[.slice none 0 0, .int .i64 0, .int .i64 0] 39 (0, 0)) (by simp [tintA, hueA]; omega)).alloc (.cells #[] 61)
    rwa [World.size_alloc] at this
theorem putA_next {w wr wa : World} {own own1 owna : Nat → Nat} {L : Nat} {bv : Value} {A : RA} {ys : List Value} {i : Nat} {v1 x : Value} (hlt : i < ys.length) (hx : ys[i]? = some x)
    (hE : Ext M5 w wr (tintA own L w.heap.size) own1) (hb : Blk wr own1 2 w.heap.size (.cells #[bv, .int .i64 A.most, .int .i64 A.faults] 39 (0, 0)))
    (hb2 : Blk wr own1 2 (w.heap.size + 1) (.cells #[.slice none 0 0, .int .i64 0, .int .i64 0] 39 (0, 0)))
    (hEa : Ext (fun c => c = 1) wr wa own1 owna) (hra : Row wa owna 1 61 1 v1 (i + 1) (ys.take i ++ [x])) :
    PutA w own L bv A ys (ys.length - (i + 1)) v1 (.int .i64 ((i : Int) + 1)) wa := by
  have hta : ys.take (i + 1) = ys.take i ++ [x] := by
    rw [List.take_add_one, hx]
    rfl
  exact ⟨owna, i + 1, by simp, by omega, by rw [hta]; exact hra, hb.ext hEa (by simp), hb2.ext hEa (by simp), hE.trans (hEa.mono (by intro c hc; subst hc; exact ⟨by decide, by decide⟩))⟩
/-- The end of a call: the model's variable may have been set; the result's one is set. -/
theorem resA_end {wr : World} {own0 own1 : Nat → Nat} {A' : RA} {b : Nat} {z0 z1 z2 bv : Value} {c : Nat} {vs : List Value} (h0 : ∀ b, b < w.heap.size → own0 b = hueA own L w.heap.size b) (hE : Ext M5 w wr own0 own1)
    (hb : Blk wr own1 2 b (.cells #[z0, z1, z2] 39 (0, 0))) (hl : A'.blocks.length ≤ 4000000000000) (hc : c = 1 ∨ c = 5)
    (hrow : Row wr own1 c 61 1 bv A'.blocks.length vs) (hbs : BRows wr own1 5 A'.blocks vs) :
    (RefA (putCells wr b 0 [bv, .int .i64 A'.most, .int .i64 A'.faults]) (ow own w.heap.size L) L (aAgg bv A') A' ∧ Below w.heap.size w (putCells wr b 0 [bv, .int .i64 A'.most, .int .i64 A'.faults])) ∧
      (putCells wr b 0 [bv, .int .i64 A'.most, .int .i64 A'.faults]).heap[b]? = some (.cells #[bv, .int .i64 A'.most, .int .i64 A'.faults] 39 (0, 0)) := by
  have h2 : Ext (fun c => c = 2) wr (putCells wr b 0 [bv, .int .i64 A'.most, .int .i64 A'.faults]) own1 own1 := Ext.putCells (fun _ => hb.col) _ _ _ Ext.refl
  have hE2 := hE.trans (h2.mono (M' := M5) (by intro c hc; subst hc; exact ⟨by decide, by decide⟩))
  have hc2 : ¬ (c = 2) := by omega
  have hc0 : c ≠ 0 := by omega
  refine ⟨⟨⟨hl, bv, vs, rfl, ?_, ?_⟩, hueA_below h0 hE2⟩, ?_⟩
  · exact (hrow.ext h2 hc2).recol (fun b _ hb => hueA_col h0 hE2 hc0 b hb)
  · exact (hbs.ext h2 (by decide)).recol (fun b _ hb => hueA_col h0 hE2 (by decide) b hb)
  · exact (hb.putCells (cs := [z0, z1, z2]) (vs := [bv, .int .i64 A'.most, .int .i64 A'.faults]) rfl).at_
set_option maxHeartbeats 2000000 in
theorem aput_any (hR : RefA w own L v A) (j : Nat) (hj : j < A.blocks.length) (x : List Int) (xa : Option Addr) (xc : Nat) (hx : Row w own L 2 1 (.slice xa x.length xc) x.length (longs x)) (hxl : x.length ≤ 256) :
    Calls Try.prog 46 #[v, .int .i64 ((j : Int) + 1), .slice xa x.length xc] w (APost L (A.put ((j : Int) + 1) x) w own id) := by
  have hlen := hR.1
  obtain ⟨ba, bc, rfl⟩ := hR.agg
  have hR5 := hueA_ref hR
  have hx5 : Row w (hueA own L w.heap.size) 5 2 1 (.slice xa x.length xc) x.length (longs x) := hx.recol (fun b hb hc => by simp [hueA, hb, hc])
  have HR5 := Lib.hid hR5
  obtain ⟨vs, hvr, hvb⟩ := hR5.rows
  obtain ⟨ys, hys⟩ : ∃ ys, ys = vs.set j (.slice xa x.length xc) := ⟨_, rfl⟩
  have hyl : ys.length = A.blocks.length := by rw [hys, List.length_set]; exact hvb.1
  have hyb : BRows w (hueA own L w.heap.size) 5 (A.blocks.set j x) ys := by
    refine ⟨by rw [hyl]; simp, fun q hq => ?_⟩
    have hq' : q < A.blocks.length := by simpa using hq
    have hvl := hvb.1
    rw [hys, List.getElem?_set]
    by_cases hqj : j = q
    · subst hqj
      rw [if_pos rfl, if_pos (by omega)]
      simp only [List.getElem_set_self]
      exact ⟨hxl, _, rfl, hx5⟩
    · rw [if_neg hqj]
      simp only [List.getElem_set_ne hqj]
      exact hvb.2 q hq'
  have hyb' : BRows w (tintA own L w.heap.size) 5 (A.blocks.set j x) ys := hyb.recol (fun b hb hc => by rw [tintA_old own L _ b hb]; exact hc)
  have hput : (A.put ((j : Int) + 1) x).blocks = A.blocks.set j x := by
    have e1 : ((j : Int) + 1 - 1).toNat = j := by omega
    simp only [RA.put, e1]
  have HYB := Lib.hid hyb'
  have HYS := Lib.hid hys
  have HPUT := Lib.hid hput
  have HVL := Lib.hid hvb.1
  have hgetv : ∀ q, q < A.blocks.length → q ≠ j → ys[q]? = vs[q]? := fun q hq hqj => by rw [hys, List.getElem?_set, if_neg (Ne.symm hqj)]
  have hgetj : ys[j]? = some (.slice xa x.length xc) := by rw [hys, List.getElem?_set, if_pos rfl, if_pos (by have := hvb.1; omega)]
  have HGV := Lib.hid hgetv
  have HGJ := Lib.hid hgetj
  clear hR hx hx5 hys hyb hyb' hput hgetv hgetj hvb hR5
  have HVR := Lib.hid hvr
  clear hvr
  unfold aAgg
  go_enter Try.func46, Try.ntmps46
  go_wp2
  go_loopg [7, 8] ys.length (fun g ov iv wr => PutA w own L (.slice ba A.blocks.length bc) A ys g ov iv wr)
  case atStart => exact putA_start _ _ _ _ _ _
  case round =>
    obtain ⟨own1, i, rfl, hi, hr1, hb, hb2, hE⟩ := hrel
    have HE := Lib.hid hE
    have hsz := hE.size
    obtain ⟨cb0, cb1, cb2⟩ := three hb
    have HB := Lib.hid hb
    have HB2 := Lib.hid hb2
    clear hE hb hb2
    by_cases hlt : i < ys.length
    · have hlt1 : i < A.blocks.length := by omega
      have hlt2 : (i : Int) < A.blocks.length := by omega
      obtain ⟨g, ya, yc, rfl, hg, hgc, hc, _, _⟩ := HR5.out.at_ rfl hlt1
      have hc2 : wr.cell? ⟨g, i, none⟩ = some (.slice ya A.blocks[i].length yc) := HE.out.same_cell hg (by rw [tintA_old own L _ g hg, hgc]; simp [M5]) hc
      have hvi : vs[i]? = some (.slice ya A.blocks[i].length yc) := by
        obtain ⟨g', cap, cur, hv, _, _, _, _, hcc⟩ := HVR.out.cells (by omega)
        injection hv with hv1
        injection hv1 with hv1
        injection hv1 with hv1
        subst hv1
        have := hcc i (by omega)
        rw [hc] at this
        exact this.symm
      have hn5 : i ≤ 5000000000000 := by omega
      generalize A.blocks[i].length = q at *
      by_cases hij : i = j
      · have hb1 : ((i : Int) == (j : Int) + 1 - 1) = true := by simp [hij]
        have hyi : Hid (ys[i]? = some (.slice xa x.length xc)) := by rw [hij]; exact HGJ.out
        clear hij hc hvi
        go_wp2_with (at_builtin; refine wpList_append_blk rfl _ _ rfl _ _ _ rfl hr1 hn5 rfl (by simp) ?_; intro v1 wa owna hra hEa)
        go_roundg (ys.length - (i + 1))
        case measure => omega
        case rel => exact putA_next hlt hyi.out HE.out HB.out HB2.out hEa hra
      · have hb1 : ((i : Int) == (j : Int) + 1 - 1) = false := by
          simp only [beq_eq_false_iff_ne, ne_eq]; omega
        have hyi : Hid (ys[i]? = some (.slice ya q yc)) := by rw [HGV.out i hlt1 hij]; exact hvi
        clear hij hc hvi
        go_wp2_with (at_builtin; refine wpList_append_blk rfl _ _ rfl _ _ _ rfl hr1 hn5 rfl (by simp) ?_; intro v1 wa owna hra hEa)
        go_roundg (ys.length - (i + 1))
        case measure => omega
        case rel => exact putA_next hlt hyi.out HE.out HB.out HB2.out hEa hra
    · obtain rfl : i = ys.length := by omega
      rw [List.take_length, hyl] at hr1
      obtain ⟨oa, oc, rfl⟩ := hr1.shape
      have hY := HYB.out.ext HE.out (by simp [M5])
      have h2 : Ext (fun c => c = 2) wr (wr.setCell ⟨w.heap.size, 0, none⟩ (.slice oa A.blocks.length oc)) own1 own1 := Ext.refl.setCell (fun _ => HB.out.col) _
      have hEz := HE.out.trans (h2.mono (M' := M5) (by intro c hc; subst hc; exact ⟨by decide, by decide⟩))
      have hbz : Blk (wr.setCell ⟨w.heap.size, 0, none⟩ (.slice oa A.blocks.length oc)) own1 2 w.heap.size (.cells #[.slice oa A.blocks.length oc, .int .i64 A.most, .int .i64 A.faults] 39 (0, 0)) := HB.out.setCell 0 _
      have hb2z := HB2.out.setCell_other (a := ⟨w.heap.size, 0, none⟩) (by simp) (.slice oa A.blocks.length oc)
      have hbl : (A.put ((j : Int) + 1) x).blocks.length = A.blocks.length := by rw [HPUT.out, List.length_set]
      have hEND := resA_end (own := own) (L := L) (A' := A.put ((j : Int) + 1) x) (bv := .slice oa A.blocks.length oc) (c := 1) (tintA_old own L w.heap.size) hEz hb2z (by rw [hbl]; omega) (.inl rfl) (by rw [hbl]; exact hr1.ext h2 (by decide)) (by rw [HPUT.out]; exact hY.ext h2 (by decide))
      have f0 := HB.out.free 0
      obtain ⟨r0, r1, r2⟩ := three HB2.out
      obtain ⟨k0, k1, k2⟩ := three_free HB2.out
      have hm : (A.put ((j : Int) + 1) x).most = A.most ∧ (A.put ((j : Int) + 1) x).faults = A.faults := ⟨rfl, rfl⟩
      have HEND := Lib.hid hEND
      clear hEND hY h2 hEz hbz hb2z hr1 HYB HYS HPUT HVL HGV HGJ HVR HR5
      go_wp2
      ((try simp only [Exit.inBlock, Exit.then]); refine bodyPost_ret (results_cell_row rfl _ _ ((w.heap.size + 1)) 39 _ _ _ rfl (HEND.out.2) Try.underlying39 rfl (by kernel_rfl)) rfl ?_)
      exact ⟨_, rfl, HEND.out.1.1, HEND.out.1.2⟩

/-! ### Free, Reach -/
theorem hueA_old (own : Nat → Nat) (L n : Nat) : ∀ b, b < n → hueA own L n b = hueA own L n b := fun _ _ => rfl
def withErr (x : Int) : Value → Value := fun v => .tuple #[v, .int .i64 x]
theorem resA_plain {wr : World} {own0 own1 : Nat → Nat} {A' : RA} {v' : Value} (h0 : ∀ b, b < w.heap.size → own0 b = hueA own L w.heap.size b) (hE : Ext M5 w wr own0 own1) (hR : RefA wr own1 5 v' A') :
    RefA wr (ow own w.heap.size L) L v' A' ∧ Below w.heap.size w wr :=
  ⟨hR.recol (fun b _ hb => hueA_col h0 hE (by decide) b hb), hueA_below h0 hE⟩
theorem mlive_bound {l : List (List Int)} (h : ∀ (j : Nat) (hj : j < l.length), l[j].length ≤ 256) : mlive l ≤ 256 * l.length := by
  induction l with
  | nil => simp [mlive]
  | cons x l ih =>
    have h0 := h 0 (by simp)
    have := ih (fun j hj => by have h2 := h (j + 1) (by simp only [List.length_cons]; omega); rw [List.getElem_cons_succ] at h2; exact h2)
    simp only [List.getElem_cons_zero] at h0
    simp only [mlive, List.map_cons, List.sum_cons, List.length_cons] at this ⊢
    omega
theorem RA.fault_blocks (A : RA) : A.fault.blocks = A.blocks ∧ A.fault.most = A.most ∧ A.fault.faults = A.faults + 1 := ⟨rfl, rfl, rfl⟩
theorem M5_two : ∀ c, c = 2 → M5 c := by intro c hc; subst hc; exact ⟨by decide, by decide⟩
set_option maxHeartbeats 2000000 in
theorem aFree_any (hR : RefA w own L v A) (hf : -1 ≤ A.faults ∧ A.faults < 6000000000000000) (b : Int) :
    Calls Try.prog 31 #[v, .int .i64 b] w (APost L (A.free b) w own (withErr (A.freeErr b))) := by
  have hlen := hR.1
  obtain ⟨ba, bc, rfl⟩ := hR.agg
  obtain ⟨hE, hb1, hb2⟩ := hueA_boxes w own L (.cells #[.slice ba A.blocks.length bc, .int .i64 A.most, .int .i64 A.faults] 39 (0, 0)) (.cells #[.slice none 0 0, .int .i64 0, .int .i64 0] 39 (0, 0))
  have hRa := (hueA_ref hR).ext hE (by simp [M5])
  clear hR
  unfold aAgg
  go_enter Try.func31, Try.ntmps31
  go_wp2_with fail
  generalize (w.alloc (.cells #[.slice ba A.blocks.length bc, .int .i64 A.most, .int .i64 A.faults] 39)).alloc (.cells #[.slice none 0 0, .int .i64 0, .int .i64 0] 39) = wa at *
  refine (aIs_any hRa b).mono ?_
  rintro e w1 ⟨rfl, hB⟩
  have hE1 : Ext M5 w w1 (hueA own L w.heap.size) (ow (hueA own L w.heap.size) wa.heap.size 5) := hE.trans (Ext.of_below hB _ _)
  have hX : Ext (fun _ => False) wa w1 (hueA own L w.heap.size) (ow (hueA own L w.heap.size) wa.heap.size 5) := Ext.of_below hB _ _
  have hb1 := hb1.ext hX (by simp)
  have hb2 := hb2.ext hX (by simp)
  have hR1 := hRa.ext hX (by simp)
  generalize ow (hueA own L w.heap.size) wa.heap.size 5 = own1 at *
  clear hB hE hRa hX
  by_cases hi : A.is b = true
  · have he : A.freeErr b = 0 := by simp [RA.freeErr, hi]
    have hm : A.free b = A.put b [] := by simp [RA.free, hi]
    obtain ⟨j, rfl, hj, _⟩ := RA.is_in hi
    have hpost : ∀ v' w', RefA w' (ow own w.heap.size L) L v' (A.put ((j : Int) + 1) []) → Below w.heap.size w w' → APost L (A.free ((j : Int) + 1)) w own (withErr (A.freeErr ((j : Int) + 1))) (.returned (.tuple #[v', .int .i64 0])) w' := by
      rw [he, hm]; exact fun v' w' h1 h2 => ⟨v', rfl, h1, h2⟩
    have HP := Lib.hid hpost
    rw [hi]
    clear hpost hi he hm
    obtain ⟨c0, c1, c2⟩ := three hb1
    have hpt := aput_any hR1 j hj [] none 0 (Row.nil _ _ _ _ _) (by simp)
    have HPT := Lib.hid hpt
    clear hpt
    go_wp2_with fail
    refine HPT.out.mono ?_
    rintro e w3 ⟨v', rfl, hR3, hB⟩
    have hE3 := hE1.trans (Ext.of_below hB own1 5)
    have hb2 := hb2.below hB 5
    generalize ow own1 w1.heap.size 5 = own3 at *
    clear hB hE1 hR1 hb1 HPT c0 c1 c2
    obtain ⟨na, nc, rfl⟩ := hR3.agg
    obtain ⟨vs, hr1, hr2⟩ := hR3.rows
    obtain ⟨d0, d1, d2⟩ := three hb2
    obtain ⟨f0, f1, f2⟩ := three_free hb2
    have HEND := Lib.hid (resA_end (hueA_old own L w.heap.size) hE3 hb2 hR3.1 (.inr rfl) hr1 hr2)
    clear hE3 hR3 hb2 hr1 hr2
    simp only [id_eq]
    unfold aAgg
    go_wp2
    ((try simp only [Exit.inBlock, Exit.then]); refine bodyPost_ret (results_ct rfl _ _ ((w.heap.size + 1)) 39 _ _ _ rfl (HEND.out.2) Try.underlying39 rfl (by kernel_rfl)) rfl ?_)
    exact HP.out _ _ HEND.out.1.1 HEND.out.1.2
  · have hif : A.is b = false := by simpa using hi
    have he : A.freeErr b = 20 := by simp [RA.freeErr, hif]
    have hm : A.free b = A.fault := by simp [RA.free, hif]
    have hpost : ∀ v' w', RefA w' (ow own w.heap.size L) L v' A.fault → Below w.heap.size w w' → APost L (A.free b) w own (withErr (A.freeErr b)) (.returned (.tuple #[v', .int .i64 20])) w' := by
      rw [he, hm]; exact fun v' w' h1 h2 => ⟨v', rfl, h1, h2⟩
    have HP := Lib.hid hpost
    rw [hif]
    clear hpost hi he hm hif
    obtain ⟨c0, c1, c2⟩ := three hb1
    have g2 := hb1.free 2
    obtain ⟨d0, d1, d2⟩ := three hb2
    obtain ⟨f0, f1, f2⟩ := three_free hb2
    have h2 : Ext (fun c => c = 2) w1 (w1.setCell ⟨w.heap.size, 2, none⟩ (.int .i64 (A.faults + 1))) own1 own1 := Ext.refl.setCell (fun _ => hb1.col) _
    have hb2z := hb2.setCell_other (a := ⟨w.heap.size, 2, none⟩) (by simp) (.int .i64 (A.faults + 1))
    obtain ⟨vs, hr1, hr2⟩ := hR1.rows
    have hEND := resA_end (own := own) (L := L) (A' := A.fault) (c := 5) (hueA_old own L w.heap.size) (hE1.trans (h2.mono M5_two)) hb2z hR1.1 (.inr rfl) (hr1.ext h2 (by decide)) (hr2.ext h2 (by decide))
    rw [(RA.fault_blocks A).2.1, (RA.fault_blocks A).2.2] at hEND
    have HEND := Lib.hid hEND
    clear hEND hE1 hR1 hb1 hb2 h2 hb2z hr1 hr2
    go_wp2
    ((try simp only [Exit.inBlock, Exit.then]); refine bodyPost_ret (results_ct rfl _ _ ((w.heap.size + 1)) 39 _ _ _ rfl (HEND.out.2) Try.underlying39 rfl (by kernel_rfl)) rfl ?_)
    exact HP.out _ _ HEND.out.1.1 HEND.out.1.2
/-! ### CopyLongs, Set -/
theorem Row.long_at {w : World} {own : Nat → Nat} {k : Nat} {E : TypeId} {a : Option Addr} {n c : Nat} {xs : List Int} (h : Row w own k E 1 (.slice a n c) n (longs xs)) {i : Nat} (hi : i < n) :
    ∃ g, a = some ⟨g, 0, none⟩ ∧ g < w.heap.size ∧ own g = k ∧ w.frozen? ⟨g, i, none⟩ = false ∧ ∃ hx : i < xs.length, w.cell? ⟨g, i, none⟩ = some (.int .i64 xs[i]) := by
  obtain ⟨g, cap, cur, hv, hb, _, _, _, hc⟩ := h.cells (by omega)
  injection hv with hv1
  have hl : xs.length = n := by have := h.1; simpa [longs] using this
  refine ⟨g, hv1, hb.lt, hb.col, hb.free i, by omega, ?_⟩
  rw [hc i (by omega), longs, List.getElem?_map, List.getElem?_eq_getElem (by omega)]
  rfl
theorem Row.long_set {w : World} {own : Nat → Nat} {k : Nat} {E : TypeId} {g n c : Nat} {xs : List Int} (h : Row w own k E 1 (.slice (some ⟨g, 0, none⟩) n c) n (longs xs)) {i : Nat} (hi : i < n) (y : Int) :
    Row (w.setCell ⟨g, i, none⟩ (.int .i64 y)) own k E 1 (.slice (some ⟨g, 0, none⟩) n c) n (longs (xs.set i y)) := by
  obtain ⟨h1, h2 | ⟨g', cap, cur, hv, hb, hn, hc, hs, ht⟩⟩ := h
  · cases h2.1
  · injection hv with hv1 _ hv2
    injection hv1 with hv1
    injection hv1 with hv1
    subst hv1
    subst hv2
    refine ⟨by simpa [longs] using h1, .inr ⟨g, c, cur.setIfInBounds i (.int .i64 y), rfl, hb.setCell i _, hn, hc, by simpa using hs, ?_⟩⟩
    rw [Array.toList_setIfInBounds, List.take_set, ht]
    simp [longs, List.map_set]
def CopyInv (w0 : World) (xs : List Int) (g : Nat) (ov iv : Value) (w : World) : Prop :=
  ∃ (own : Nat → Nat) (i : Nat), iv = .int .i64 i ∧ i + g = xs.length ∧ Row w own 1 2 1 ov i (longs (xs.take i)) ∧ Ext (fun c => c ≠ 0) w0 w (fun _ => 0) own
/-! ### New, Alloc -/
def withTwo (t x : Int) : Value → Value := fun v => .tuple #[v, .int .i64 t, .int .i64 x]
structure AlMem (w0 : World) (own0 : Nat → Nat) (L : Nat) (bv : Value) (A : RA) (vs : List Value) (own : Nat → Nat) (w : World) : Prop where
  box : Blk w own 2 w0.heap.size (.cells #[bv, .int .i64 A.most, .int .i64 A.faults] 39 (0, 0))
  res : Blk w own 2 (w0.heap.size + 1) (.cells #[.slice none 0 0, .int .i64 0, .int .i64 0] 39 (0, 0))
  rows : BRows w own 5 A.blocks vs
  old : Row w own 5 61 1 bv A.blocks.length vs
  ext : Ext M5 w0 w (hueA own0 L w0.heap.size) own
theorem AlMem.next {w0 w w' : World} {own0 own own' : Nat → Nat} {L : Nat} {bv : Value} {A : RA} {vs : List Value} {c : Nat} (h : AlMem w0 own0 L bv A vs own w) (e : Ext (fun d => d = c) w w' own own') (hc : c = 1 ∨ c = 3) : AlMem w0 own0 L bv A vs own' w' :=
  ⟨h.box.ext e (by omega), h.res.ext e (by omega), h.rows.ext e (by omega), h.old.ext e (by omega), h.ext.trans (e.mono (by intro d hd; subst hd; exact ⟨by omega, by omega⟩))⟩
theorem AlMem.stay {w0 w w' : World} {own0 own own' : Nat → Nat} {L : Nat} {bv : Value} {A : RA} {vs : List Value} (h : AlMem w0 own0 L bv A vs own w) (e : Ext (fun _ => False) w w' own own') : AlMem w0 own0 L bv A vs own' w' :=
  ⟨h.box.ext e (by simp), h.res.ext e (by simp), h.rows.ext e (by simp), h.old.ext e (by simp), h.ext.trans (e.mono (by intro d hd; exact hd.elim))⟩
def AlInv1 (w0 : World) (own0 : Nat → Nat) (L : Nat) (bv : Value) (A : RA) (vs : List Value) (g : Nat) (ov iv : Value) (w : World) : Prop :=
  ∃ (own : Nat → Nat) (i : Nat), iv = .int .i64 i ∧ i + g = A.blocks.length ∧ Row w own 1 61 1 ov i (vs.take i) ∧ AlMem w0 own0 L bv A vs own w
def AlInv2 (w0 : World) (own0 : Nat → Nat) (L : Nat) (bv : Value) (A : RA) (vs : List Value) (n : Nat) (ov : Value) (g : Nat) (nv iv : Value) (w : World) : Prop :=
  ∃ (own : Nat → Nat) (i : Nat), iv = .int .i64 i ∧ i + g = n ∧ Row w own 1 61 1 ov A.blocks.length vs ∧ Row w own 3 2 1 nv i (longs (List.replicate i 0)) ∧ AlMem w0 own0 L bv A vs own w
theorem BRows.old_at {w : World} {own : Nat → Nat} {ba : Option Addr} {bc : Nat} {bs : List (List Int)} {vs : List Value} (h : BRows w own 5 bs vs) (h1 : Row w own 5 61 1 (.slice ba bs.length bc) bs.length vs) {j : Nat} (hj : j < bs.length) :
    ∃ g xa xc, ba = some ⟨g, 0, none⟩ ∧ w.cell? ⟨g, j, none⟩ = some (.slice xa bs[j].length xc) ∧ vs[j]? = some (.slice xa bs[j].length xc) := by
  obtain ⟨h3, x, hx, hr⟩ := h.2 j hj
  obtain ⟨g, cap, cur, hv, hb, _, _, _, hc⟩ := h1.cells (by omega)
  obtain ⟨xa, xc, rfl⟩ := hr.shape
  injection hv with hv1
  exact ⟨g, xa, xc, hv1, by rw [hc j (by omega), hx], hx⟩
theorem alloc_end {wb : World} {ownb : Nat → Nat} {bv ov na : Value} {vs : List Value} {k : Nat} (hm : AlMem w own L bv A vs ownb wb) (hro : Row wb ownb 1 61 1 ov (A.blocks.length + 1) (vs ++ [na]))
    (hr3 : Row wb ownb 3 2 1 na k (longs (List.replicate k 0))) (hk : k ≤ 256) (hl : A.blocks.length < 4000000000000) :
    (RefA (putCells (wb.setCell ⟨w.heap.size, 0, none⟩ ov) (w.heap.size + 1) 0 [ov, .int .i64 A.most, .int .i64 A.faults]) (ow own w.heap.size L) L (aAgg ov { A with blocks := A.blocks ++ [List.replicate k 0] }) { A with blocks := A.blocks ++ [List.replicate k 0] } ∧
      Below w.heap.size w (putCells (wb.setCell ⟨w.heap.size, 0, none⟩ ov) (w.heap.size + 1) 0 [ov, .int .i64 A.most, .int .i64 A.faults])) ∧
      (putCells (wb.setCell ⟨w.heap.size, 0, none⟩ ov) (w.heap.size + 1) 0 [ov, .int .i64 A.most, .int .i64 A.faults]).heap[w.heap.size + 1]? = some (.cells #[ov, .int .i64 A.most, .int .i64 A.faults] 39 (0, 0)) := by
  have h2 : Ext (fun c => c = 2) wb (wb.setCell ⟨w.heap.size, 0, none⟩ ov) ownb ownb := Ext.refl.setCell (fun _ => hm.box.col) _
  have hE2 := hm.ext.trans (h2.mono M5_two)
  have hres := hm.res.setCell_other (a := ⟨w.heap.size, 0, none⟩) (by simp) ov
  have hcol : ∀ b, b < w.heap.size → ownb b ≠ 3 := fun b hb => by rw [hm.ext.col b hb]; simp only [hueA, if_pos hb]; split <;> decide
  have hE3 : Ext M5 w (wb.setCell ⟨w.heap.size, 0, none⟩ ov) (hueA own L w.heap.size) (fun b => if ownb b = 3 then 5 else ownb b) :=
    ⟨hE2.os, hE2.tape, hE2.output, hE2.size, fun b hb => by rw [if_neg (hcol b hb)]; exact hE2.col b hb, hE2.same⟩
  have hres3 := hres.recol (own' := fun b => if ownb b = 3 then 5 else ownb b) (by show (if ownb (w.heap.size + 1) = 3 then 5 else ownb (w.heap.size + 1)) = 2; rw [hres.col]; rfl)
  have hro3 := (hro.ext h2 (by decide)).recol (own' := fun b => if ownb b = 3 then 5 else ownb b) (k' := 1) (fun b _ hc => by show (if ownb b = 3 then 5 else ownb b) = 1; rw [hc]; rfl)
  have hold := (hm.rows.ext h2 (by decide)).recol (own' := fun b => if ownb b = 3 then 5 else ownb b) (L' := 5) (fun b _ hc => by show (if ownb b = 3 then 5 else ownb b) = 5; rw [hc]; rfl)
  have hnew := (hr3.ext h2 (by decide)).recol (own' := fun b => if ownb b = 3 then 5 else ownb b) (k' := 5) (fun b _ hc => by show (if ownb b = 3 then 5 else ownb b) = 5; rw [hc]; rfl)
  have hbs : BRows (wb.setCell ⟨w.heap.size, 0, none⟩ ov) (fun b => if ownb b = 3 then 5 else ownb b) 5 (A.blocks ++ [List.replicate k 0]) (vs ++ [na]) := by
    refine ⟨by simp [hold.1], fun j hj => ?_⟩
    by_cases hjl : j < A.blocks.length
    · obtain ⟨p1, x, p2, p3⟩ := hold.2 j hjl
      rw [List.getElem_append_left hjl, List.getElem?_append_left (by rw [hold.1]; exact hjl)]
      exact ⟨p1, x, p2, p3⟩
    · have hje : j = A.blocks.length := by simp at hj; omega
      subst hje
      rw [List.getElem_append_right (Nat.le_refl _), List.getElem?_append_right (by rw [hold.1]; exact Nat.le_refl _)]
      simp only [Nat.sub_self, List.getElem_cons_zero, hold.1, List.getElem?_cons_zero, List.length_replicate]
      exact ⟨hk, na, rfl, hnew⟩
  exact resA_end (own := own) (L := L) (A' := { A with blocks := A.blocks ++ [List.replicate k 0] }) (c := 1) (hueA_old own L w.heap.size) hE3 hres3 (by simp; omega) (.inl rfl) (by simpa using hro3) hbs
set_option maxHeartbeats 2000000 in
theorem aAlloc_any (hR : RefA w own L v A) (hlen2 : A.blocks.length < 4000000000000) (hm : 0 ≤ A.most ∧ A.most ≤ 65536) (n : Int) :
    Calls Try.prog 29 #[v, .int .i64 n] w (APost L (A.alloc n) w own (withTwo (A.allocId n) (A.allocErr n))) := by
  have hlen := hR.1
  obtain ⟨ba, bc, rfl⟩ := hR.agg
  obtain ⟨hE, hb1, hb2⟩ := hueA_boxes w own L (.cells #[.slice ba A.blocks.length bc, .int .i64 A.most, .int .i64 A.faults] 39 (0, 0)) (.cells #[.slice none 0 0, .int .i64 0, .int .i64 0] 39 (0, 0))
  have hRa := (hueA_ref hR).ext hE (by simp [M5])
  have hposts : ∀ e : Int, A.allocErr n = e → e ≠ 0 → Hid (∀ v' w', RefA w' (ow own w.heap.size L) L v' A → Below w.heap.size w w' → APost L (A.alloc n) w own (withTwo (A.allocId n) (A.allocErr n)) (.returned (.tuple #[v', .int .i64 0, .int .i64 e])) w') := by
    intro e he hne
    have h1 : A.alloc n = A := by simp [RA.alloc, he, hne]
    have h2 : A.allocId n = 0 := by simp [RA.allocId, he, hne]
    rw [h1, h2, he]
    exact fun v' w' h1 h2 => ⟨v', rfl, h1, h2⟩
  have hR5 := hueA_ref hR
  clear hR
  unfold aAgg
  by_cases hn1 : n < 1 ∨ 256 < n
  · have HP := hposts 1 (by unfold RA.allocErr; rw [if_pos hn1]) (by decide)
    obtain ⟨hE', _, hb2'⟩ := hueA_boxes w own L (.cells #[.slice ba A.blocks.length bc, .int .i64 A.most, .int .i64 A.faults] 39 (0, 0)) (.cells #[.slice ba A.blocks.length bc, .int .i64 A.most, .int .i64 A.faults] 39 (0, 0))
    have HEND := Lib.hid (And.intro (resA_plain (hueA_old own L w.heap.size) hE' (hR5.ext hE' (by simp [M5]))) hb2'.at_)
    clear hposts hE hb1 hb2 hRa hR5 hE' hb2'
    rcases (show n < 1 ∨ (1 ≤ n ∧ 256 < n) by omega) with h1 | ⟨h1, h2⟩
    · clear hn1
      go_enter Try.func29, Try.ntmps29
      go_wp2
      ((try simp only [Exit.inBlock, Exit.then]); refine bodyPost_ret (results_ctt' rfl _ _ ((w.heap.size + 1)) 39 _ _ _ rfl (HEND.out.2) Try.underlying39 rfl (by kernel_rfl)) rfl ?_)
      exact HP.out _ _ HEND.out.1.1 HEND.out.1.2
    · clear hn1
      go_enter Try.func29, Try.ntmps29
      go_wp2
      ((try simp only [Exit.inBlock, Exit.then]); refine bodyPost_ret (results_ctt' rfl _ _ ((w.heap.size + 1)) 39 _ _ _ rfl (HEND.out.2) Try.underlying39 rfl (by kernel_rfl)) rfl ?_)
      exact HP.out _ _ HEND.out.1.1 HEND.out.1.2
  · have h1 : 1 ≤ n := by omega
    have h2 : n ≤ 256 := by omega
    have hae : A.allocErr n = if A.most < mlive A.blocks + n then 21 else 0 := by unfold RA.allocErr; rw [if_neg hn1]
    have hml : mlive A.blocks ≤ 256 * A.blocks.length := by
      obtain ⟨vs, _, hr2⟩ := hRa.rows
      exact mlive_bound (fun j hj => (hr2.2 j hj).1)
    have HAE := Lib.hid hae
    clear hn1 hR5 hae
    go_enter Try.func29, Try.ntmps29
    go_wp2_with fail
    generalize (w.alloc (.cells #[.slice ba A.blocks.length bc, .int .i64 A.most, .int .i64 A.faults] 39)).alloc (.cells #[.slice none 0 0, .int .i64 0, .int .i64 0] 39) = wa at *
    refine (aLive_any hRa).mono ?_
    rintro e w1 ⟨rfl, hB⟩
    have hX : ∀ M, Ext M wa w1 (hueA own L w.heap.size) (ow (hueA own L w.heap.size) wa.heap.size 2) := fun M => Ext.of_below hB _ _
    have hE1 := hE.trans (hX M5)
    have hb1 := hb1.ext (hX (fun _ => False)) (by simp)
    have hb2 := hb2.ext (hX (fun _ => False)) (by simp)
    have hR1 := hRa.ext (hX (fun _ => False)) (by simp)
    generalize ow (hueA own L w.heap.size) wa.heap.size 2 = own1 at *
    obtain ⟨vs, hr1, hr2⟩ := hR1.rows
    clear hB hE hRa hX
    obtain ⟨c0, c1, c2⟩ := three hb1
    obtain ⟨g0, g1, g2⟩ := three_free hb1
    obtain ⟨ml, hmle⟩ : ∃ ml, ml = mlive A.blocks := ⟨_, rfl⟩
    rw [← hmle] at HAE hml ⊢
    clear hmle
    by_cases hfull : A.most < ml + n
    · have HP := hposts 21 (by rw [HAE.out, if_pos hfull]) (by decide)
      obtain ⟨d0, d1, d2⟩ := three hb2
      obtain ⟨f0, f1, f2⟩ := three_free hb2
      have HEND := Lib.hid (resA_end (own := own) (L := L) (A' := A) (c := 5) (hueA_old own L w.heap.size) hE1 hb2 hR1.1 (.inr rfl) hr1 hr2)
      clear hposts hE1 hb1 hb2 hR1 hr1 hr2 HAE
      go_wp2
      ((try simp only [Exit.inBlock, Exit.then]); refine bodyPost_ret (results_ctt' rfl _ _ ((w.heap.size + 1)) 39 _ _ _ rfl (HEND.out.2) Try.underlying39 rfl (by kernel_rfl)) rfl ?_)
      exact HP.out _ _ HEND.out.1.1 HEND.out.1.2
    · have he : A.allocErr n = 0 := by rw [HAE.out, if_neg hfull]
      have hal : A.alloc n = { A with blocks := A.blocks ++ [List.replicate n.toNat 0] } := by simp [RA.alloc, he]
      have hid : A.allocId n = A.blocks.length + 1 := by simp [RA.allocId, he]
      have hpost : ∀ v' w', RefA w' (ow own w.heap.size L) L v' { A with blocks := A.blocks ++ [List.replicate n.toNat 0] } → Below w.heap.size w w' → APost L (A.alloc n) w own (withTwo (A.allocId n) (A.allocErr n)) (.returned (.tuple #[v', .int .i64 ((A.blocks.length + 1 : Nat) : Int), .int .i64 0])) w' := by
        rw [he, hal, hid]; exact fun v' w' h1 h2 => ⟨v', by simp [withTwo], h1, h2⟩
      have HP := Lib.hid hpost
      have hmem : AlMem w own L (.slice ba A.blocks.length bc) A vs own1 w1 := ⟨hb1, hb2, hr2, hr1, hE1⟩
      have HMEM := Lib.hid hmem
      clear hposts hpost he hal hid HAE hE1 hb1 hb2 hR1 hr1 hr2 hmem
      have hfull2 : (ml : Int) + n ≤ A.most := by omega
      obtain ⟨q, rfl⟩ := Int.eq_ofNat_of_zero_le (show 0 ≤ n by omega)
      go_wp2
      go_loopg [9, 10] A.blocks.length (fun g ov iv wr => AlInv1 w own L (.slice ba A.blocks.length bc) A vs g ov iv wr)
      case atStart =>
        have hm2 := (HMEM.out.stay (Ext.refl.ow 1)).stay (Ext.refl.alloc (.cells #[] 61))
        exact ⟨_, 0, rfl, by omega, Row.start (Blk.new w1 _ (ow_ge (Nat.le_refl _))), hm2⟩
      case round =>
        clear HMEM g0 g1 g2 c0 c1 c2
        obtain ⟨own2, i, rfl, hi, hr1, hmem⟩ := hrel
        have HM := Lib.hid hmem
        clear hmem
        obtain ⟨c0, c1, c2⟩ := three HM.out.box
        by_cases hlt : i < A.blocks.length
        · have hlt2 : (i : Int) < A.blocks.length := by omega
          obtain ⟨g, xa, xc, rfl, hc, hvi⟩ := BRows.old_at HM.out.rows HM.out.old hlt
          have hlv := HM.out.rows.1
          have hta : vs.take (i + 1) = vs.take i ++ [.slice xa A.blocks[i].length xc] := by rw [List.take_add_one, hvi]; rfl
          have HTA := Lib.hid hta
          clear hta hvi
          generalize A.blocks[i].length = qq at *
          have hn5 : i ≤ 5000000000000 := by omega
          go_wp2_with (at_builtin; refine wpList_append_blk rfl _ _ rfl _ _ _ rfl hr1 hn5 rfl (by simp) ?_; intro v1 wb ownb hrb hEb)
          go_roundg (A.blocks.length - (i + 1))
          case measure => omega
          case rel => exact ⟨ownb, i + 1, by go_num, by omega, by rw [HTA.out]; exact hrb, HM.out.next hEb (.inl rfl)⟩
        · obtain rfl : i = A.blocks.length := by omega
          rw [List.take_of_length_le (by have := HM.out.rows.1; omega)] at hr1
          have HR1 := Lib.hid hr1
          clear hr1
          go_wp2
          go_loopg [11, 12] q (fun g nv iv wx => AlInv2 w own L (.slice ba A.blocks.length bc) A vs q u9 g nv iv wx)
          case atStart =>
            have hm2 := (HM.out.stay (Ext.refl.ow 3)).stay (Ext.refl.alloc (.cells #[] 2))
            exact ⟨_, 0, rfl, by omega, (HR1.out.ext (M := fun _ => False) (Ext.refl.ow 3) (by simp)).alloc _, Row.start (Blk.new wr _ (ow_ge (Nat.le_refl _))), hm2⟩
          case round =>
            clear HM HR1 c0 c1 c2
            obtain ⟨own3, k, rfl, hk, hr1, hr3, hmem⟩ := hrel
            have HM := Lib.hid hmem
            clear hmem
            obtain ⟨c0, c1, c2⟩ := three HM.out.box
            by_cases hkq : k < q
            · have hkq2 : (k : Int) < q := by omega
              have hn7 : k ≤ 7000000000000 := by omega
              go_wp2_with (at_builtin; refine wpList_append_long rfl _ _ rfl _ rfl hr3 hn7 rfl (by simp) ?_; intro v1 wb ownb hrb hEb)
              go_roundg (q - (k + 1))
              case measure => omega
              case rel => exact ⟨ownb, k + 1, by go_num, by omega, hr1.ext hEb (by decide), by rw [List.replicate_succ']; exact hrb, HM.out.next hEb (.inr rfl)⟩
            · obtain rfl : k = q := by omega
              have hn5 : A.blocks.length ≤ 5000000000000 := by omega
              obtain ⟨na, nc, rfl⟩ := hr3.shape
              have HR3 := Lib.hid hr3
              clear hr3
              go_wp2_with (at_builtin; refine wpList_append_blk rfl _ _ rfl _ _ _ rfl hr1 hn5 rfl (by simp) ?_; intro v1 wb ownb hrb hEb; obtain ⟨oa, oc, rfl⟩ := hrb.shape; have HM2 := Lib.hid (HM.out.next hEb (.inl rfl)); obtain ⟨e0, e1, e2⟩ := three HM2.out.box; obtain ⟨k0, k1, k2⟩ := three HM2.out.res; obtain ⟨f0, f1, f2⟩ := three_free HM2.out.res; have g0 := HM2.out.box.free 0)
              have HEND := Lib.hid (alloc_end HM2.out hrb (HR3.out.ext hEb (by decide)) (by omega) hlen2)
              clear hrb hEb HM2
              ((try simp only [Exit.inBlock, Exit.then]); refine bodyPost_ret (results_ctt' rfl _ _ ((w.heap.size + 1)) 39 _ _ _ rfl (HEND.out.2) Try.underlying39 rfl (by kernel_rfl)) rfl ?_)
              have hfin := HP.out _ _ HEND.out.1.1 HEND.out.1.2
              exact hfin
end
end Go.Proofs.Ytdomehpdjnfkeaa
