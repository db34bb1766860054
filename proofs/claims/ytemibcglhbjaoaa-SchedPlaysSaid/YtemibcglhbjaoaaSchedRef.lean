/- Layer 6, the document's answer: what each function of package pythiaref06 answers, told over a plain list of states and keys. -/
import Derived.Test.YtemibcglhbjaoaaSched
import Derived.Test.YtemibcglhbjaoaaRes
set_option maxRecDepth 20000
set_option linter.unusedVariables false
set_option linter.unusedSimpArgs false
namespace Go.Proofs.Ytemibcglhbjaoaa
open Go.RowKit Go.PM

/-- The document's scheduler: states and keys, the n-th thread's at place n - 1. -/
structure RV where
  ths : List (Int × Int)
  most : Int
  good : Int
  bad : Int
def RV.state (R : RV) (t : Int) : Int := if t < 1 ∨ (R.ths.length : Int) < t then 0 else (R.ths.getD (t - 1).toNat (0, 0)).1
def RV.put (R : RV) (t : Int) (p : Int × Int) : RV := { R with ths := R.ths.set (t - 1).toNat p }
def RV.moveErr (R : RV) (t fr : Int) : Int := if R.state t = 0 then 61 else if R.state t ≠ fr then 60 else 0
def RV.move (R : RV) (t fr to key : Int) : RV := if R.moveErr t fr = 0 then R.put t (to, key) else R
def RV.live (R : RV) : Int := (R.ths.filter fun p => p.1 != 0).length
def RV.spawnErr (R : RV) : Int := if R.most ≤ R.live then 3 else 0
def RV.spawnId (R : RV) : Int := if R.spawnErr = 0 then R.ths.length + 1 else 0
def RV.spawn (R : RV) : RV := if R.spawnErr = 0 then { R with ths := R.ths ++ [(1, 0)] } else R
def RV.wake (R : RV) (key : Int) : RV := { R with ths := R.ths.map fun p => if wakes key p then (1, 0) else p }
def RV.woken (R : RV) (key : Int) : Int := (R.ths.filter (wakes key)).length
def RV.ready (R : RV) : List Int := readyFrom R.ths 1
def RV.fresh (most : Int) : RV := ⟨[], min (max most 1) 8, 0, 0⟩

def refAgg (sv kv : Value) (R : RV) : Value := .agg #[sv, kv, .int .i64 R.most, .int .i64 R.good, .int .i64 R.bad]
/-- v is the document's scheduler R; its rows lie in blocks of colour L. -/
def Ref (w : World) (own : Nat → Nat) (L : Nat) (v : Value) (R : RV) : Prop :=
  R.ths.length ≤ 6000000000000 ∧ ∃ sv kv, v = refAgg sv kv R ∧ Row w own L 3 1 sv R.ths.length (intsV (R.ths.map Prod.fst)) ∧ Row w own L 3 1 kv R.ths.length (intsV (R.ths.map Prod.snd))
section
variable {M : Nat → Prop} {w w' : World} {own own' : Nat → Nat} {L : Nat} {v : Value} {R : RV}
theorem Ref.ext (h : Ref w own L v R) (e : Ext M w w' own own') (hk : ¬ M L) : Ref w' own' L v R := by
  obtain ⟨hl, sv, kv, h1, h2, h3⟩ := h
  exact ⟨hl, sv, kv, h1, h2.ext e hk, h3.ext e hk⟩
theorem Ref.below (h : Ref w own L v R) (e : Below w.heap.size w w') : Ref w' (ow own w.heap.size L) L v R := by
  obtain ⟨hl, sv, kv, h1, h2, h3⟩ := h
  exact ⟨hl, sv, kv, h1, h2.below e L, h3.below e L⟩
theorem Ref.recol {L' : Nat} (h : Ref w own L v R) (hc : ∀ b, b < w.heap.size → own b = L → own' b = L') : Ref w own' L' v R := by
  obtain ⟨hl, sv, kv, h1, h2, h3⟩ := h
  exact ⟨hl, sv, kv, h1, h2.recol hc, h3.recol hc⟩
/-- The empty one. -/
theorem Ref.empty (w : World) (own : Nat → Nat) (L : Nat) : Ref w own L (.agg #[.slice none 0 0, .slice none 0 0, .int .i64 0, .int .i64 0, .int .i64 0]) ⟨[], 0, 0, 0⟩ :=
  ⟨by simp, _, _, rfl, by simpa [intsV] using Row.nil w own L 3 1, by simpa [intsV] using Row.nil w own L 3 1⟩
end
/-- An element of a row of ints. -/
theorem _root_.Go.PM.Row.int_at {w : World} {own : Nat → Nat} {k : Nat} {E : TypeId} {a : Option Addr} {n c : Nat} {xs : List Int} (h : Row w own k E 1 (.slice a n c) n (intsV xs)) {i : Nat} (hi : i < n) :
    ∃ g, a = some ⟨g, 0, none⟩ ∧ g < w.heap.size ∧ ∃ hx : i < xs.length, w.cell? ⟨g, i, none⟩ = some (.int .i64 xs[i]) := by
  obtain ⟨g, cap, cur, hv, hb, _, _, _, hc⟩ := h.cells (by omega)
  injection hv with hv1
  have hl : xs.length = n := by have := h.1; simpa [intsV] using this
  refine ⟨g, hv1, hb.lt, by omega, ?_⟩
  rw [hc i (by omega), intsV, List.getElem?_map, List.getElem?_eq_getElem (by omega)]
  rfl
/-- A call answers a scheduler R', its rows new or of colour L, and leaves memory as it was. -/
def RPost (L : Nat) (R' : RV) (w : World) (own : Nat → Nat) (f : Value → Value) (e : Ending) (w' : World) : Prop :=
  ∃ v', e = .returned (f v') ∧ Ref w' (ow own w.heap.size L) L v' R' ∧ Below w.heap.size w w'
section
variable {w : World} {own : Nat → Nat} {L : Nat} {v : Value} {R : RV}
set_option maxHeartbeats 400000 in
theorem rState_any (hR : Ref w own L v R) (t : Int) :
    Calls Try.prog 42 #[v, .int .i64 t] w fun e w' => e = .returned (.int .i64 (R.state t)) ∧ Below w.heap.size w w' := by
  obtain ⟨hlen, sv, kv, rfl, h1, h2⟩ := hR
  obtain ⟨sa, sc, rfl⟩ := h1.shape
  have hB : Below w.heap.size w (w.alloc (.cells #[.slice sa R.ths.length sc, kv, .int .i64 R.most, .int .i64 R.good, .int .i64 R.bad] 35)) := (Below.refl _ _).alloc (Nat.le_refl _) _
  have HB := Lib.hid hB
  clear hB
  unfold refAgg
  by_cases ht : t < 1
  · have hr : R.state t = 0 := by unfold RV.state; rw [if_pos (by omega)]
    rw [hr]
    clear hr h1 h2
    go_enter Try.func42, Try.ntmps42
    go_wp2
    go_ret
    exact ⟨rfl, HB.out⟩
  · by_cases h3 : (R.ths.length : Int) < t
    · have hr : R.state t = 0 := by unfold RV.state; rw [if_pos (by omega)]
      rw [hr]
      clear hr h1 h2
      go_enter Try.func42, Try.ntmps42
      go_wp2
      go_ret
      exact ⟨rfl, HB.out⟩
    · obtain ⟨i, rfl⟩ : ∃ i : Nat, t = (i : Int) + 1 := ⟨(t - 1).toNat, by omega⟩
      have hi : i < R.ths.length := by omega
      obtain ⟨g, rfl, hgl, hx, hc⟩ := h1.int_at hi
      have hr : R.state ((i : Int) + 1) = R.ths[i].1 := by
        unfold RV.state
        rw [if_neg (by omega)]
        simp [hi]
      rw [hr]
      rw [List.getElem_map] at hc
      generalize R.ths[i].1 = x at *
      have hi2 : (i : Int) < R.ths.length := by omega
      have hl0 : 0 ≤ R.ths.length := by omega
      have hc2 : (w.alloc (.cells #[.slice (some ⟨g, 0, none⟩) R.ths.length sc, kv, .int .i64 R.most, .int .i64 R.good, .int .i64 R.bad] 35)).cell? ⟨g, i, none⟩ = some (.int .i64 x) := by
        rw [HB.out.cell hgl]; exact hc
      clear hr h1 h2
      go_enter Try.func42, Try.ntmps42
      go_wp2
      go_ret
      exact ⟨rfl, HB.out⟩

/-- append(v, x) at the operation, x boxed just ahead of it: v holds ints. -/
theorem wpList_append_int {ops : Array Oper} {rest : List Oper} {o : Oper} {a : Act} {Q : Exit → Act → World → Prop} {w0 : World} {own : Nat → Nat} {k n : Nat} {v : Value} {xs : List Int} (hgd : o.guard = none) (s y : Operand)
    (ho : o.op = .call { callee := .builtin .append, args := #[s, y], argTypes := #[26, 26] })
    (x : Int) (hs : a.eval s = v) (hrow : Row w0 own k 3 1 v n (intsV xs)) (hn : n ≤ 7000000000000)
    {q : Nat} (hx : a.eval y = .slice (some ⟨q, 0, none⟩) 1 1) (hq : q = w0.heap.size)
    (h : ∀ v' w' own', Row w' own' k 3 1 v' (n + 1) (intsV (xs ++ [x])) → Ext (fun c => c = k) w0 w' own own' → wpList Try.prog ops Q rest (a.put o.dst v') w') :
    wpList Try.prog ops Q (o :: rest) a (w0.alloc (.cells #[.int .i64 x] 3)) := by
  subst hq
  obtain ⟨i0, hi0, hz0, hz1, hz2⟩ := info_parts info_int
  have hb1 : n + 1 ≤ maxLen := by unfold maxLen; omega
  have hb2 : (n + 1) * 8 ≤ 140737488355328 := by omega
  refine wpList_append_row hgd s y 26 ho i0 (.int .i64 0) 8 Try.underlying26 hi0 hz0 hz1 hz2 rfl (by decide) hs (hrow.alloc _) ⟨w0.heap.size, 0, none⟩ 1 1 [.int .i64 x] hx rfl (one_cell (new_cell rfl)) (one_ok rfl) hb1 hb2 ?_
  intro v' w' h1 h2 _
  refine h v' w' _ ?_ ((Ext.refl.alloc _).trans h2)
  simpa [intsV] using h1

/-- put: after i elements. -/
def PutInv (w0 : World) (sv kv : Value) (R : RV) (m : List (Int × Int)) (nsv nkv iv : Value) (w : World) : Prop :=
  ∃ (own : Nat → Nat) (i : Nat), iv = .int .i64 i ∧ i ≤ m.length ∧ Row w own 1 3 1 nsv i (intsV ((m.take i).map Prod.fst)) ∧ Row w own 3 3 1 nkv i (intsV ((m.take i).map Prod.snd)) ∧
    Blk w own 2 w0.heap.size (.cells #[sv, kv, .int .i64 R.most, .int .i64 R.good, .int .i64 R.bad] 35 (0, 0)) ∧
    Blk w own 2 (w0.heap.size + 1) (.cells #[.slice none 0 0, .slice none 0 0, .int .i64 0, .int .i64 0, .int .i64 0] 35 (0, 0)) ∧
    Ext (fun c => c ≠ 0) w0 w (fun _ => 0) own
theorem intsV_append (xs ys : List Int) : intsV (xs ++ ys) = intsV xs ++ intsV ys := by simp [intsV]
/-- Colours at put's beginning: 0 what was there, 2 the boxes, 1 and 3 the new rows. -/
def tint (n : Nat) : Nat → Nat := fun b => if b < n then 0 else if b = n + 2 then 1 else if b = n + 3 then 3 else 2
theorem put_start (w : World) (sv kv : Value) (R : RV) (m : List (Int × Int)) :
    PutInv w sv kv R m (.slice (some ⟨w.heap.size + 1 + 1, 0, none⟩) 0 0) (.slice (some ⟨w.heap.size + 1 + 1 + 1, 0, none⟩) 0 0) (.int .i64 0)
      ((((w.alloc (.cells #[sv, kv, .int .i64 R.most, .int .i64 R.good, .int .i64 R.bad] 35)).alloc (.cells #[.slice none 0 0, .slice none 0 0, .int .i64 0, .int .i64 0, .int .i64 0] 35)).alloc (.cells #[] 3)).alloc (.cells #[] 3)) := by
  refine ⟨tint w.heap.size, 0, rfl, by omega, Row.start ?_, Row.start ?_, ?_, ?_, ?_⟩
  · refine Blk.alloc ?_ _
    have := Blk.new (own := tint w.heap.size) (k := 1) ((w.alloc (.cells #[sv, kv, .int .i64 R.most, .int .i64 R.good, .int .i64 R.bad] 35)).alloc (.cells #[.slice none 0 0, .slice none 0 0, .int .i64 0, .int .i64 0, .int .i64 0] 35)) (.cells #[] 3) (by simp [tint]; omega)
    simpa using this
  · have := Blk.new (own := tint w.heap.size) (k := 3) (((w.alloc (.cells #[sv, kv, .int .i64 R.most, .int .i64 R.good, .int .i64 R.bad] 35)).alloc (.cells #[.slice none 0 0, .slice none 0 0, .int .i64 0, .int .i64 0, .int .i64 0] 35)).alloc (.cells #[] 3)) (.cells #[] 3) (by simp [tint]; omega)
    simpa using this
  · exact ((((Blk.new w _ (by simp [tint])).alloc _).alloc _).alloc _)
  · have := Blk.new (own := tint w.heap.size) (k := 2) (w.alloc (.cells #[sv, kv, .int .i64 R.most, .int .i64 R.good, .int .i64 R.bad] 35)) (.cells #[.slice none 0 0, .slice none 0 0, .int .i64 0, .int .i64 0, .int .i64 0] 35) (by simp [tint])
    rw [World.size_alloc] at this
    exact (this.alloc _).alloc _
  · have h0 : Ext (fun c => c ≠ 0) w w (fun _ => 0) (tint w.heap.size) := ⟨rfl, rfl, rfl, Nat.le_refl _, fun b hb => by simp [tint, hb], fun _ _ _ => rfl⟩
    exact (((h0.alloc _).alloc _).alloc _).alloc _
theorem put_next {w wr wa wb : World} {sv kv : Value} {R : RV} {m : List (Int × Int)} {own1 owna ownb : Nat → Nat} {i : Nat} {v1 v3 : Value} {x1 x2 : Int} (hlt : i < m.length) (hx : m[i] = (x1, x2))
    (hE : Ext (fun c => c ≠ 0) w wr (fun _ => 0) own1) (hb : Blk wr own1 2 w.heap.size (.cells #[sv, kv, .int .i64 R.most, .int .i64 R.good, .int .i64 R.bad] 35 (0, 0)))
    (hb2 : Blk wr own1 2 (w.heap.size + 1) (.cells #[.slice none 0 0, .slice none 0 0, .int .i64 0, .int .i64 0, .int .i64 0] 35 (0, 0)))
    (hEa : Ext (fun c => c = 1) wr wa own1 owna) (hEb : Ext (fun c => c = 3) wa wb owna ownb)
    (hra : Row wa owna 1 3 1 v1 (i + 1) (intsV ((m.take i).map Prod.fst ++ [x1]))) (hrc : Row wb ownb 3 3 1 v3 (i + 1) (intsV ((m.take i).map Prod.snd ++ [x2]))) :
    PutInv w sv kv R m v1 v3 (.int .i64 ((i : Int) + 1)) wb := by
  have hta : m.take (i + 1) = m.take i ++ [(x1, x2)] := by rw [List.take_succ_eq_append_getElem hlt, hx]
  refine ⟨ownb, i + 1, by simp, by omega, ?_, ?_, (hb.ext hEa (by simp)).ext hEb (by simp), (hb2.ext hEa (by simp)).ext hEb (by simp), (hE.trans (hEa.mono (by simp))).trans (hEb.mono (by simp))⟩
  · rw [hta, List.map_append]; exact hra.ext hEb (by simp)
  · rw [hta, List.map_append]; exact hrc
/-- What a call of the document's leaves: the model's variable and the result's one are set. -/
def refEnd (wr : World) (n : Nat) (sv kv : Value) (R : RV) : World :=
  putCells (putCells wr n 0 [sv, kv]) (n + 1) 0 [sv, kv, .int .i64 R.most, .int .i64 R.good, .int .i64 R.bad]
theorem ref_end {w wr : World} {own own1 : Nat → Nat} {L : Nat} {sv kv a c : Value} {R R' : RV} {cs : List Value} (hE : Ext (fun c => c ≠ 0) w wr (fun _ => 0) own1)
    (hb : Blk wr own1 2 w.heap.size (.cells #[a, c, .int .i64 R.most, .int .i64 R.good, .int .i64 R.bad] 35 (0, 0)))
    (hb2 : Blk wr own1 2 (w.heap.size + 1) (.cells cs.toArray 35 (0, 0))) (hcs : cs.length = 5)
    (hl : R'.ths.length ≤ 6000000000000) (hm : R'.most = R.most) (hg : R'.good = R.good) (hbd : R'.bad = R.bad)
    (hr1 : Row wr own1 1 3 1 sv R'.ths.length (intsV (R'.ths.map Prod.fst))) (hr3 : Row wr own1 3 3 1 kv R'.ths.length (intsV (R'.ths.map Prod.snd))) :
    (Ref (refEnd wr w.heap.size sv kv R) (ow own w.heap.size L) L (.agg #[sv, kv, .int .i64 R.most, .int .i64 R.good, .int .i64 R.bad]) R' ∧ Below w.heap.size w (refEnd wr w.heap.size sv kv R)) ∧
      (refEnd wr w.heap.size sv kv R).heap[w.heap.size + 1]? = some (.cells #[sv, kv, .int .i64 R.most, .int .i64 R.good, .int .i64 R.bad] 35 (0, 0)) := by
  have h2 : Ext (fun c => c = 2) wr (refEnd wr w.heap.size sv kv R) own1 own1 :=
    Ext.putCells (fun _ => hb2.col) _ _ _ (Ext.putCells (fun _ => hb.col) _ _ _ Ext.refl)
  have hE2 := hE.trans (h2.mono (M' := fun c => c ≠ 0) (by intro c hc; omega))
  refine ⟨⟨⟨hl, sv, kv, by rw [refAgg, hm, hg, hbd], ?_, ?_⟩, hE2.below (by simp)⟩, ?_⟩
  · exact (hr1.ext h2 (by simp)).recol (fun b _ hc => ow_ge (hE2.made (by rw [hc]; decide)))
  · exact (hr3.ext h2 (by simp)).recol (fun b _ hc => ow_ge (hE2.made (by rw [hc]; decide)))
  · exact ((Blk.putCells_other (by omega) [sv, kv] wr 0 hb2).putCells (vs := [sv, kv, .int .i64 R.most, .int .i64 R.good, .int .i64 R.bad]) hcs).at_
theorem info_ref : (Try.prog.info? 35).map (fun i => i.size) = some 5 := by kernel_rfl
set_option maxHeartbeats 1000000 in
theorem rput_any (hR : Ref w own L v R) (j : Nat) (hj : j < R.ths.length) (p q : Int) :
    Calls Try.prog 55 #[v, .int .i64 ((j : Int) + 1), .int .i64 p, .int .i64 q] w (RPost L (R.put ((j : Int) + 1) (p, q)) w own id) := by
  obtain ⟨i0, hi0, hz0, hz1, hz2⟩ := info_parts info_int
  obtain ⟨hlen, sv, kv, rfl, h1, h2⟩ := hR
  obtain ⟨sa, sc, rfl⟩ := h1.shape
  obtain ⟨ka, kc, rfl⟩ := h2.shape
  have HL := Lib.hid hlen
  have H1 := Lib.hid (h1.recol (own' := fun _ => 0) (k' := 0) (fun _ _ _ => rfl))
  have H2 := Lib.hid (h2.recol (own' := fun _ => 0) (k' := 0) (fun _ _ _ => rfl))
  obtain ⟨m, hm⟩ : ∃ m, m = R.ths.set j (p, q) := ⟨_, rfl⟩
  have hml : m.length = R.ths.length := by rw [hm]; simp
  have HM := Lib.hid hm
  clear hm h1 h2
  unfold refAgg
  go_enter Try.func55, Try.ntmps55
  go_wp2
  go_loopw [9, 10, 11] (fun nsv nkv iv wr => PutInv w (.slice sa R.ths.length sc) (.slice ka R.ths.length kc) R m nsv nkv iv wr) (fun _ _ iv _ => m.length - (intOf iv).toNat)
  case atStart => exact put_start _ _ _ _ _
  case round =>
    obtain ⟨own1, i, rfl, hi, hr1, hr3, hb, hb2, hE⟩ := hrel
    have HE := Lib.hid hE
    have HEk := Lib.hid hE
    have hsz := hE.size
    have cb0 := hb.cell 0
    have cb1 := hb.cell 1
    simp only [List.getElem?_toArray, List.getElem?_cons_zero, List.getElem?_cons_succ] at cb0 cb1
    have HB := Lib.hid hb
    have HB2 := Lib.hid hb2
    clear hE hb hb2
    by_cases hlt : i < m.length
    · have hlt1 : i < R.ths.length := by omega
      have hlt2 : (i : Int) < R.ths.length := by omega
      obtain ⟨g1, rfl, hg1, hx1, hc1⟩ := H1.out.int_at hlt1
      obtain ⟨g3, rfl, hg3, hx3, hc3⟩ := H2.out.int_at hlt1
      have d1 : wr.cell? ⟨g1, i, none⟩ = some (.int .i64 R.ths[i].1) := HE.out.old hg1 (by rw [hc1, List.getElem_map])
      have d3 : wr.cell? ⟨g3, i, none⟩ = some (.int .i64 R.ths[i].2) := HE.out.old hg3 (by rw [hc3, List.getElem_map])
      have HC3 : Hid (w.cell? ⟨g3, i, none⟩ = some (.int .i64 R.ths[i].2)) := by rw [hc3, List.getElem_map]; exact rfl
      clear hc1 hc3 hx1 hx3
      have hmi : m[i] = if i = j then (p, q) else R.ths[i] := by simp only [HM.out]; rw [List.getElem_set]; simp [eq_comm]
      have hta : m.take (i + 1) = m.take i ++ [m[i]] := List.take_succ_eq_append_getElem hlt
      have HT := Lib.hid hta
      clear hta
      by_cases hij : i = j
      · have hb1 : ((i : Int) == (j : Int) + 1 - 1) = true := by simp [hij]
        have hm2 : Hid (m[i] = (p, q)) := by rw [hmi, if_pos hij]; exact rfl
        clear hmi hij
        have hE1 := HE.out
        have hn7 : i ≤ 7000000000000 := by have := HL.out; omega
        go_wp2_with (first
          | (at_builtin; refine wpList_append_int rfl _ _ rfl _ rfl hr1 hn7 rfl (by simp) ?_; intro v1 wa owna hra hEa; have hrb := hr3.ext hEa (by simp); have hba := HB.out.ext hEa (by simp); have ca1 := hba.cell 1; simp only [List.getElem?_toArray, List.getElem?_cons_zero, List.getElem?_cons_succ] at ca1; have hE2 := hE1.trans (hEa.mono (by simp)); have da3 : wa.cell? ⟨g3, i, none⟩ = some (.int .i64 R.ths[i].2) := hE2.old hg3 HC3.out)
          | (at_builtin; refine wpList_append_int rfl _ _ rfl _ rfl hrb hn7 rfl (by simp) ?_; intro v3 wb ownb hrc hEb))
        clear HE hE1
        go_roundw
        case rel => exact put_next hlt hm2.out HEk.out HB.out HB2.out hEa hEb hra hrc
        case measure => simp [intOf]; omega
      · have hb1 : ((i : Int) == (j : Int) + 1 - 1) = false := by
          simp only [beq_eq_false_iff_ne, ne_eq]; omega
        have hm2 : Hid (m[i] = R.ths[i]) := by rw [hmi, if_neg hij]; exact rfl
        clear hmi hij
        have hE1 := HE.out
        have hn7 : i ≤ 7000000000000 := by have := HL.out; omega
        go_wp2_with (first
          | (at_builtin; refine wpList_append_int rfl _ _ rfl _ rfl hr1 hn7 rfl (by simp) ?_; intro v1 wa owna hra hEa; have hrb := hr3.ext hEa (by simp); have hba := HB.out.ext hEa (by simp); have ca1 := hba.cell 1; simp only [List.getElem?_toArray, List.getElem?_cons_zero, List.getElem?_cons_succ] at ca1; have hE2 := hE1.trans (hEa.mono (by simp)); have da3 : wa.cell? ⟨g3, i, none⟩ = some (.int .i64 R.ths[i].2) := hE2.old hg3 HC3.out)
          | (at_builtin; refine wpList_append_int rfl _ _ rfl _ rfl hrb hn7 rfl (by simp) ?_; intro v3 wb ownb hrc hEb))
        clear HE hE1
        go_roundw
        case rel => exact put_next hlt hm2.out HEk.out HB.out HB2.out hEa hEb hra hrc
        case measure => simp [intOf]; omega
    · obtain rfl : i = m.length := by omega
      rw [List.take_length] at hr1 hr3
      have cb2 := HB.out.cell 2
      have cb3 := HB.out.cell 3
      have cb4 := HB.out.cell 4
      simp only [List.getElem?_toArray, List.getElem?_cons_zero, List.getElem?_cons_succ] at cb2 cb3 cb4
      have fb0 := HB.out.free 0
      have fb1 := HB.out.free 1
      have fr0 := HB2.out.free 0
      have fr1 := HB2.out.free 1
      have fr2 := HB2.out.free 2
      have fr3 := HB2.out.free 3
      have fr4 := HB2.out.free 4
      have cr0 := HB2.out.cell 0
      have cr1 := HB2.out.cell 1
      have cr2 := HB2.out.cell 2
      have cr3 := HB2.out.cell 3
      have cr4 := HB2.out.cell 4
      simp only [List.getElem?_toArray, List.getElem?_cons_zero, List.getElem?_cons_succ] at cr0 cr1 cr2 cr3 cr4
      obtain ⟨na, nc, rfl⟩ := hr1.shape
      obtain ⟨ma, mc, rfl⟩ := hr3.shape
      have hj1 : ((j : Int) + 1 - 1).toNat = j := by omega
      have hmm : m = (R.put ((j : Int) + 1) (p, q)).ths := by simp only [RV.put, hj1]; exact HM.out
      have hend := ref_end (own := own) (L := L) (R := R) (R' := R.put ((j : Int) + 1) (p, q)) HEk.out HB.out HB2.out rfl (by rw [← hmm, hml]; exact HL.out) rfl rfl rfl (by rw [← hmm]; exact hr1) (by rw [← hmm]; exact hr3)
      rw [hml] at hend
      have HEND := Lib.hid hend
      clear H1 H2 hend hmm hj1 hr1 hr3 HM
      go_wp2
      ((try simp only [Exit.inBlock, Exit.then]); refine bodyPost_ret (results_cell_row rfl _ _ ((w.heap.size + 1)) 35 _ _ _ rfl (HEND.out.2) Try.underlying35 rfl (by kernel_rfl)) rfl ?_)
      exact ⟨_, rfl, HEND.out.1.1, HEND.out.1.2⟩

/-! ### Move, Wake, Spawn: boxes of colour 2, the model's rows of colour 5 -/
def hue (own : Nat → Nat) (L n : Nat) : Nat → Nat := fun b => if b < n then (if own b = L then 5 else 0) else 2
theorem hue_ref (h : Ref w own L v R) : Ref w (hue own L w.heap.size) 5 v R :=
  h.recol (fun b hb hc => by simp [hue, hb, hc])
theorem hue_back {M : Nat → Prop} {w' : World} {own' : Nat → Nat} (hE : Ext M w w' (hue own L w.heap.size) own') (h : Ref w' own' 5 v R) : Ref w' (ow own w.heap.size L) L v R :=
  h.recol (fun b hb hc => by
    by_cases h' : b < w.heap.size
    · have := hE.col b h'
      rw [hc] at this
      simp only [hue, if_pos h'] at this
      rw [ow_lt h']
      by_cases hl : own b = L
      · exact hl
      · rw [if_neg hl] at this; cases this
    · exact ow_ge (by omega))
theorem hue_below {w' : World} {own' : Nat → Nat} (hE : Ext (fun c => c = 2) w w' (hue own L w.heap.size) own') : Below w.heap.size w w' :=
  hE.below (fun b hb => by simp only [hue, if_pos hb]; split <;> decide)
theorem hue_boxes (w : World) (own : Nat → Nat) (L : Nat) (o1 o2 : Obj) :
    Ext (fun c => c = 2) w ((w.alloc o1).alloc o2) (hue own L w.heap.size) (hue own L w.heap.size) ∧ Blk ((w.alloc o1).alloc o2) (hue own L w.heap.size) 2 w.heap.size o1 ∧ Blk ((w.alloc o1).alloc o2) (hue own L w.heap.size) 2 (w.heap.size + 1) o2 := by
  refine ⟨(Ext.refl.alloc _).alloc _, (Blk.new w o1 (by simp [hue])).alloc _, ?_⟩
  have := Blk.new (own := hue own L w.heap.size) (k := 2) (w.alloc o1) o2 (by simp [hue]; omega)
  rwa [World.size_alloc] at this
theorem _root_.Go.PM.Ext.same_cell {M : Nat → Prop} {w w' : World} {own own' : Nat → Nat} (h : Ext M w w' own own') {b i : Nat} (hb : b < w.heap.size) (hm : ¬ M (own b)) {u : Option Value} (hc : w.cell? ⟨b, i, none⟩ = u) : w'.cell? ⟨b, i, none⟩ = u := by
  have e := h.same b hb hm
  rw [← hc]
  simp only [World.cell?, e]
/-- The five cells of a scheduler's variable. -/
theorem five {w : World} {own : Nat → Nat} {k b : Nat} {T : TypeId} {x0 x1 x2 x3 x4 : Value} (h : Blk w own k b (.cells #[x0, x1, x2, x3, x4] T (0, 0))) :
    w.cell? ⟨b, 0, none⟩ = some x0 ∧ w.cell? ⟨b, 1, none⟩ = some x1 ∧ w.cell? ⟨b, 2, none⟩ = some x2 ∧ w.cell? ⟨b, 3, none⟩ = some x3 ∧ w.cell? ⟨b, 4, none⟩ = some x4 :=
  ⟨h.cell 0, h.cell 1, h.cell 2, h.cell 3, h.cell 4⟩
theorem five_free {w : World} {own : Nat → Nat} {k b : Nat} {T : TypeId} {x0 x1 x2 x3 x4 : Value} (h : Blk w own k b (.cells #[x0, x1, x2, x3, x4] T (0, 0))) :
    w.frozen? ⟨b, 0, none⟩ = false ∧ w.frozen? ⟨b, 1, none⟩ = false ∧ w.frozen? ⟨b, 2, none⟩ = false ∧ w.frozen? ⟨b, 3, none⟩ = false ∧ w.frozen? ⟨b, 4, none⟩ = false :=
  ⟨h.free 0, h.free 1, h.free 2, h.free 3, h.free 4⟩
/-- The result's variable is set. -/
theorem res_end {wr : World} {own1 : Nat → Nat} {R' : RV} {T : TypeId} {b : Nat} {z0 z1 z2 z3 z4 sv kv : Value} (hE : Ext (fun c => c = 2) w wr (hue own L w.heap.size) own1)
    (hb : Blk wr own1 2 b (.cells #[z0, z1, z2, z3, z4] T (0, 0))) (hR : Ref wr own1 5 (refAgg sv kv R') R') :
    (Ref (putCells wr b 0 [sv, kv, .int .i64 R'.most, .int .i64 R'.good, .int .i64 R'.bad]) (ow own w.heap.size L) L (refAgg sv kv R') R' ∧ Below w.heap.size w (putCells wr b 0 [sv, kv, .int .i64 R'.most, .int .i64 R'.good, .int .i64 R'.bad])) ∧
      (putCells wr b 0 [sv, kv, .int .i64 R'.most, .int .i64 R'.good, .int .i64 R'.bad]).heap[b]? = some (.cells #[sv, kv, .int .i64 R'.most, .int .i64 R'.good, .int .i64 R'.bad] T (0, 0)) := by
  have h2 : Ext (fun c => c = 2) wr (putCells wr b 0 [sv, kv, .int .i64 R'.most, .int .i64 R'.good, .int .i64 R'.bad]) own1 own1 := Ext.putCells (fun _ => hb.col) _ _ _ Ext.refl
  exact ⟨⟨hue_back (hE.trans h2) (hR.ext h2 (by simp)), hue_below (hE.trans h2)⟩, (hb.putCells (cs := [z0, z1, z2, z3, z4]) (vs := [sv, kv, .int .i64 R'.most, .int .i64 R'.good, .int .i64 R'.bad]) rfl).at_⟩
theorem Ref.agg (h : Ref w own L v R) : ∃ sa sc ka kc, v = refAgg (.slice sa R.ths.length sc) (.slice ka R.ths.length kc) R := by
  obtain ⟨_, sv, kv, h, h1, h2⟩ := h
  obtain ⟨sa, sc, rfl⟩ := h1.shape
  obtain ⟨ka, kc, rfl⟩ := h2.shape
  exact ⟨sa, sc, ka, kc, h⟩
def moveRes (x : Int) : Value → Value := fun v => .tuple #[v, .int .i64 x]
set_option maxHeartbeats 1000000 in
theorem rMove_any (hR : Ref w own L v R) (t fr to key : Int) :
    Calls Try.prog 46 #[v, .int .i64 t, .int .i64 fr, .int .i64 to, .int .i64 key] w (RPost L (R.move t fr to key) w own (moveRes (R.moveErr t fr))) := by
  have hR5 := hue_ref hR
  obtain ⟨sa, sc, ka, kc, rfl⟩ := hR.agg
  obtain ⟨hE, hb1, hb2⟩ := hue_boxes w own L (.cells #[.slice sa R.ths.length sc, .slice ka R.ths.length kc, .int .i64 R.most, .int .i64 R.good, .int .i64 R.bad] 35 (0, 0)) (.cells #[.slice none 0 0, .slice none 0 0, .int .i64 0, .int .i64 0, .int .i64 0] 35 (0, 0))
  have hRa := hR5.ext hE (by simp)
  clear hR5 hR
  unfold refAgg
  go_enter Try.func46, Try.ntmps46
  go_wp2_with fail
  generalize (w.alloc (.cells #[.slice sa R.ths.length sc, .slice ka R.ths.length kc, .int .i64 R.most, .int .i64 R.good, .int .i64 R.bad] 35)).alloc (.cells #[.slice none 0 0, .slice none 0 0, .int .i64 0, .int .i64 0, .int .i64 0] 35) = wa at *
  refine (rState_any hRa t).mono ?_
  rintro e w1 ⟨rfl, hB⟩
  have hE1 : Ext (fun c => c = 2) w w1 (hue own L w.heap.size) (ow (hue own L w.heap.size) wa.heap.size 5) := hE.trans (Ext.of_below hB _ _)
  have hb1 := hb1.below hB 5
  have hb2 := hb2.below hB 5
  have hR1 : Ref w1 (ow (hue own L w.heap.size) wa.heap.size 5) 5 (refAgg (.slice sa R.ths.length sc) (.slice ka R.ths.length kc) R) R := hRa.below hB
  generalize ow (hue own L w.heap.size) wa.heap.size 5 = own1 at *
  clear hB hE hRa
  obtain ⟨c0, c1, c2, c3, c4⟩ := five hb1
  obtain ⟨d0, d1, d2, d3, d4⟩ := five hb2
  obtain ⟨f0, f1, f2, f3, f4⟩ := five_free hb2
  by_cases h0 : R.state t = 0
  · have he : R.moveErr t fr = 61 := by simp [RV.moveErr, h0]
    have hm : R.move t fr to key = R := by simp [RV.move, he]
    have hpost : ∀ v' w', Ref w' (ow own w.heap.size L) L v' (R) → Below w.heap.size w w' → RPost L (R.move t fr to key) w own (moveRes (R.moveErr t fr)) (.returned (.tuple #[v', .int .i64 61])) w' := by
      rw [he, hm]; exact fun v' w' h1 h2 => ⟨v', rfl, h1, h2⟩
    have HP := Lib.hid hpost
    clear hpost
    rw [h0]
    have HEND := Lib.hid (res_end hE1 hb2 hR1)
    clear he hm h0 hE1 hb1 hb2 hR1
    go_wp2
    ((try simp only [Exit.inBlock, Exit.then]); refine bodyPost_ret (results_ct rfl _ _ ((w.heap.size + 1)) 35 _ _ _ rfl (HEND.out.2) Try.underlying35 rfl (by kernel_rfl)) rfl ?_)
    exact HP.out _ _ HEND.out.1.1 HEND.out.1.2
  · have hst := rState_any hR1 t
    have HST := Lib.hid hst
    clear hst
    by_cases h1 : R.state t = fr
    · have he : R.moveErr t fr = 0 := by unfold RV.moveErr; rw [if_neg h0, if_neg (by simp [h1])]
      have hm : R.move t fr to key = R.put t (to, key) := by simp [RV.move, he]
      have b1 : (R.state t == 0) = false := by simp [h0]
      have b2 : (fr != fr) = false := by simp
      have htr : ∃ j : Nat, t = (j : Int) + 1 ∧ j < R.ths.length := by
        unfold RV.state at h0
        split at h0
        · exact absurd rfl h0
        · exact ⟨(t - 1).toNat, by omega, by omega⟩
      obtain ⟨j, rfl, hj⟩ := htr
      have hpost : ∀ v' w', Ref w' (ow own w.heap.size L) L v' (R.put ((j : Int) + 1) (to, key)) → Below w.heap.size w w' → RPost L (R.move ((j : Int) + 1) fr to key) w own (moveRes (R.moveErr ((j : Int) + 1) fr)) (.returned (.tuple #[v', .int .i64 0])) w' := by
        rw [he, hm]; exact fun v' w' h1 h2 => ⟨v', rfl, h1, h2⟩
      have HP := Lib.hid hpost
      clear hpost
      rw [h1] at b1 HST ⊢
      clear he hm h0 h1
      go_wp2_with fail
      refine HST.out.mono ?_
      rintro e w2 ⟨rfl, hB⟩
      have hE2 := hE1.trans (Ext.of_below hB own1 5)
      have hb1 := hb1.below hB 5
      have hb2 := hb2.below hB 5
      have hR2 : Ref w2 (ow own1 w1.heap.size 5) 5 (refAgg (.slice sa R.ths.length sc) (.slice ka R.ths.length kc) R) R := hR1.below hB
      generalize ow own1 w1.heap.size 5 = own2 at *
      clear hB hE1 hR1 HST c0 c1 c2 c3 c4 d0 d1 d2 d3 d4 f0 f1 f2 f3 f4
      obtain ⟨c0, c1, c2, c3, c4⟩ := five hb1
      go_wp2_with fail
      refine (rput_any hR2 j hj to key).mono ?_
      rintro e w3 ⟨v', rfl, hR3, hB⟩
      have hE3 := hE2.trans (Ext.of_below hB own2 5)
      have hb2 := hb2.below hB 5
      generalize ow own2 w2.heap.size 5 = own3 at *
      clear hB hE2 hR2 c0 c1 c2 c3 c4 hb1
      obtain ⟨sa', sc', ka', kc', rfl⟩ := hR3.agg
      obtain ⟨d0, d1, d2, d3, d4⟩ := five hb2
      obtain ⟨f0, f1, f2, f3, f4⟩ := five_free hb2
      have HEND := Lib.hid (res_end hE3 hb2 hR3)
      clear hE3 hR3 hb2
      unfold refAgg
      go_wp2
      ((try simp only [Exit.inBlock, Exit.then]); refine bodyPost_ret (results_ct rfl _ _ ((w.heap.size + 1)) 35 _ _ _ rfl (HEND.out.2) Try.underlying35 rfl (by kernel_rfl)) rfl ?_)
      exact HP.out _ _ HEND.out.1.1 HEND.out.1.2
    · have he : R.moveErr t fr = 60 := by unfold RV.moveErr; rw [if_neg h0, if_pos h1]
      have hm : R.move t fr to key = R := by simp [RV.move, he]
      have hpost : ∀ v' w', Ref w' (ow own w.heap.size L) L v' (R) → Below w.heap.size w w' → RPost L (R.move t fr to key) w own (moveRes (R.moveErr t fr)) (.returned (.tuple #[v', .int .i64 60])) w' := by
        rw [he, hm]; exact fun v' w' h1 h2 => ⟨v', rfl, h1, h2⟩
      have HP := Lib.hid hpost
      clear hpost
      generalize R.state t = x at *
      have b1 : (x == 0) = false := by simp [h0]
      have b2 : (x != fr) = true := by simp [h1]
      clear he hm h0 h1
      go_wp2_with fail
      refine HST.out.mono ?_
      rintro e w2 ⟨rfl, hB⟩
      have hE2 := hE1.trans (Ext.of_below hB own1 5)
      have hb1 := hb1.below hB 5
      have hb2 := hb2.below hB 5
      have hR2 : Ref w2 (ow own1 w1.heap.size 5) 5 (refAgg (.slice sa R.ths.length sc) (.slice ka R.ths.length kc) R) R := hR1.below hB
      generalize ow own1 w1.heap.size 5 = own2 at *
      clear hB hE1 hR1 HST c0 c1 c2 c3 c4 d0 d1 d2 d3 d4 f0 f1 f2 f3 f4
      obtain ⟨c0, c1, c2, c3, c4⟩ := five hb1
      obtain ⟨d0, d1, d2, d3, d4⟩ := five hb2
      obtain ⟨f0, f1, f2, f3, f4⟩ := five_free hb2
      have HEND := Lib.hid (res_end hE2 hb2 hR2)
      clear hE2 hb1 hb2 hR2
      go_wp2
      ((try simp only [Exit.inBlock, Exit.then]); refine bodyPost_ret (results_ct rfl _ _ ((w.heap.size + 1)) 35 _ _ _ rfl (HEND.out.2) Try.underlying35 rfl (by kernel_rfl)) rfl ?_)
      exact HP.out _ _ HEND.out.1.1 HEND.out.1.2

theorem Ref.rows {R' : RV} {sv kv : Value} (h : Ref w own L (refAgg sv kv R') R) : Row w own L 3 1 sv R.ths.length (intsV (R.ths.map Prod.fst)) ∧ Row w own L 3 1 kv R.ths.length (intsV (R.ths.map Prod.snd)) := by
  obtain ⟨_, sv', kv', h, h1, h2⟩ := h
  unfold refAgg at h
  injection h with h
  injection h with h
  injection h with ha h
  injection h with hb h
  subst ha
  subst hb
  exact ⟨h1, h2⟩
/-- The i-th element of both rows. -/
theorem Ref.at_ {R' : RV} {sa ka : Option Addr} {n1 n2 sc kc : Nat} (h : Ref w own L (refAgg (.slice sa n1 sc) (.slice ka n2 kc) R') R) (hn1 : n1 = R.ths.length) (hn2 : n2 = R.ths.length) {i : Nat} (hi : i < R.ths.length) :
    ∃ g1 g3, sa = some ⟨g1, 0, none⟩ ∧ ka = some ⟨g3, 0, none⟩ ∧ g1 < w.heap.size ∧ g3 < w.heap.size ∧ w.cell? ⟨g1, i, none⟩ = some (.int .i64 R.ths[i].1) ∧ w.cell? ⟨g3, i, none⟩ = some (.int .i64 R.ths[i].2) := by
  subst hn1
  subst hn2
  obtain ⟨h1, h2⟩ := h.rows
  obtain ⟨g1, e1, l1, x1, c1⟩ := h1.int_at hi
  obtain ⟨g3, e3, l3, x3, c3⟩ := h2.int_at hi
  exact ⟨g1, g3, e1, e3, l1, l3, by rw [c1, List.getElem_map], by rw [c3, List.getElem_map]⟩
def rwk (key : Int) (p : Int × Int) : Int × Int := if wakes key p then (1, 0) else p
def RV.wakeTo (R : RV) (key : Int) (i : Nat) : RV := { R with ths := (R.ths.take i).map (rwk key) ++ R.ths.drop i }
theorem RV.wakeTo_length (R : RV) (key : Int) (i : Nat) : (R.wakeTo key i).ths.length = R.ths.length := by
  simp only [RV.wakeTo, List.length_append, List.length_map, List.length_take, List.length_drop]; omega
theorem RV.wakeTo_get (R : RV) (key : Int) (i : Nat) (hi : i < R.ths.length) : (R.wakeTo key i).ths[i]'(by rw [RV.wakeTo_length]; exact hi) = R.ths[i] := by
  simp only [RV.wakeTo]
  rw [List.getElem_append_right (by rw [List.length_map, List.length_take]; exact Nat.min_le_left _ _)]
  simp [Nat.min_eq_left (Nat.le_of_lt hi)]
theorem RV.wakeTo_succ (R : RV) (key : Int) (i : Nat) (hi : i < R.ths.length) : (R.wakeTo key (i + 1)).ths = (R.wakeTo key i).ths.set i (rwk key R.ths[i]) := by
  simp only [RV.wakeTo]
  rw [List.take_succ_eq_append_getElem hi, List.map_append, List.append_assoc]
  rw [List.set_append_right _ _ (by rw [List.length_map, List.length_take]; exact Nat.min_le_left _ _)]
  congr 1
  simp only [List.length_map, List.length_take, Nat.min_eq_left (Nat.le_of_lt hi), Nat.sub_self]
  rw [List.drop_eq_getElem_cons hi]
  rfl
theorem RV.wakeTo_all (R : RV) (key : Int) : R.wakeTo key R.ths.length = R.wake key := by simp [RV.wakeTo, RV.wake, rwk]
theorem RV.wakeTo_put (R : RV) (key : Int) (i : Nat) (hi : i < R.ths.length) (hw : wakes key R.ths[i] = true) : (R.wakeTo key i).put ((i : Int) + 1) (1, 0) = R.wakeTo key (i + 1) := by
  have h1 : ((i : Int) + 1 - 1).toNat = i := by omega
  have := R.wakeTo_succ key i hi
  simp only [rwk, hw, if_true] at this
  simp only [RV.put, h1, ← this]
  rfl
theorem RV.wakeTo_same (R : RV) (key : Int) (i : Nat) (hi : i < R.ths.length) (hw : wakes key R.ths[i] = false) : R.wakeTo key (i + 1) = R.wakeTo key i := by
  have := R.wakeTo_succ key i hi
  simp only [rwk, hw, Bool.false_eq_true, if_false] at this
  have hg := R.wakeTo_get key i hi
  rw [← hg, List.set_getElem_self] at this
  show ({ R with ths := (R.wakeTo key (i + 1)).ths } : RV) = { R with ths := (R.wakeTo key i).ths }
  rw [this]
def RWakeInv (w0 : World) (own0 : Nat → Nat) (L : Nat) (R : RV) (key : Int) (nv iv : Value) (w : World) : Prop :=
  ∃ (own : Nat → Nat) (i : Nat) (sa : Option Addr) (sc : Nat) (ka : Option Addr) (kc : Nat), iv = .int .i64 i ∧ nv = .int .i64 (wcount R.ths key i : Nat) ∧ i ≤ R.ths.length ∧
    Ref w own 5 (refAgg (.slice sa R.ths.length sc) (.slice ka R.ths.length kc) R) (R.wakeTo key i) ∧
    Blk w own 2 w0.heap.size (.cells #[.slice sa R.ths.length sc, .slice ka R.ths.length kc, .int .i64 R.most, .int .i64 R.good, .int .i64 R.bad] 35 (0, 0)) ∧
    Blk w own 2 (w0.heap.size + 1) (.cells #[.slice none 0 0, .slice none 0 0, .int .i64 0, .int .i64 0, .int .i64 0] 35 (0, 0)) ∧
    Ext (fun c => c = 2) w0 w (hue own0 L w0.heap.size) own
/-- The model's variable is set. -/
theorem box_end {wr : World} {own1 : Nat → Nat} {R' : RV} {T : TypeId} {b : Nat} {z0 z1 z2 z3 z4 v' : Value} {vs : List Value} (hE : Ext (fun c => c = 2) w wr (hue own L w.heap.size) own1)
    (hb : Blk wr own1 2 b (.cells #[z0, z1, z2, z3, z4] T (0, 0))) {b2 : Nat} {o2 : Obj} (hb2 : Blk wr own1 2 b2 o2) (hne : b2 ≠ b) (hvs : vs.length = 5) (hR : Ref wr own1 5 v' R') :
    Ref (putCells wr b 0 vs) own1 5 v' R' ∧ Blk (putCells wr b 0 vs) own1 2 b (.cells vs.toArray T (0, 0)) ∧ Blk (putCells wr b 0 vs) own1 2 b2 o2 ∧ Ext (fun c => c = 2) w (putCells wr b 0 vs) (hue own L w.heap.size) own1 := by
  have h2 : Ext (fun c => c = 2) wr (putCells wr b 0 vs) own1 own1 := Ext.putCells (fun _ => hb.col) _ _ _ Ext.refl
  exact ⟨hR.ext h2 (by simp), hb.putCells (cs := [z0, z1, z2, z3, z4]) (vs := vs) (by simp [hvs]), Blk.putCells_other hne _ _ _ hb2, hE.trans h2⟩
set_option maxHeartbeats 1000000 in
theorem rWake_any (hR : Ref w own L v R) (key : Int) :
    Calls Try.prog 47 #[v, .int .i64 key] w (RPost L (R.wake key) w own (moveRes (R.woken key))) := by
  have hR5 := hue_ref hR
  have hlen := hR.1
  obtain ⟨sa, sc, ka, kc, rfl⟩ := hR.agg
  obtain ⟨hE, hb1, hb2⟩ := hue_boxes w own L (.cells #[.slice sa R.ths.length sc, .slice ka R.ths.length kc, .int .i64 R.most, .int .i64 R.good, .int .i64 R.bad] 35 (0, 0)) (.cells #[.slice none 0 0, .slice none 0 0, .int .i64 0, .int .i64 0, .int .i64 0] 35 (0, 0))
  have hRa := hR5.ext hE (by simp)
  have hinv : RWakeInv w own L R key (.int .i64 0) (.int .i64 0) ((w.alloc (.cells #[.slice sa R.ths.length sc, .slice ka R.ths.length kc, .int .i64 R.most, .int .i64 R.good, .int .i64 R.bad] 35)).alloc (.cells #[.slice none 0 0, .slice none 0 0, .int .i64 0, .int .i64 0, .int .i64 0] 35)) :=
    ⟨_, 0, sa, sc, ka, kc, rfl, by simp [wcount], by omega, by simpa [RV.wakeTo] using hRa, hb1, hb2, hE⟩
  have HINV := Lib.hid hinv
  clear hR5 hR hE hb1 hb2 hRa hinv
  unfold refAgg
  go_enter Try.func47, Try.ntmps47
  go_wp2
  go_loopw [6, 7] (fun nv iv wr => RWakeInv w own L R key nv iv wr) (fun _ iv _ => R.ths.length - (intOf iv).toNat)
  case atStart => exact HINV.out
  case round =>
    clear HINV
    obtain ⟨own1, i, sa1, sc1, ka1, kc1, rfl, rfl, hi, hRr, hb1, hb2, hE⟩ := hrel
    obtain ⟨c0, c1, c2, c3, c4⟩ := five hb1
    have hwc := wcount_le R.ths key i
    by_cases hlt : i < R.ths.length
    · have hlt2 : (i : Int) < R.ths.length := by omega
      have hltW : i < (R.wakeTo key i).ths.length := by rw [RV.wakeTo_length]; exact hlt
      obtain ⟨g1, g3, rfl, rfl, hg1, hg3, e1, e3⟩ := hRr.at_ (RV.wakeTo_length R key i).symm (RV.wakeTo_length R key i).symm hltW
      rw [RV.wakeTo_get _ _ _ hlt] at e1 e3
      have hws := wcount_succ R.ths key i hlt
      have hput := R.wakeTo_put key i hlt
      have hsame := R.wakeTo_same key i hlt
      generalize R.ths[i] = p at *
      obtain ⟨st, ky⟩ := p
      dsimp only at e1 e3
      have HE := Lib.hid hE
      have HR := Lib.hid hRr
      have HB1 := Lib.hid hb1
      have HB2 := Lib.hid hb2
      clear hE hRr hb1 hb2
      by_cases hw : st = 2
      · by_cases hk : ky = key
        · have hb : wakes key (st, ky) = true := by simp [wakes, hw, hk]
          rw [hb, if_pos rfl] at hws
          have HW := Lib.hid hws
          have HP := Lib.hid (hput hb)
          subst hw
          subst hk
          clear hput hsame hws hb
          go_wp2_with fail
          refine (rput_any HR.out i hltW 1 0).mono ?_
          rintro e w3 ⟨v', rfl, hR3, hB⟩
          rw [HP.out] at hR3
          have hE3 := HE.out.trans (Ext.of_below hB own1 5)
          have hb1 := HB1.out.below hB 5
          have hb2 := HB2.out.below hB 5
          generalize ow own1 wr.heap.size 5 = own3 at *
          clear hB c0 c1 c2 c3 c4 HP HR HE HB1 HB2
          obtain ⟨sa', sc', ka', kc', rfl⟩ := hR3.agg
          rw [RV.wakeTo_length] at hR3 ⊢
          obtain ⟨c0, c1, c2, c3, c4⟩ := five hb1
          obtain ⟨f0, f1, f2, f3, f4⟩ := five_free hb1
          have hbx := box_end hE3 hb1 hb2 (by omega) (vs := [.slice sa' R.ths.length sc', .slice ka' R.ths.length kc', .int .i64 R.most, .int .i64 R.good, .int .i64 R.bad]) rfl hR3
          have HBX := Lib.hid hbx
          clear hE3 hR3 hb1 hb2 hbx
          unfold refAgg
          go_wp2
          go_roundw
          case rel => exact ⟨own3, i + 1, sa', sc', ka', kc', by go_num, by rw [HW.out]; go_num, by omega, HBX.out.1, HBX.out.2.1, HBX.out.2.2.1, HBX.out.2.2.2⟩
          case measure => simp [intOf]; omega
        · have hb : wakes key (st, ky) = false := by simp [wakes, hk]
          rw [hb] at hws
          simp only [Bool.false_eq_true, if_false, Nat.add_zero] at hws
          have HW := Lib.hid hws
          have HS := Lib.hid (hsame hb)
          have b1 : (ky == key) = false := by simp [hk]
          subst hw
          clear hput hsame hws hb hk
          go_wp2
          go_roundw
          case rel => exact ⟨own1, i + 1, _, _, _, _, by go_num, by rw [HW.out], by omega, by rw [HS.out]; exact HR.out, HB1.out, HB2.out, HE.out⟩
          case measure => simp [intOf]; omega
      · have hb : wakes key (st, ky) = false := by simp [wakes, hw]
        rw [hb] at hws
        simp only [Bool.false_eq_true, if_false, Nat.add_zero] at hws
        have HW := Lib.hid hws
        have HS := Lib.hid (hsame hb)
        have b1 : (st == 2) = false := by simp [hw]
        clear hput hsame hws hb hw
        go_wp2
        go_roundw
        case rel => exact ⟨own1, i + 1, _, _, _, _, by go_num, by rw [HW.out], by omega, by rw [HS.out]; exact HR.out, HB1.out, HB2.out, HE.out⟩
        case measure => simp [intOf]; omega
    · obtain rfl : i = R.ths.length := by omega
      rw [RV.wakeTo_all] at hRr
      obtain ⟨d0, d1, d2, d3, d4⟩ := five hb2
      obtain ⟨f0, f1, f2, f3, f4⟩ := five_free hb2
      have hEND := res_end hE hb2 (R' := R.wake key) hRr
      have hwn : R.woken key = (wcount R.ths key R.ths.length : Nat) := by simp [RV.woken, wcount]
      have HWN := Lib.hid hwn
      have HEND := Lib.hid hEND
      clear hEND hE hRr hb1 hb2 hwn
      go_wp2
      ((try simp only [Exit.inBlock, Exit.then]); refine bodyPost_ret (results_ct rfl _ _ ((w.heap.size + 1)) 35 _ _ _ rfl (HEND.out.2) Try.underlying35 rfl (by kernel_rfl)) rfl ?_)
      rw [HWN.out]
      exact ⟨_, rfl, HEND.out.1.1, HEND.out.1.2⟩

def spawnRes (t x : Int) : Value → Value := fun v => .tuple #[v, .int .i64 t, .int .i64 x]
def RCountInv (w1 : World) (R : RV) (nv iv : Value) (w : World) : Prop :=
  ∃ i : Nat, iv = .int .i64 i ∧ nv = .int .i64 (lcount R.ths i : Nat) ∧ i ≤ R.ths.length ∧ w = w1
theorem res_end2 {wr : World} {own1 : Nat → Nat} {R' : RV} {T : TypeId} {b : Nat} {z0 z1 z2 z3 z4 sv kv : Value} (hE : Ext (fun c => c ≠ 0) w wr (fun _ => 0) own1)
    (hb : Blk wr own1 2 b (.cells #[z0, z1, z2, z3, z4] T (0, 0))) (hl : R'.ths.length ≤ 6000000000000)
    (hr1 : Row wr own1 1 3 1 sv R'.ths.length (intsV (R'.ths.map Prod.fst))) (hr3 : Row wr own1 3 3 1 kv R'.ths.length (intsV (R'.ths.map Prod.snd))) :
    (Ref (putCells wr b 0 [sv, kv, .int .i64 R'.most, .int .i64 R'.good, .int .i64 R'.bad]) (ow own w.heap.size L) L (refAgg sv kv R') R' ∧ Below w.heap.size w (putCells wr b 0 [sv, kv, .int .i64 R'.most, .int .i64 R'.good, .int .i64 R'.bad])) ∧
      (putCells wr b 0 [sv, kv, .int .i64 R'.most, .int .i64 R'.good, .int .i64 R'.bad]).heap[b]? = some (.cells #[sv, kv, .int .i64 R'.most, .int .i64 R'.good, .int .i64 R'.bad] T (0, 0)) := by
  have h2 : Ext (fun c => c = 2) wr (putCells wr b 0 [sv, kv, .int .i64 R'.most, .int .i64 R'.good, .int .i64 R'.bad]) own1 own1 := Ext.putCells (fun _ => hb.col) _ _ _ Ext.refl
  have hE2 := hE.trans (h2.mono (M' := fun c => c ≠ 0) (by intro c hc; omega))
  exact ⟨⟨⟨hl, sv, kv, rfl, (hr1.ext h2 (by simp)).recol (fun b _ hc => ow_ge (hE2.made (by rw [hc]; decide))), (hr3.ext h2 (by simp)).recol (fun b _ hc => ow_ge (hE2.made (by rw [hc]; decide)))⟩, hE2.below (by simp)⟩,
    (hb.putCells (cs := [z0, z1, z2, z3, z4]) (vs := [sv, kv, .int .i64 R'.most, .int .i64 R'.good, .int .i64 R'.bad]) rfl).at_⟩
theorem ref_drew {w' : World} {n : Nat} (h : Ref w' own L v R) (hb : Below n w w') : Ref w'.drew own L v R ∧ Below n w w'.drew :=
  ⟨h.ext (M := fun _ => False) Ext.refl.drew (by simp), ⟨hb.os, hb.tape, hb.output, hb.size, hb.block⟩⟩
set_option maxHeartbeats 1000000 in
theorem rSpawn_any (hR : Ref w own L v R) (hlen : R.ths.length < 6000000000000) :
    Calls Try.prog 45 #[v] w (RPost L R.spawn w own (spawnRes R.spawnId R.spawnErr)) := by
  have HRR := Lib.hid hR
  obtain ⟨sa, sc, ka, kc, rfl⟩ := hR.agg
  obtain ⟨h1, h2⟩ := hR.rows
  have H1 := Lib.hid (h1.recol (own' := fun _ => 0) (k' := 0) (fun _ _ _ => rfl))
  have H2 := Lib.hid (h2.recol (own' := fun _ => 0) (k' := 0) (fun _ _ _ => rfl))
  have hbe : ∀ o1 o2 : Obj, Below w.heap.size w ((w.alloc o1).alloc o2) := fun o1 o2 => ((Below.refl _ _).alloc (Nat.le_refl _) o1).alloc (by simp) o2
  have HBE := Lib.hid hbe
  clear h1 h2 hR hbe
  unfold refAgg
  go_enter Try.func45, Try.ntmps45
  go_wp2
  go_loopw [5, 6] (fun nv iv wr => RCountInv ((w.alloc (.cells #[.slice sa R.ths.length sc, .slice ka R.ths.length kc, .int .i64 R.most, .int .i64 R.good, .int .i64 R.bad] 35)).alloc (.cells #[.slice none 0 0, .slice none 0 0, .int .i64 0, .int .i64 0, .int .i64 0] 35)) R nv iv wr) (fun _ iv _ => R.ths.length - (intOf iv).toNat)
  case atStart => exact ⟨0, rfl, by simp [lcount], by omega, rfl⟩
  case round =>
    obtain ⟨i, rfl, rfl, hi, rfl⟩ := hrel
    have hlc := lcount_le R.ths i
    by_cases hlt : i < R.ths.length
    · have hlt2 : (i : Int) < R.ths.length := by omega
      obtain ⟨g1, rfl, hg1, hx1, hc1⟩ := H1.out.int_at hlt
      rw [List.getElem_map] at hc1
      have d1 : ((w.alloc (.cells #[.slice (some ⟨g1, 0, none⟩) R.ths.length sc, .slice ka R.ths.length kc, .int .i64 R.most, .int .i64 R.good, .int .i64 R.bad] 35)).alloc (.cells #[.slice none 0 0, .slice none 0 0, .int .i64 0, .int .i64 0, .int .i64 0] 35)).cell? ⟨g1, i, none⟩ = some (.int .i64 R.ths[i].1) := by
        rw [(HBE.out _ _).cell hg1]; exact hc1
      have hls := lcount_succ R.ths i hlt
      clear hc1 hx1
      generalize R.ths[i].1 = st at *
      by_cases h0 : st = 0
      · have hl2 : Hid (lcount R.ths (i + 1) = lcount R.ths i) := by rw [hls, h0]; exact rfl
        subst h0
        clear hls
        go_wp2
        go_roundw
        case rel => exact ⟨i + 1, by go_num, by rw [hl2.out], by omega, rfl⟩
        case measure => simp [intOf]; omega
      · have hl2 : Hid (lcount R.ths (i + 1) = lcount R.ths i + 1) := by
          rw [hls, if_pos (by simp [h0])]; exact rfl
        have b1 : (st != 0) = true := by simp [h0]
        clear hls h0
        go_wp2
        go_roundw
        case rel => exact ⟨i + 1, by go_num, by rw [hl2.out]; go_num, by omega, rfl⟩
        case measure => simp [intOf]; omega
    · obtain rfl : i = R.ths.length := by omega
      have hlv : R.live = (lcount R.ths R.ths.length : Nat) := by rw [lcount_all]; rfl
      by_cases hm : R.most ≤ lcount R.ths R.ths.length
      · have hr : R.spawnErr = 3 := by unfold RV.spawnErr; rw [if_pos (by rw [hlv]; exact hm)]
        have hs : R.spawn = R := by simp [RV.spawn, hr]
        have hid : R.spawnId = 0 := by simp [RV.spawnId, hr]
        have hpost : ∀ v' w', Ref w' (ow own w.heap.size L) L v' R → Below w.heap.size w w' → RPost L R.spawn w own (spawnRes R.spawnId R.spawnErr) (.returned (.tuple #[v', .int .i64 0, .int .i64 3])) w' := by
          rw [hr, hs, hid]; exact fun v' w' h1 h2 => ⟨v', rfl, h1, h2⟩
        have HP := Lib.hid hpost
        obtain ⟨hE, hb1, hb2⟩ := hue_boxes w own L (.cells #[.slice sa R.ths.length sc, .slice ka R.ths.length kc, .int .i64 R.most, .int .i64 R.good, .int .i64 R.bad] 35 (0, 0)) (.cells #[.slice none 0 0, .slice none 0 0, .int .i64 0, .int .i64 0, .int .i64 0] 35 (0, 0))
        have hEND := res_end hE hb2 ((hue_ref HRR.out).ext hE (by simp))
        obtain ⟨c0, c1, c2, c3, c4⟩ := five hb1
        obtain ⟨d0, d1, d2, d3, d4⟩ := five hb2
        obtain ⟨f0, f1, f2, f3, f4⟩ := five_free hb2
        have HEND := Lib.hid hEND
        clear hpost hr hs hid hlv hE hb1 hb2 hEND H1 H2 HBE
        generalize (w.alloc (.cells #[.slice sa R.ths.length sc, .slice ka R.ths.length kc, .int .i64 R.most, .int .i64 R.good, .int .i64 R.bad] 35 (0, 0))).alloc (.cells #[.slice none 0 0, .slice none 0 0, .int .i64 0, .int .i64 0, .int .i64 0] 35 (0, 0)) = wa at *
        go_wp2
        ((try simp only [Exit.inBlock, Exit.then]); refine bodyPost_ret (results_ctt' rfl _ _ ((w.heap.size + 1)) 35 _ _ _ rfl (HEND.out.2) Try.underlying35 rfl (by kernel_rfl)) rfl ?_)
        exact HP.out _ _ HEND.out.1.1 HEND.out.1.2
      · have hr : R.spawnErr = 0 := by unfold RV.spawnErr; rw [if_neg (by rw [hlv]; exact hm)]
        have hs : R.spawn = { R with ths := R.ths ++ [(1, 0)] } := by simp [RV.spawn, hr]
        have hid : R.spawnId = R.ths.length + 1 := by simp [RV.spawnId, hr]
        have hm2 : (lcount R.ths R.ths.length : Int) < R.most := by omega
        have hpost : ∀ v' w', Ref w' (ow own w.heap.size L) L v' { R with ths := R.ths ++ [(1, 0)] } → Below w.heap.size w w' → RPost L R.spawn w own (spawnRes R.spawnId R.spawnErr) (.returned (.tuple #[v', .int .i64 (R.ths.length + 1 : Nat), .int .i64 0])) w' := by
          rw [hr, hs, hid]; exact fun v' w' h1 h2 => ⟨v', by simp [spawnRes], h1, h2⟩
        have HP := Lib.hid hpost
        clear hpost hr hs hid hlv hm
        go_wp2
        go_loopw [7, 8, 9] (fun nsv nkv iv wr => PutInv w (.slice sa R.ths.length sc) (.slice ka R.ths.length kc) R R.ths nsv nkv iv wr) (fun _ _ iv _ => R.ths.length - (intOf iv).toNat)
        case atStart => exact put_start _ _ _ _ _
        case round =>
          obtain ⟨own1, i, rfl, hi, hr1, hr3, hb, hb2, hE⟩ := hrel
          have HE := Lib.hid hE
          have HEk := Lib.hid hE
          have hsz := hE.size
          obtain ⟨cb0, cb1, cb2, cb3, cb4⟩ := five hb
          have HB := Lib.hid hb
          have HB2 := Lib.hid hb2
          clear hE hb hb2
          by_cases hlt : i < R.ths.length
          · have hlt2 : (i : Int) < R.ths.length := by omega
            obtain ⟨g1, rfl, hg1, hx1, hc1⟩ := H1.out.int_at hlt
            obtain ⟨g3, rfl, hg3, hx3, hc3⟩ := H2.out.int_at hlt
            have d1 : wr.cell? ⟨g1, i, none⟩ = some (.int .i64 R.ths[i].1) := HE.out.old hg1 (by rw [hc1, List.getElem_map])
            have HC3 : Hid (w.cell? ⟨g3, i, none⟩ = some (.int .i64 R.ths[i].2)) := by rw [hc3, List.getElem_map]; exact rfl
            clear hc1 hc3 hx1 hx3
            have hE1 := HE.out
            have hn7 : i ≤ 7000000000000 := by omega
            go_wp2_with (first
              | (at_builtin; refine wpList_append_int rfl _ _ rfl _ rfl hr1 hn7 rfl (by simp) ?_; intro v1 wa owna hra hEa; have hrb := hr3.ext hEa (by simp); have hba := HB.out.ext hEa (by simp); have ca1 := hba.cell 1; simp only [List.getElem?_toArray, List.getElem?_cons_zero, List.getElem?_cons_succ] at ca1; have hE2 := hE1.trans (hEa.mono (by simp)); have da3 : wa.cell? ⟨g3, i, none⟩ = some (.int .i64 R.ths[i].2) := hE2.old hg3 HC3.out)
              | (at_builtin; refine wpList_append_int rfl _ _ rfl _ rfl hrb hn7 rfl (by simp) ?_; intro v3 wb ownb hrc hEb))
            clear HE hE1
            go_roundw
            case rel => exact put_next hlt rfl HEk.out HB.out HB2.out hEa hEb hra hrc
            case measure => simp [intOf]; omega
          · obtain rfl : i = R.ths.length := by omega
            rw [List.take_length] at hr1 hr3
            have hn7 : R.ths.length ≤ 7000000000000 := by omega
            obtain ⟨f0, f1, f2, f3, f4⟩ := five_free HB.out
            go_wp2_with (first
              | (at_builtin; refine wpList_append_int rfl _ _ rfl _ rfl hr1 hn7 rfl (by simp) ?_; intro v1 wa owna hra hEa; obtain ⟨a1, ac1, rfl⟩ := hra.shape; have hba := HB.out.ext hEa (by simp); obtain ⟨p0, p1, p2, p3, p4⟩ := five hba; obtain ⟨q0, q1, q2, q3, q4⟩ := five_free hba; have hEs := Ext.refl.setCell (M := fun c => c = 2) (w := wa) (own := owna) (a := ⟨w.heap.size, 0, none⟩) (fun _ => hba.col) (.slice a1 (R.ths.length + 1) ac1); have hrb := (hr3.ext hEa (by simp)).ext hEs (by simp))
              | (at_builtin; refine wpList_append_int rfl _ _ rfl _ rfl hrb hn7 rfl (by simp) ?_; intro v3 wb ownb hrc hEb; obtain ⟨a3, ac3, rfl⟩ := hrc.shape; have hbb := (hba.setCell 0 (.slice a1 (R.ths.length + 1) ac1)).ext hEb (by simp); have s1 : wb.cell? ⟨w.heap.size, 1, none⟩ = some (.slice ka R.ths.length kc) := hbb.cell 1; have t1 := hbb.free 1))
            have hEz := Ext.refl.setCell (M := fun c => c = 2) (w := wb) (own := ownb) (a := ⟨w.heap.size, 1, none⟩) (fun _ => hbb.col) (.slice a3 (R.ths.length + 1) ac3)
            have hbz : Blk (wb.setCell ⟨w.heap.size, 1, none⟩ (.slice a3 (R.ths.length + 1) ac3)) ownb 2 w.heap.size (.cells #[.slice a1 (R.ths.length + 1) ac1, .slice a3 (R.ths.length + 1) ac3, .int .i64 R.most, .int .i64 R.good, .int .i64 R.bad] 35 (0, 0)) := hbb.setCell 1 _
            have hbr := (((HB2.out.ext hEa (by simp)).setCell_other (a := ⟨w.heap.size, 0, none⟩) (by simp) (.slice a1 (R.ths.length + 1) ac1)).ext hEb (by simp)).setCell_other (a := ⟨w.heap.size, 1, none⟩) (by simp) (.slice a3 (R.ths.length + 1) ac3)
            have hra2 := ((hra.ext hEs (by simp)).ext hEb (by simp)).ext hEz (by simp)
            have hrc2 := hrc.ext hEz (by simp)
            have hEe := (((HEk.out.trans (hEa.mono (M' := fun c => c ≠ 0) (by simp))).trans (hEs.mono (by simp))).trans (hEb.mono (by simp))).trans (hEz.mono (by simp))
            obtain ⟨y0, y1, y2, y3, y4⟩ := five hbz
            obtain ⟨r0, r1, r2, r3, r4⟩ := five hbr
            obtain ⟨v0, v1, v2, v3, v4⟩ := five_free hbr
            have hEND := res_end2 (own := own) (L := L) (R' := { R with ths := R.ths ++ [(1, 0)] }) hEe hbr (by simp; omega) (sv := .slice a1 (R.ths.length + 1) ac1) (kv := .slice a3 (R.ths.length + 1) ac3) (by simpa using hra2) (by simpa using hrc2)
            have HEND := Lib.hid hEND
            have hDR := ref_drew hEND.1.1 hEND.1.2
            have HDR := Lib.hid hDR
            have hsz2 := hEe.size
            have hzs : w.heap.size + 1 < (wb.setCell ⟨w.heap.size, 1, none⟩ (.slice a3 (R.ths.length + 1) ac3)).heap.size := hbr.lt
            clear hEND hDR hEe hra2 hrc2 hra hrc hrb hr1 hr3 hbz hbr hEz hEa hEs hEb hbb hba HB HB2 HE HEk H1 H2 HRR HBE p0 p1 p2 p3 p4 q0 q1 q2 q3 q4 f0 f1 f2 f3 f4 cb0 cb1 cb2 cb3 cb4 s1 t1
            generalize wb.setCell ⟨w.heap.size, 1, none⟩ (.slice a3 (R.ths.length + 1) ac3) = wz at *
            clear hsz hsz2
            go_region
            go_wp2
            ((try simp only [Exit.inBlock, Exit.then]); refine bodyPost_ret (results_ctt' rfl _ _ ((w.heap.size + 1)) 35 _ _ _ rfl (HEND.out.2) Try.underlying35 rfl (by kernel_rfl)) rfl ?_)
            exact HP.out _ _ HDR.out.1 HDR.out.2

theorem rNew_any (most : Int) (w : World) (own : Nat → Nat) (L : Nat) :
    Calls Try.prog 40 #[.int .i64 most] w (RPost L (RV.fresh most) w own id) := by
  have hp : ∀ x : Int, x = (RV.fresh most).most → Hid (RPost L (RV.fresh most) w own id (.returned (.agg #[.slice none 0 0, .slice none 0 0, .int .i64 x, .int .i64 0, .int .i64 0]))
      (w.alloc (.cells #[.slice none 0 0, .slice none 0 0, .int .i64 x, .int .i64 0, .int .i64 0] 35)) ∧
      (w.alloc (.cells #[.slice none 0 0, .slice none 0 0, .int .i64 x, .int .i64 0, .int .i64 0] 35)).heap[w.heap.size]? = some (.cells #[.slice none 0 0, .slice none 0 0, .int .i64 x, .int .i64 0, .int .i64 0] 35 (0, 0))) := by
    intro x hx
    exact ⟨⟨_, rfl, ⟨by simp [RV.fresh], _, _, by rw [hx]; rfl, by simpa [RV.fresh, intsV] using Row.nil _ _ L 3 1, by simpa [RV.fresh, intsV] using Row.nil _ _ L 3 1⟩, (Below.refl _ _).alloc (Nat.le_refl _) _⟩, heap_alloc_new _ _⟩
  have hfr : (RV.fresh most).most = if most < 1 then 1 else if 8 < most then 8 else most := by simp only [RV.fresh]; split <;> (try split) <;> omega
  by_cases h1 : most < 1
  · have HP := hp 1 (by rw [hfr, if_pos h1])
    clear hp hfr
    go_enter Try.func40, Try.ntmps40
    go_wp2
    ((try simp only [Exit.inBlock, Exit.then]); refine bodyPost_ret (results_cell_row rfl _ _ ((w.heap.size)) 35 _ _ _ rfl (HP.out.2) Try.underlying35 rfl (by kernel_rfl)) rfl ?_)
    exact HP.out.1
  · by_cases h2 : 8 < most
    · have HP := hp 8 (by rw [hfr, if_neg h1, if_pos h2])
      clear hp hfr
      go_enter Try.func40, Try.ntmps40
      go_wp2
      ((try simp only [Exit.inBlock, Exit.then]); refine bodyPost_ret (results_cell_row rfl _ _ ((w.heap.size)) 35 _ _ _ rfl (HP.out.2) Try.underlying35 rfl (by kernel_rfl)) rfl ?_)
      exact HP.out.1
    · have HP := hp most (by rw [hfr, if_neg h1, if_neg h2])
      clear hp hfr
      go_enter Try.func40, Try.ntmps40
      go_wp2
      ((try simp only [Exit.inBlock, Exit.then]); refine bodyPost_ret (results_cell_row rfl _ _ ((w.heap.size)) 35 _ _ _ rfl (HP.out.2) Try.underlying35 rfl (by kernel_rfl)) rfl ?_)
      exact HP.out.1

def rto1 (l : List (Int × Int)) (i : Nat) : List Int := readyFrom (l.take i) 1
theorem rto1_succ (l : List (Int × Int)) (i : Nat) (hi : i < l.length) : rto1 l (i + 1) = if l[i].1 = 1 then rto1 l i ++ [(i : Int) + 1] else rto1 l i := by
  simp only [rto1]
  rw [List.take_succ_eq_append_getElem hi, readyFrom_append]
  simp only [List.length_take, Nat.min_eq_left (Nat.le_of_lt hi), readyFrom]
  split
  · congr 2; omega
  · simp
theorem rto1_le (l : List (Int × Int)) (i : Nat) : (rto1 l i).length ≤ i := by
  refine Nat.le_trans (readyFrom_length _ _) ?_
  rw [List.length_take]
  exact Nat.min_le_left _ _
def RReadyInv (w0 : World) (sv kv : Value) (R : RV) (ov iv : Value) (w : World) : Prop :=
  ∃ (own : Nat → Nat) (i : Nat), iv = .int .i64 i ∧ i ≤ R.ths.length ∧ Row w own 1 3 1 ov (rto1 R.ths i).length (intsV (rto1 R.ths i)) ∧
    Blk w own 2 w0.heap.size (.cells #[sv, kv, .int .i64 R.most, .int .i64 R.good, .int .i64 R.bad] 35 (0, 0)) ∧ Ext (fun c => c ≠ 0) w0 w (fun _ => 0) own
theorem ready_start (w : World) (sv kv : Value) (R : RV) :
    RReadyInv w sv kv R (.slice (some ⟨w.heap.size + 1, 0, none⟩) 0 0) (.int .i64 0)
      ((w.alloc (.cells #[sv, kv, .int .i64 R.most, .int .i64 R.good, .int .i64 R.bad] 35)).alloc (.cells #[] 3)) := by
  refine ⟨fun b => if b < w.heap.size then 0 else if b = w.heap.size + 1 then 1 else 2, 0, rfl, by omega, ?_, ?_, ?_⟩
  · have : rto1 R.ths 0 = [] := by simp [rto1, readyFrom]
    rw [this]
    refine Row.start ?_
    have := Blk.new (own := fun b => if b < w.heap.size then 0 else if b = w.heap.size + 1 then 1 else 2) (k := 1) (w.alloc (.cells #[sv, kv, .int .i64 R.most, .int .i64 R.good, .int .i64 R.bad] 35)) (.cells #[] 3 (0, 0)) (by simp)
    simpa using this
  · exact (Blk.new w _ (by simp)).alloc _
  · have h0 : Ext (fun c => c ≠ 0) w w (fun _ => 0) (fun b => if b < w.heap.size then 0 else if b = w.heap.size + 1 then 1 else 2) := ⟨rfl, rfl, rfl, Nat.le_refl _, fun b hb => by simp [hb], fun _ _ _ => rfl⟩
    exact (h0.alloc _).alloc _
set_option maxHeartbeats 1000000 in
theorem rReady_any (hR : Ref w own L v R) (L' : Nat) :
    Calls Try.prog 43 #[v] w fun e w' => ∃ v', e = .returned v' ∧ Row w' (ow own w.heap.size L') L' 3 1 v' R.ready.length (intsV R.ready) ∧ Below w.heap.size w w' := by
  have hlen := hR.1
  obtain ⟨sa, sc, ka, kc, rfl⟩ := hR.agg
  obtain ⟨h1, h2⟩ := hR.rows
  have H1 := Lib.hid (h1.recol (own' := fun _ => 0) (k' := 0) (fun _ _ _ => rfl))
  clear h1 h2 hR
  unfold refAgg
  go_enter Try.func43, Try.ntmps43
  go_wp2
  go_loopw [3, 4] (fun ov iv wr => RReadyInv w (.slice sa R.ths.length sc) (.slice ka R.ths.length kc) R ov iv wr) (fun _ iv _ => R.ths.length - (intOf iv).toNat)
  case atStart => exact ready_start _ _ _ _
  case round =>
    obtain ⟨own1, i, rfl, hi, hr1, hb, hE⟩ := hrel
    have hle := rto1_le R.ths i
    obtain ⟨c0, c1, c2, c3, c4⟩ := five hb
    have HB := Lib.hid hb
    have HE := Lib.hid hE
    clear hb hE
    by_cases hlt : i < R.ths.length
    · have hlt2 : (i : Int) < R.ths.length := by omega
      obtain ⟨g1, rfl, hg1, hx1, hc1⟩ := H1.out.int_at hlt
      rw [List.getElem_map] at hc1
      have d1 : wr.cell? ⟨g1, i, none⟩ = some (.int .i64 R.ths[i].1) := HE.out.old hg1 hc1
      have hrs := rto1_succ R.ths i hlt
      have HRS := Lib.hid hrs
      clear hc1 hx1 hrs
      by_cases h1 : R.ths[i].1 = 1
      · have hr2 : Hid (rto1 R.ths (i + 1) = rto1 R.ths i ++ [(i : Int) + 1]) := by rw [HRS.out, if_pos h1]; exact rfl
        rw [h1] at d1
        clear HRS h1
        have hn7 : (rto1 R.ths i).length ≤ 7000000000000 := by omega
        go_wp2_with (at_builtin; refine wpList_append_int rfl _ _ rfl _ rfl hr1 hn7 rfl (by simp) ?_; intro v1 wa owna hra hEa)
        go_roundw
        case rel =>
          refine ⟨owna, i + 1, by go_num, by omega, ?_, HB.out.ext hEa (by simp), HE.out.trans (hEa.mono (by simp))⟩
          rw [hr2.out, List.length_append, List.length_singleton]
          exact hra
        case measure => simp [intOf]; omega
      · have hr2 : Hid (rto1 R.ths (i + 1) = rto1 R.ths i) := by rw [HRS.out, if_neg h1]; exact rfl
        have b1 : (R.ths[i].1 == 1) = false := by simp [h1]
        generalize R.ths[i].1 = st at *
        clear HRS h1
        go_wp2
        go_roundw
        case rel => exact ⟨own1, i + 1, by go_num, by omega, by rw [hr2.out]; exact hr1, HB.out, HE.out⟩
        case measure => simp [intOf]; omega
    · obtain rfl : i = R.ths.length := by omega
      have hfin : Row wr (ow own w.heap.size L') L' 3 1 u3 R.ready.length (intsV R.ready) := by
        have e : rto1 R.ths R.ths.length = R.ready := by simp [rto1, RV.ready]
        rw [e] at hr1
        exact hr1.recol (fun b _ hc => ow_ge (HE.out.made (by rw [hc]; decide)))
      have HF := Lib.hid hfin
      have HBW := Lib.hid (HE.out.below (by simp))
      clear hr1 hfin
      go_wp2
      go_ret
      exact ⟨_, rfl, HF.out, HBW.out⟩
end
end Go.Proofs.Ytemibcglhbjaoaa
