/- The document's Rename of a right term. -/
import Derived.Test.YtamiidklcadkmaaRefApply
set_option maxRecDepth 20000
set_option linter.unusedVariables false
set_option linter.unusedSimpArgs false
namespace Go.Proofs.Ytamiidklcadkmaa
open Go.RowKit Go.PM
def bcells : List (Int × Int) → List Value
  | [] => []
  | p :: m => .int .i64 p.1 :: .int .i64 1 :: .string noStr :: .int .i64 p.2 :: .slice none 0 0 :: bcells m
theorem bcells_len : ∀ m, (bcells m).length = m.length * 5
  | [] => rfl
  | p :: m => by
    show (bcells m).length + 1 + 1 + 1 + 1 + 1 = (m.length + 1) * 5
    rw [bcells_len m]; omega
theorem bcells_append : ∀ m (p : Int × Int), bcells (m ++ [p]) = bcells m ++ [.int .i64 p.1, .int .i64 1, .string noStr, .int .i64 p.2, .slice none 0 0]
  | [], p => rfl
  | q :: m, p => by
    show _ :: _ :: _ :: _ :: _ :: bcells (m ++ [p]) = _
    rw [bcells_append m p]; rfl
theorem bcells_get : ∀ (m : List (Int × Int)) (i : Nat) (h : i < m.length), (bcells m)[i * 5]? = some (.int .i64 m[i].1) ∧ (bcells m)[i * 5 + 1]? = some (.int .i64 1) ∧ (bcells m)[i * 5 + 2]? = some (.string noStr) ∧ (bcells m)[i * 5 + 3]? = some (.int .i64 m[i].2) ∧ (bcells m)[i * 5 + 4]? = some (.slice none 0 0)
  | p :: m, 0, h => ⟨rfl, rfl, rfl, rfl, rfl⟩
  | p :: m, i + 1, h => by
    have hi : i < m.length := Nat.lt_of_succ_lt_succ h
    obtain ⟨q0, q1, q2, q3, q4⟩ := bcells_get m i hi
    have e : (i + 1) * 5 = i * 5 + 1 + 1 + 1 + 1 + 1 := by omega
    rw [e]
    refine ⟨q0, ?_, ?_, ?_, ?_⟩
    · rw [show i * 5 + 1 + 1 + 1 + 1 + 1 + 1 = (i * 5 + 1) + 1 + 1 + 1 + 1 + 1 from rfl]; exact q1
    · rw [show i * 5 + 1 + 1 + 1 + 1 + 1 + 2 = (i * 5 + 2) + 1 + 1 + 1 + 1 + 1 from rfl]; exact q2
    · rw [show i * 5 + 1 + 1 + 1 + 1 + 1 + 3 = (i * 5 + 3) + 1 + 1 + 1 + 1 + 1 from rfl]; exact q3
    · rw [show i * 5 + 1 + 1 + 1 + 1 + 1 + 4 = (i * 5 + 4) + 1 + 1 + 1 + 1 + 1 from rfl]; exact q4
theorem BRow.of {w : World} {own : Nat → Nat} {k : Nat} {v : Value} {m : List (Int × Int)} (h : Row w own k 81 5 v m.length (bcells m)) : BRow w v m := by
  obtain ⟨a, c, rfl⟩ := h.shape
  refine ⟨a, c, rfl, fun i hi => ?_⟩
  obtain ⟨g, cap, cur, hv, hb, _, _, _, hc⟩ := h.cells (by omega)
  injection hv with hv1
  obtain ⟨q0, q1, q2, q3, q4⟩ := bcells_get m i hi
  exact ⟨g, hv1, hb.lt, (hc _ (by omega)).trans q0, (hc _ (by omega)).trans q1, (hc _ (by omega)).trans q2, (hc _ (by omega)).trans q3, (hc _ (by omega)).trans q4⟩
theorem info_bind : (Try.prog.info? 81).map (fun i => (i.zero, i.size, i.bytes)) = some (some (.agg #[.int .i64 0, .int .i64 0, .string noStr, .int .i64 0, .slice none 0 0]), 5, 64) := by kernel_rfl
theorem parts_bind : ∃ i, Try.prog.info? 81 = some i ∧ i.zero = some (.agg #[.int .i64 0, .int .i64 0, .string noStr, .int .i64 0, .slice none 0 0]) ∧ i.size = 5 ∧ i.bytes = 64 := by
  have h := info_bind
  cases hx : Try.prog.info? 81 with
  | none => rw [hx] at h; cases h
  | some i =>
    rw [hx] at h
    have := Option.some.inj h
    injection this with h1 h2
    injection h2 with h2 h3
    exact ⟨i, rfl, h1, h2, h3⟩
/-- append of a binding. -/
theorem wpList_append_bind {ops : Array Oper} {rest : List Oper} {o : Oper} {a : Act} {Q : Exit → Act → World → Prop} {w0 : World} {own : Nat → Nat} {v : Value} {m : List (Int × Int)} (hgd : o.guard = none) (s y : Operand)
    (ho : o.op = .call { callee := .builtin .append, args := #[s, y], argTypes := #[79, 79] })
    {k x : Int}
    (hs : a.eval s = v) (hrow : Row w0 own 2 81 5 v m.length (bcells m)) (hn : m.length ≤ 1000000000000)
    {q : Nat} (hx : a.eval y = .slice (some ⟨q, 0, none⟩) 1 1) (hq : q = w0.heap.size)
    (h : ∀ v' w', Row w' (ow (ow own w0.heap.size 0) (w0.heap.size + 1) 2) 2 81 5 v' (m ++ [(k, x)]).length (bcells (m ++ [(k, x)])) → Ext (fun c => c = 2) w0 w' own (ow (ow own w0.heap.size 0) (w0.heap.size + 1) 2) → wpList Try.prog ops Q rest (a.put o.dst v') w') :
    wpList Try.prog ops Q (o :: rest) a (w0.alloc (.cells #[.int .i64 k, .int .i64 1, .string noStr, .int .i64 x, .slice none 0 0] 81)) := by
  subst hq
  obtain ⟨i0, hi0, hz0, hz1, hz2⟩ := parts_bind
  have hb1 : m.length + 1 ≤ maxLen := by unfold maxLen; omega
  have hb2 : (m.length + 1) * 64 ≤ 140737488355328 := by omega
  have hnew : (w0.alloc (.cells #[.int .i64 k, .int .i64 1, .string noStr, .int .i64 x, .slice none 0 0] 81)).heap[w0.heap.size]? = some (.cells #[.int .i64 k, .int .i64 1, .string noStr, .int .i64 x, .slice none 0 0] 81) := heap_alloc_new _ _
  have hrow0 : Row (w0.alloc (.cells #[.int .i64 k, .int .i64 1, .string noStr, .int .i64 x, .slice none 0 0] 81)) (ow own w0.heap.size 0) 2 81 5 v m.length (bcells m) := (Row_ow hrow 0).alloc _
  refine wpList_append_row hgd s y 79 ho i0 _ 64 Try.underlying79 hi0 hz0 hz1 hz2 rfl (by decide) hs hrow0 ⟨w0.heap.size, 0, none⟩ 1 1 [.int .i64 k, .int .i64 1, .string noStr, .int .i64 x, .slice none 0 0] hx rfl ?_ ?_ hb1 hb2 ?_
  · intro j u hu
    have hadd : ((⟨w0.heap.size, 0, none⟩ : Addr).add j) = ⟨w0.heap.size, j, none⟩ := by unfold Addr.add; split <;> simp_all
    rw [hadd, cell_of_row _ _ _ _ _ _ hnew]
    simpa using hu
  · intro u hu
    simp at hu
    rcases hu with rfl | rfl | rfl | rfl | rfl <;> rfl
  · intro v' w' hr hE _
    rw [World.size_alloc] at hr hE
    have hE2 : Ext (fun c => c = 2) w0 w' own (ow (ow own w0.heap.size 0) (w0.heap.size + 1) 2) := (ext_box 0 _).trans hE
    exact h v' w' (by rw [List.length_append, bcells_append]; exact hr) hE2
def RrInv (w2 : World) (own2 : Nat → Nat) (vs : List Int) (n : Int) (g : Nat) (bv iv : Value) (w : World) : Prop :=
  ∃ (own : Nat → Nat) (i : Nat), iv = .int .i64 i ∧ i + g = vs.length ∧ Row w own 2 81 5 bv (renM (vs.take i) n).length (bcells (renM (vs.take i) n)) ∧ Ext (fun c => c = 2) w2 w own2 own
theorem renM_len (vs : List Int) : ∀ n : Int, (renM vs n).length = vs.length := by
  induction vs with
  | nil => intro n; rfl
  | cons v vs ih => intro n; rw [renM, List.length_cons, List.length_cons, ih]
theorem renM_pos (vs : List Int) : ∀ n : Int, 1 ≤ n → ∀ p ∈ renM vs n, 1 ≤ p.2 := by
  induction vs with
  | nil => intro n _ p hp; cases hp
  | cons v vs ih =>
    intro n hn p hp
    rw [renM] at hp
    rcases List.mem_cons.1 hp with rfl | hp
    · exact hn
    · exact ih (n + 1) (by omega) p hp
set_option maxHeartbeats 2000000 in
theorem rRename_right (t : Tm) (w : World) (C : Nat → Prop) (v : Value) (n : Int) (hv : TmV w C t v) (hr : Tm.rightN t = true) (hn1 : 1 ≤ n) (hn2 : n ≤ 1125899906842624) :
    Calls Try.prog 22 #[v, .int .i64 n] w (TmRet w (Tm.ren (renM (Tm.vars t []) n) t) [.int .i64 (n + (Tm.vars t []).length)]) := by
  obtain ⟨a1, l1, c1, rfl, -, -, -, -⟩ := TmV_open hv
  obtain ⟨hb0, hb1, hB0, hz0⟩ := two_new w (.cells #[.int .i64 t.k, .string t.s, .int .i64 t.x, .slice a1 l1 c1] 24) (.cells #[.int .i64 0, .string ⟨#[]⟩, .int .i64 0, .slice none 0 0] 24)
  obtain ⟨hsz, -, hpl⟩ := (rightN_iff t).1 hr
  have hvl := vars_len t []
  simp only [List.length_nil] at hvl
  have hpos := sz_pos t
  have HVS := Lib.hid (rVars_any t _ C _ (TmV.below hv hB0) (by omega))
  generalize hvs : Tm.vars t [] = vs at *
  have hL : vs.length ≤ 2000 := by omega
  have HAP := Lib.hid (apply_any (renM vs n) (fun p hp => ⟨renM_pos vs n hn1 p hp, renM_rng vs n (by omega) (by omega) p hp⟩) t)
  have HPL := Lib.hid hpl
  have HV := Lib.hid hv
  have H0 := Lib.hid hb0
  have H1 := Lib.hid hb1
  have HB0 := Lib.hid hB0
  have HZ0 := Lib.hid hz0
  generalize Tm.ren (renM vs n) t = t' at *
  clear hb0 hb1 hB0 hz0 hv hvs hr hpl hsz hvl hpos
  generalize Tm.k t = k at *
  generalize Tm.s t = s at *
  generalize Tm.x t = x at *
  go_enter Try.func22, Try.ntmps22
  go_wp2_with fail
  refine HVS.out.mono ?_
  rintro e w1 ⟨v1, rfl, hr1, hB1⟩
  rw [HZ0.out] at hr1 hB1
  obtain ⟨va, vc, rfl⟩ := hr1.shape
  have h0 := (Blk_sameN H0.out hB1 (by omega)).recol (own' := fresh (w.heap.size + 1 + 1)) (k := 0) (ow_lt (by omega))
  have h1 := (Blk_sameN H1.out hB1 (by omega)).recol (own' := fresh (w.heap.size + 1 + 1)) (k := 0) (ow_lt (by omega))
  have hE2 : Ext (fun c => c = 2) w1 (w1.alloc (.cells #[] 81)) (fresh (w.heap.size + 1 + 1)) (ow (fresh (w.heap.size + 1 + 1)) w1.heap.size 2) := (Ext.refl.ow 2).alloc _
  have hrow2 : Row (w1.alloc (.cells #[] 81)) (ow (fresh (w.heap.size + 1 + 1)) w1.heap.size 2) 2 81 5 (.slice (some ⟨w1.heap.size, 0, none⟩) 0 0) 0 [] := Row.start (Blk.new w1 _ (ow_ge (Nat.le_refl _)))
  have HR2 := Lib.hid (hr1.ext hE2 (by decide))
  have G0 := Lib.hid (h0.ext hE2 (by decide))
  have G1 := Lib.hid (h1.ext hE2 (by decide))
  have hBw1 : Below w.heap.size w w1 := HB0.out.trans (hB1.mono (by have := HZ0.out; omega))
  have HX2 := Lib.hid (Ext.trans (⟨hBw1.os, hBw1.tape, hBw1.output, hBw1.size, fun b hb => ow_lt (by omega), fun b hb _ => hBw1.block b hb⟩ : Ext (fun c => c = 2) w w1 (fun _ => 0) (fresh (w.heap.size + 1 + 1))) hE2)
  have HROW2 := Lib.hid hrow2
  clear hr1 hB1 h0 h1 hE2 hrow2 hBw1 HVS H0 H1 HB0
  go_wp2_with fail
  generalize (w1.alloc (.cells #[] 81)) = w2 at *
  generalize hq2 : (Value.slice (some ⟨w1.heap.size, 0, none⟩) 0 0) = bv2 at *
  generalize (ow (fresh (w.heap.size + 1 + 1)) w1.heap.size 2) = own2 at *
  clear hq2
  go_loopg [7, 8] vs.length (fun g bv iv wr => RrInv w2 own2 vs n g bv iv wr)
  case atStart => exact ⟨own2, 0, rfl, by omega, HROW2.out, Ext.refl⟩
  case round =>
    obtain ⟨ownr, i, rfl, hi, hrow, hEr⟩ := hrel
    obtain ⟨ba, bc, rfl⟩ := hrow.shape
    have HV2 := Lib.hid (HR2.out.ext hEr (by decide))
    have h0 := G0.out.ext hEr (by decide)
    have h1 := G1.out.ext hEr (by decide)
    have HROW := Lib.hid hrow
    have HER := Lib.hid hEr
    have HG0 := Lib.hid h0
    have HG1 := Lib.hid h1
    have hEw := HX2.out.trans hEr
    have HBW := Lib.hid (hEw.below fun b hb => by decide)
    have HTV := Lib.hid (TmV.below HV.out HBW.out)
    by_cases hlt : i < vs.length
    · have hlt2 : (i : Int) < vs.length := by omega
      obtain ⟨gv, rfl, hgl, hgc, hgf, hgx, hgv⟩ := HV2.out.irow_at hlt
      have hnext : renM (vs.take (i + 1)) n = renM (vs.take i) n ++ [(vs[i], n + i)] := by
        rw [List.take_succ_eq_append_getElem hlt, renM_append, List.length_take, Nat.min_eq_left (by omega)]
      have HNX := Lib.hid hnext
      have hrl : (renM (vs.take i) n).length ≤ 1000000000000 := by rw [renM_len, List.length_take]; omega
      clear hrow hEr h0 h1 hEw hnext
      generalize renM (vs.take i) n = rs at *
      generalize vs[i] = y at *
      go_wp2_with (at_builtin; refine wpList_append_bind (v := .slice ba rs.length bc) (k := y) (x := n + i) rfl _ _ rfl rfl HROW.out hrl rfl rfl ?_; intro v8 w8 hr8 hE8; obtain ⟨a8, c8, rfl⟩ := hr8.shape)
      have HR8 := Lib.hid hr8
      have HE8 := Lib.hid (HER.out.trans hE8)
      clear hr8 hE8
      go_wp2_with fail
      go_roundg (vs.length - (i + 1))
      case measure => omega
      case rel => exact ⟨_, i + 1, by go_num, by omega, by rw [HNX.out]; simpa only [List.length_append, List.length_singleton] using HR8.out, HE8.out⟩
    · obtain rfl : i = vs.length := by omega
      rw [List.take_length] at HROW
      have hml : (renM vs n).length ≤ 1000000 := by rw [renM_len]; omega
      have HA := Lib.hid (HAP.out wr C _ _ HTV.out (BRow.of HROW.out) hml HPL.out)
      have z0 : wr.cell? ⟨w.heap.size, 0, none⟩ = some (.int .i64 k) := h0.cell 0
      have z1 : wr.cell? ⟨w.heap.size, 1, none⟩ = some (.string s) := h0.cell 1
      have z2 : wr.cell? ⟨w.heap.size, 2, none⟩ = some (.int .i64 x) := h0.cell 2
      have z3 : wr.cell? ⟨w.heap.size, 3, none⟩ = some (.slice a1 l1 c1) := h0.cell 3
      have hl0 := h0.lt
      clear hrow hEr h0 h1 hEw HAP
      go_wp2_with fail
      refine HA.out.mono ?_
      rintro e w7 ⟨v7, rfl, hv7, hB7⟩
      have hb1 := Blk_same HG1.out hB7
      have H17 := Lib.hid hb1
      have f0 := hb1.free 0
      have f1 := hb1.free 1
      have f2 := hb1.free 2
      have f3 := hb1.free 3
      have l1 := hb1.lt
      have d0 : w7.cell? ⟨w.heap.size + 1, 0, none⟩ = some (.int .i64 0) := hb1.cell 0
      have d1 : w7.cell? ⟨w.heap.size + 1, 1, none⟩ = some (.string noStr) := hb1.cell 1
      have d2 : w7.cell? ⟨w.heap.size + 1, 2, none⟩ = some (.int .i64 0) := hb1.cell 2
      have d3 : w7.cell? ⟨w.heap.size + 1, 3, none⟩ = some (.slice none 0 0) := hb1.cell 3
      have hlr := HG1.out.lt
      have HB7 := Lib.hid (HBW.out.trans (hB7.mono HBW.out.size))
      have HV7 := Lib.hid hv7
      obtain ⟨a7, l7, c7, rfl, -, -, -, -⟩ := TmV_open hv7
      clear hB7 hb1 hv7 HA HG1
      generalize Tm.k t' = k7 at *
      generalize Tm.s t' = s7 at *
      generalize Tm.x t' = x7 at *
      go_wp2_with fail
      have hend := Blk.putCells (cs := [.int .i64 0, .string noStr, .int .i64 0, .slice none 0 0]) (vs := [.int .i64 k7, .string s7, .int .i64 x7, .slice a7 l7 c7]) H17.out rfl
      have hbel := below_put HB7.out (b := w.heap.size + 1) (by omega) [.int .i64 k7, .string s7, .int .i64 x7, .slice a7 l7 c7]
      have htv := (TmV_put (b := w.heap.size + 1) HV7.out hlr [.int .i64 k7, .string s7, .int .i64 x7, .slice a7 l7 c7]).carry (C' := fun g => w.heap.size ≤ g) (Nat.le_refl _) fun g hg hc => ⟨rfl, by show w.heap.size ≤ g; omega⟩
      simp only [putCells, Nat.reduceAdd] at hend hbel htv
      ((try simp only [Exit.inBlock, Exit.then]); refine bodyPost_ret (results_ct rfl _ _ ((w.heap.size + 1)) 24 _ _ _ rfl (hend.at_) Try.underlying24 rfl (by kernel_rfl)) rfl ?_)
      exact ⟨_, rfl, htv, hbel⟩
end Go.Proofs.Ytamiidklcadkmaa
