/- The document's Put and Copy of a variable, apply with variables for variables. -/
import Derived.Test.YtamiidklcadkmaaCodeLike
set_option maxRecDepth 20000
set_option linter.unusedVariables false
set_option linter.unusedSimpArgs false
namespace Go.Proofs.Ytamiidklcadkmaa
open Go.RowKit Go.PM
/-- Put: nothing, in a variable that isn't meant. -/
theorem Put_var (y : Int) (hy : y ≠ 0) (w : World) :
    Calls Try.prog 65 #[.agg #[.int .i64 1, .string noStr, .int .i64 y, .slice none 0 0], .int .i64 0, .agg #[.int .i64 0, .string noStr, .int .i64 0, .slice none 0 0]] w fun e w' => e = .returned (.agg #[.int .i64 1, .string noStr, .int .i64 y, .slice none 0 0]) ∧ Below w.heap.size w w' := by
  have hyb : (y == 0) = false := by simp [hy]
  obtain ⟨hb0, hb1, hB0, hz0⟩ := two_new w (.cells #[.int .i64 1, .string noStr, .int .i64 y, .slice none 0 0] 24) (.cells #[.int .i64 0, .string noStr, .int .i64 0, .slice none 0 0] 24)
  have hn := Blk.new (own := fun _ => 0) (k := 0) ((w.alloc (.cells #[.int .i64 1, .string noStr, .int .i64 y, .slice none 0 0] 24)).alloc (.cells #[.int .i64 0, .string noStr, .int .i64 0, .slice none 0 0] 24)) (.cells #[.int .i64 0, .string noStr, .int .i64 0, .slice none 0 0] 24) rfl
  rw [hz0] at hn
  have HN := Lib.hid hn
  have HB0 := Lib.hid (hB0.alloc hB0.size (.cells #[.int .i64 0, .string noStr, .int .i64 0, .slice none 0 0] 24))
  clear hb0 hb1 hB0 hz0 hn hy
  go_enter Try.func65, Try.ntmps65
  go_wp2_with fail
  refine (rbare_any _ _ _ _ _ _ _).mono ?_
  rintro e w2 ⟨rfl, hB⟩
  rw [show bareS 1 noStr = noStr from rfl, show bareX 1 y = y from rfl]
  have h2 := Blk_same HN.out hB
  have H2 := Lib.hid h2
  have f0 := h2.free 0
  have f1 := h2.free 1
  have f2 := h2.free 2
  have f3 := h2.free 3
  have l1 := h2.lt
  have d0 : w2.cell? ⟨w.heap.size + 1 + 1, 0, none⟩ = some (.int .i64 0) := h2.cell 0
  have d1 : w2.cell? ⟨w.heap.size + 1 + 1, 1, none⟩ = some (.string noStr) := h2.cell 1
  have d2 : w2.cell? ⟨w.heap.size + 1 + 1, 2, none⟩ = some (.int .i64 0) := h2.cell 2
  have d3 : w2.cell? ⟨w.heap.size + 1 + 1, 3, none⟩ = some (.slice none 0 0) := h2.cell 3
  have HB2 := Lib.hid (HB0.out.trans (hB.mono HB0.out.size))
  clear h2 hB HN
  go_wp2_with fail
  have hend := Blk.putCells (cs := [.int .i64 0, .string noStr, .int .i64 0, .slice none 0 0]) (vs := [.int .i64 1, .string noStr, .int .i64 y, .slice none 0 0]) H2.out rfl
  have hbel := below_put HB2.out (b := w.heap.size + 1 + 1) (by omega) [.int .i64 1, .string noStr, .int .i64 y, .slice none 0 0]
  simp only [putCells, Nat.reduceAdd] at hend hbel
  refine bodyPost_ret (v := .agg #[.int .i64 1, .string noStr, .int .i64 y, .slice none 0 0]) (results_cell_row rfl _ _ (w.heap.size + 1 + 1) 24 _ _ _ rfl hend.at_ Try.underlying24 rfl (by kernel_rfl)) rfl ?_
  exact ⟨rfl, hbel⟩
theorem Copy_var (y : Int) (hy : y ≠ 0) (w : World) :
    Calls Try.prog 55 #[.agg #[.int .i64 1, .string noStr, .int .i64 y, .slice none 0 0]] w fun e w' => e = .returned (.agg #[.int .i64 1, .string noStr, .int .i64 y, .slice none 0 0]) ∧ Below w.heap.size w w' := by
  obtain ⟨-, hb1, hB0, -⟩ := two_new w (.cells #[.int .i64 1, .string noStr, .int .i64 y, .slice none 0 0] 24) (.cells #[.int .i64 0, .string noStr, .int .i64 0, .slice none 0 0] 24)
  have HN := Lib.hid hb1
  have HB0 := Lib.hid hB0
  clear hb1 hB0
  go_enter Try.func55, Try.ntmps55
  go_wp2_with fail
  refine (Put_var y hy _).mono ?_
  rintro e w2 ⟨rfl, hB⟩
  have h2 := Blk_same HN.out hB
  have H2 := Lib.hid h2
  have f0 := h2.free 0
  have f1 := h2.free 1
  have f2 := h2.free 2
  have f3 := h2.free 3
  have l1 := h2.lt
  have d0 : w2.cell? ⟨w.heap.size + 1, 0, none⟩ = some (.int .i64 0) := h2.cell 0
  have d1 : w2.cell? ⟨w.heap.size + 1, 1, none⟩ = some (.string noStr) := h2.cell 1
  have d2 : w2.cell? ⟨w.heap.size + 1, 2, none⟩ = some (.int .i64 0) := h2.cell 2
  have d3 : w2.cell? ⟨w.heap.size + 1, 3, none⟩ = some (.slice none 0 0) := h2.cell 3
  have HB2 := Lib.hid (HB0.out.trans (hB.mono HB0.out.size))
  clear h2 hB HN
  go_wp2_with fail
  have hend := Blk.putCells (cs := [.int .i64 0, .string noStr, .int .i64 0, .slice none 0 0]) (vs := [.int .i64 1, .string noStr, .int .i64 y, .slice none 0 0]) H2.out rfl
  have hbel := below_put HB2.out (b := w.heap.size + 1) (by omega) [.int .i64 1, .string noStr, .int .i64 y, .slice none 0 0]
  simp only [putCells, Nat.reduceAdd] at hend hbel
  refine bodyPost_ret (v := .agg #[.int .i64 1, .string noStr, .int .i64 y, .slice none 0 0]) (results_cell_row rfl _ _ (w.heap.size + 1) 24 _ _ _ rfl hend.at_ Try.underlying24 rfl (by kernel_rfl)) rfl ?_
  exact ⟨rfl, hbel⟩
/-- Bindings in memory: variables' numbers, and variables for them. -/
def BRow (w : World) (v : Value) (m : List (Int × Int)) : Prop := ∃ a c, v = .slice a m.length c ∧ ∀ i (h : i < m.length), ∃ g, a = some ⟨g, 0, none⟩ ∧ g < w.heap.size ∧ w.cell? ⟨g, i * 5, none⟩ = some (.int .i64 m[i].1) ∧ w.cell? ⟨g, i * 5 + 1, none⟩ = some (.int .i64 1) ∧ w.cell? ⟨g, i * 5 + 2, none⟩ = some (.string noStr) ∧ w.cell? ⟨g, i * 5 + 3, none⟩ = some (.int .i64 m[i].2) ∧ w.cell? ⟨g, i * 5 + 4, none⟩ = some (.slice none 0 0)
theorem BRow.below {w w' : World} {v : Value} {m : List (Int × Int)} (h : BRow w v m) (e : Below w.heap.size w w') : BRow w' v m := by
  obtain ⟨a, c, h1, h2⟩ := h
  refine ⟨a, c, h1, fun i hi => ?_⟩
  obtain ⟨g, e1, hg, q0, q1, q2, q3, q4⟩ := h2 i hi
  exact ⟨g, e1, by have := e.size; omega, by rw [e.cell (p := ⟨g, _, none⟩) hg]; exact q0, by rw [e.cell (p := ⟨g, _, none⟩) hg]; exact q1, by rw [e.cell (p := ⟨g, _, none⟩) hg]; exact q2, by rw [e.cell (p := ⟨g, _, none⟩) hg]; exact q3, by rw [e.cell (p := ⟨g, _, none⟩) hg]; exact q4⟩
theorem Below_drewN {n : Nat} {w w' : World} (h : Below n w w') (k : Nat) : Below n w (w'.drewN k) := ⟨h.os, h.tape, h.output, h.size, h.block⟩
def ApInv1 (w0 : World) (m : List (Int × Int)) (x : Int) (r : Option Int) (g : Nat) (iv : Value) (w : World) : Prop := ∃ i : Nat, iv = .int .i64 i ∧ i + g = m.length ∧ mlk (m.drop i) x = r ∧ Below w0.heap.size w0 w
theorem mlk_cons (p : Int × Int) (m : List (Int × Int)) (x : Int) : mlk (p :: m) x = if p.1 = x then some p.2 else mlk m x := by
  unfold mlk
  rw [List.find?_cons]
  by_cases h : p.1 = x
  · simp [h]
  · have hb : (p.1 == x) = false := by simp [h]
    rw [hb, if_neg h]
/-- The end of apply where a term is no compound one. -/
theorem ap_end {w w2 : World} {b : Nat} {k : Int} {s : ByteArray} {x : Int} (hB : Below w.heap.size w w2) (hbw : w.heap.size ≤ b) (hk : rng64 k) (hs : s.size ≤ 9223372036854775807) (hx : rng64 x) :
    TmRet1 w (.mk k s x []) (.returned (.agg #[.int .i64 k, .string s, .int .i64 x, .slice none 0 0])) (putCells w2 b 0 [.int .i64 k, .string s, .int .i64 x, .slice none 0 0]) :=
  ⟨_, rfl, ⟨_, rfl, hk, hs, hx, by unfold Tm.At; exact .inl ⟨rfl, _, _, rfl⟩⟩, below_put hB hbw _⟩
theorem ap_end4 {w w4 : World} {own4 : Nat → Nat} {b : Nat} {s : ByteArray} {ov : Value} {ts : List Tm} (hE : Ext (fun c => c = 2 ∨ c = 4) w w4 (fun _ => 0) own4) (hb : own4 b = 5) (hbw : w.heap.size ≤ b) (hs : s.size ≤ 9223372036854775807) (hl : ts.length ≤ 9223372036854775807) (hr : TRow w4 own4 2 (fun g => own4 g = 0 ∧ w.heap.size ≤ g) ov ts) :
    TmRet1 w (.mk 4 s 0 ts) (.returned (.agg #[.int .i64 4, .string s, .int .i64 0, ov])) (putCells w4 b 0 [.int .i64 4, .string s, .int .i64 0, ov]) := by
  have hE3 : Ext (fun c => c = 5) w4 (putCells w4 b 0 [.int .i64 4, .string s, .int .i64 0, ov]) own4 own4 := Ext.putCells (M := fun c => c = 5) (fun _ => hb) _ _ _ Ext.refl
  have hr2 : TRow (putCells w4 b 0 [.int .i64 4, .string s, .int .i64 0, ov]) own4 2 (fun g => own4 g = 0 ∧ w.heap.size ≤ g) ov ts := hr.ext hE3 (by decide) fun g hg hc => ⟨by rw [hc.1]; decide, hc⟩
  refine ⟨_, rfl, ⟨_, rfl, (by unfold rng64; show -9223372036854775808 ≤ (4 : Int) ∧ (4 : Int) ≤ 9223372036854775807; decide), hs, (by unfold rng64; show -9223372036854775808 ≤ (0 : Int) ∧ (0 : Int) ≤ 9223372036854775807; decide), hr2.at _ _ _ ?_ (fun g hg hc => hc.2) hl⟩, below_put (hE.below fun b hb => by decide) hbw _⟩
  intro g hg hc
  by_cases h : g < w.heap.size
  · have := hE.col g h
    rw [hc] at this
    exact absurd this (by decide)
  · show w.heap.size ≤ g
    omega
def ApInv (w w0 : World) (o : Nat) (ls : List Tm) (m : List (Int × Int)) (s : ByteArray) (own0 : Nat → Nat) (g : Nat) (iv : Value) (wr : World) : Prop :=
  ∃ (own : Nat → Nat) (i : Nat) (ov : Value), iv = .int .i64 i ∧ i + g = ls.length ∧ TRow wr own 2 (fun g => own g = 0 ∧ w.heap.size ≤ g) ov (Tms.ren m (ls.take i)) ∧ Blk wr own 4 o (.cells #[.int .i64 4, .string s, .int .i64 0, ov] 24 (0, 0)) ∧ Ext (fun c => c = 2 ∨ c = 4) w0 wr own0 own
set_option maxHeartbeats 8000000 in
theorem apply_any (m : List (Int × Int)) (hm : ∀ p ∈ m, 1 ≤ p.2 ∧ rng64 p.2) : ∀ (t : Tm) (w : World) (C : Nat → Prop) (v bv : Value), TmV w C t v → BRow w bv m → m.length ≤ 1000000 → Tm.pl t →
    Calls Try.prog 39 #[v, bv] w (TmRet1 w (Tm.ren m t)) := by
  refine Tm.ind fun k s x ls ih w C v bv hv hbv hml hpl => ?_
  obtain ⟨a1, l1, c1, rfl, wk, ws, wx, hat⟩ := TmV_open hv
  have wk : rng64 k := wk
  have ws : s.size ≤ 9223372036854775807 := ws
  have wx : rng64 x := wx
  have hl1 := (at_len hat).1
  obtain rfl : l1 = ls.length := hl1
  have IH := Lib.hid ih
  have HV := Lib.hid hv
  have HBV := Lib.hid hbv
  obtain ⟨ba, bc, rfl, -⟩ := hbv
  have hk1 : Tm.k (.mk k s x ls) = k := rfl
  have hs1 : Tm.s (.mk k s x ls) = s := rfl
  have hx1 : Tm.x (.mk k s x ls) = x := rfl
  rw [hk1, hs1, hx1]
  rw [hk1, hs1, hx1] at HV
  obtain ⟨hb0, hb1, hB0, hz0⟩ := two_new w (.cells #[.int .i64 k, .string s, .int .i64 x, .slice a1 ls.length c1] 24) (.cells #[.int .i64 0, .string ⟨#[]⟩, .int .i64 0, .slice none 0 0] 24)
  have H0 := Lib.hid hb0
  have H1 := Lib.hid hb1
  have HB0 := Lib.hid hB0
  have HZ0 := Lib.hid hz0
  have hzz : w.heap.size + 1 < ((w.alloc (.cells #[.int .i64 k, .string s, .int .i64 x, .slice a1 ls.length c1] 24)).alloc (.cells #[.int .i64 0, .string ⟨#[]⟩, .int .i64 0, .slice none 0 0] 24)).heap.size := by omega
  have HR := Lib.hid (show Tm.ren m (.mk k s x ls) = _ by rw [Tm.ren])
  clear ih hk1 hs1 hx1 hv hat hb0 hb1 hB0 hz0
  by_cases k1 : k = 1
  · subst k1
    rw [if_pos rfl] at HR
    have HR := HR
    generalize hmr : mlk m x = r at *
    have HMR := Lib.hid hmr
    have HM := Lib.hid hm
    clear hmr hm hpl IH
    go_enter Try.func39, Try.ntmps39
    go_wp2_with fail
    generalize hw1 : ((w.alloc (.cells #[.int .i64 1, .string s, .int .i64 x, .slice a1 ls.length c1] 24)).alloc (.cells #[.int .i64 0, .string ⟨#[]⟩, .int .i64 0, .slice none 0 0] 24)) = w1 at *
    clear hw1
    go_loopg [5] m.length (fun g iv wr => ApInv1 w1 m x r g iv wr)
    case atStart => exact ⟨0, rfl, by omega, HMR.out, Below.refl _ _⟩
    case round =>
      obtain ⟨i, rfl, hi, hr, hBl⟩ := hrel
      have h0 := Blk_same H0.out hBl
      have h1 := Blk_same H1.out hBl
      have z0 : wr.cell? ⟨w.heap.size, 0, none⟩ = some (.int .i64 1) := h0.cell 0
      have z1 : wr.cell? ⟨w.heap.size, 1, none⟩ = some (.string s) := h0.cell 1
      have z2 : wr.cell? ⟨w.heap.size, 2, none⟩ = some (.int .i64 x) := h0.cell 2
      have z3 : wr.cell? ⟨w.heap.size, 3, none⟩ = some (.slice a1 ls.length c1) := h0.cell 3
      have hz0l := h0.lt
      have H1R := Lib.hid h1
      have HBL := Lib.hid hBl
      have HBW := Lib.hid (HB0.out.trans (hBl.mono HB0.out.size))
      by_cases hlt : i < m.length
      · have hlt2 : (i : Int) < m.length := by omega
        obtain ⟨a', c', he, hbb⟩ := HBV.out.below HBW.out
        injection he with he1 _ he3
        subst he1
        subst he3
        obtain ⟨g, rfl, hg, q0, q1, q2, q3, q4⟩ := hbb i hlt
        have hmi := HM.out m[i] (List.getElem_mem hlt)
        rw [List.drop_eq_getElem_cons hlt, mlk_cons] at hr
        clear hbb h0 h1 hBl
        by_cases he : m[i].1 = x
        · rw [if_pos he] at hr
          subst hr
          rw [he] at q0
          clear he
          have hy0 : m[i].2 ≠ 0 := by omega
          have HY := Lib.hid hmi.2
          have HC := Lib.hid (fun w2 => Copy_var m[i].2 hy0 w2)
          clear hmi hy0
          generalize m[i].2 = y2 at *
          go_wp2_with fail
          go_quiet (fail)
          have q1' : (wr.drewN nq).cell? ⟨g, i * 5 + 1, none⟩ = some (.int .i64 1) := q1
          have q2' : (wr.drewN nq).cell? ⟨g, i * 5 + 2, none⟩ = some (.string noStr) := q2
          have q3' : (wr.drewN nq).cell? ⟨g, i * 5 + 3, none⟩ = some (.int .i64 y2) := q3
          have q4' : (wr.drewN nq).cell? ⟨g, i * 5 + 4, none⟩ = some (.slice none 0 0) := q4
          have H1R := Lib.hid (H1R.out.drewN nq)
          have HBW := Lib.hid (Below_drewN HBW.out nq)
          have hzl : w.heap.size + 1 < (wr.drewN nq).heap.size := H1R.out.lt
          clear q0 q1 q2 q3 q4 z0 z1 z2 z3 hz0l HBL
          generalize wr.drewN nq = w6 at *
          go_wp2_with fail
          refine (HC.out _).mono ?_
          rintro e w2 ⟨rfl, hB⟩
          have h2 := Blk_same H1R.out hB
          have H2 := Lib.hid h2
          have f0 := h2.free 0
          have f1 := h2.free 1
          have f2 := h2.free 2
          have f3 := h2.free 3
          have l1 := h2.lt
          have d0 : w2.cell? ⟨w.heap.size + 1, 0, none⟩ = some (.int .i64 0) := h2.cell 0
          have d1 : w2.cell? ⟨w.heap.size + 1, 1, none⟩ = some (.string noStr) := h2.cell 1
          have d2 : w2.cell? ⟨w.heap.size + 1, 2, none⟩ = some (.int .i64 0) := h2.cell 2
          have d3 : w2.cell? ⟨w.heap.size + 1, 3, none⟩ = some (.slice none 0 0) := h2.cell 3
          have HB2 := Lib.hid (HBW.out.trans (hB.mono HBW.out.size))
          clear h2 hB
          go_wp2_with fail
          have hend := Blk.putCells (cs := [.int .i64 0, .string noStr, .int .i64 0, .slice none 0 0]) (vs := [.int .i64 1, .string noStr, .int .i64 y2, .slice none 0 0]) H2.out rfl
          have hp := ap_end (b := w.heap.size + 1) (k := 1) (s := noStr) (x := y2) HB2.out (by omega) (by unfold rng64; decide) (by decide) HY.out
          simp only [putCells, Nat.reduceAdd] at hend hp
          refine bodyPost_ret (v := .agg #[.int .i64 1, .string noStr, .int .i64 y2, .slice none 0 0]) (results_cell_row rfl _ _ (w.heap.size + 1) 24 _ _ _ rfl hend.at_ Try.underlying24 rfl (by kernel_rfl)) rfl ?_
          rw [HR.out]
          exact hp
        · rw [if_neg he] at hr
          have HR2 := Lib.hid hr
          have hb : (m[i].1 == x) = false := by simp [he]
          clear hr he hmi
          generalize m[i].1 = y1 at *
          generalize m[i].2 = y2 at *
          go_wp2_with fail
          go_quiet (fail)
          go_wp2_with fail
          go_roundg (m.length - (i + 1))
          case measure => omega
          case rel => exact ⟨i + 1, by go_num, by omega, HR2.out, Below_drewN HBL.out _⟩
      · obtain rfl : i = m.length := by omega
        rw [List.drop_length] at hr
        have hr : r = none := by rw [← hr]; rfl
        subst hr
        clear h0 h1 hBl
        go_wp2_with fail
        refine (rbare_any _ _ _ _ _ _ _).mono ?_
        rintro e w2 ⟨rfl, hB⟩
        rw [show bareS 1 s = noStr from rfl, show bareX 1 x = x from rfl]
        clear z0 z1 z2 z3 hz0l
        have h2 := Blk_same H1R.out hB
        have H2 := Lib.hid h2
        have f0 := h2.free 0
        have f1 := h2.free 1
        have f2 := h2.free 2
        have f3 := h2.free 3
        have l1 := h2.lt
        have d0 : w2.cell? ⟨w.heap.size + 1, 0, none⟩ = some (.int .i64 0) := h2.cell 0
        have d1 : w2.cell? ⟨w.heap.size + 1, 1, none⟩ = some (.string noStr) := h2.cell 1
        have d2 : w2.cell? ⟨w.heap.size + 1, 2, none⟩ = some (.int .i64 0) := h2.cell 2
        have d3 : w2.cell? ⟨w.heap.size + 1, 3, none⟩ = some (.slice none 0 0) := h2.cell 3
        have HB2 := Lib.hid (HBW.out.trans (hB.mono HBW.out.size))
        clear h2 hB
        go_wp2_with fail
        have hend := Blk.putCells (cs := [.int .i64 0, .string noStr, .int .i64 0, .slice none 0 0]) (vs := [.int .i64 1, .string noStr, .int .i64 x, .slice none 0 0]) H2.out rfl
        have hp := ap_end (b := w.heap.size + 1) (k := 1) (s := noStr) (x := x) HB2.out (by omega) (by unfold rng64; decide) (by decide) wx
        simp only [putCells, Nat.reduceAdd] at hend hp
        refine bodyPost_ret (v := .agg #[.int .i64 1, .string noStr, .int .i64 x, .slice none 0 0]) (results_cell_row rfl _ _ (w.heap.size + 1) 24 _ _ _ rfl hend.at_ Try.underlying24 rfl (by kernel_rfl)) rfl ?_
        rw [HR.out]
        exact hp
  by_cases k4 : k = 4
  · subst k4
    rw [if_neg k1, if_pos rfl] at HR
    obtain ⟨_, hlen1, hlen8, hpls⟩ := pl_4.1 hpl
    have HPL := Lib.hid hpls
    have HMM := Lib.hid hm
    obtain ⟨g, off, rfl, -⟩ := arg_cells HV.out (by show 0 < ls.length; omega)
    have hO : Ext (fun c => c = 2 ∨ c = 4) w (((w.alloc (.cells #[.int .i64 4, .string s, .int .i64 x, .slice (some ⟨g, off, none⟩) ls.length c1] 24)).alloc (.cells #[.int .i64 0, .string ⟨#[]⟩, .int .i64 0, .slice none 0 0] 24)).alloc (.cells #[.int .i64 4, .string s, .int .i64 0, .slice none 0 0] 24)) (fun _ => 0) (fun b => if b = w.heap.size + 1 then 5 else if b = w.heap.size + 1 + 1 then 4 else 0) :=
      ⟨rfl, rfl, rfl, by simp only [World.size_alloc]; omega, fun b hb => by show (if b = w.heap.size + 1 then 5 else if b = w.heap.size + 1 + 1 then 4 else 0) = 0; rw [if_neg (by omega), if_neg (by omega)], fun b hb _ => by rw [heap_alloc_old _ _ (by simp only [World.size_alloc]; omega), heap_alloc_old _ _ (by simp only [World.size_alloc]; omega), heap_alloc_old _ _ hb]⟩
    have h0 : Blk (((w.alloc (.cells #[.int .i64 4, .string s, .int .i64 x, .slice (some ⟨g, off, none⟩) ls.length c1] 24)).alloc (.cells #[.int .i64 0, .string ⟨#[]⟩, .int .i64 0, .slice none 0 0] 24)).alloc (.cells #[.int .i64 4, .string s, .int .i64 0, .slice none 0 0] 24)) (fun b => if b = w.heap.size + 1 then 5 else if b = w.heap.size + 1 + 1 then 4 else 0) 0 w.heap.size _ := ⟨(H0.out.alloc _).at_, by show (if w.heap.size = w.heap.size + 1 then 5 else if w.heap.size = w.heap.size + 1 + 1 then 4 else 0) = 0; rw [if_neg (by omega), if_neg (by omega)]⟩
    have h1 : Blk (((w.alloc (.cells #[.int .i64 4, .string s, .int .i64 x, .slice (some ⟨g, off, none⟩) ls.length c1] 24)).alloc (.cells #[.int .i64 0, .string ⟨#[]⟩, .int .i64 0, .slice none 0 0] 24)).alloc (.cells #[.int .i64 4, .string s, .int .i64 0, .slice none 0 0] 24)) (fun b => if b = w.heap.size + 1 then 5 else if b = w.heap.size + 1 + 1 then 4 else 0) 5 (w.heap.size + 1) _ := ⟨(H1.out.alloc _).at_, by show (if w.heap.size + 1 = w.heap.size + 1 then 5 else if w.heap.size + 1 = w.heap.size + 1 + 1 then 4 else 0) = 5; rw [if_pos rfl]⟩
    have h2 := Blk.new (own := fun b => if b = w.heap.size + 1 then 5 else if b = w.heap.size + 1 + 1 then 4 else 0) (k := 4) ((w.alloc (.cells #[.int .i64 4, .string s, .int .i64 x, .slice (some ⟨g, off, none⟩) ls.length c1] 24)).alloc (.cells #[.int .i64 0, .string ⟨#[]⟩, .int .i64 0, .slice none 0 0] 24)) (.cells #[.int .i64 4, .string s, .int .i64 0, .slice none 0 0] 24) (by rw [HZ0.out]; show (if w.heap.size + 1 + 1 = w.heap.size + 1 then 5 else if w.heap.size + 1 + 1 = w.heap.size + 1 + 1 then 4 else 0) = 4; rw [if_neg (by omega), if_pos rfl])
    rw [HZ0.out] at h2
    have hv2 := HV.out.carry (C' := fun u => (if u = w.heap.size + 1 then 5 else if u = w.heap.size + 1 + 1 then 4 else 0) = 0) hO.size fun u hu hc => ⟨hO.same u hu (by decide), by rw [if_neg (by omega), if_neg (by omega)]⟩
    have G0 := Lib.hid h0
    have G1 := Lib.hid h1
    have G2 := Lib.hid h2
    have GV := Lib.hid hv2
    have GO := Lib.hid hO
    clear hm hpl hpls h0 h1 h2 hv2 hO H0 H1 HB0 HZ0 hzz hlen1
    go_enter Try.func39, Try.ntmps39
    go_wp2_with fail
    generalize (((w.alloc (.cells #[.int .i64 4, .string s, .int .i64 x, .slice (some ⟨g, off, none⟩) ls.length c1] 24)).alloc (.cells #[.int .i64 0, .string ⟨#[]⟩, .int .i64 0, .slice none 0 0] 24)).alloc (.cells #[.int .i64 4, .string s, .int .i64 0, .slice none 0 0] 24)) = w2 at *
    generalize hown : (fun b => if b = w.heap.size + 1 then 5 else if b = w.heap.size + 1 + 1 then 4 else 0) = own2 at *
    have hgv : TmV w2 (fun u => own2 u = 0) (.mk 4 s x ls) (.agg #[.int .i64 4, .string s, .int .i64 x, .slice (some ⟨g, off, none⟩) ls.length c1]) := by rw [← hown]; exact GV.out
    have GV := Lib.hid hgv
    clear hown hgv
    go_loopg [7] ls.length (fun g iv wr => ApInv w w2 (w.heap.size + 1 + 1) ls m s own2 g iv wr)
    case atStart => exact ⟨own2, 0, _, rfl, by omega, TRow.nil _ _ _ _, G2.out, Ext.refl⟩
    case round =>
      obtain ⟨ownr, i, ov, rfl, hi, hrow, hob, hEr⟩ := hrel
      have hEw := GO.out.trans hEr
      have HBW := Lib.hid (hEw.below fun b hb => by decide)
      have h0 := G0.out.ext hEr (by decide)
      have h1 := G1.out.ext hEr (by decide)
      have z3 : wr.cell? ⟨w.heap.size, 3, none⟩ = some (.slice (some ⟨g, off, none⟩) ls.length c1) := h0.cell 3
      have hz0 : w.heap.size < wr.heap.size := h0.lt
      obtain ⟨oa, oc, rfl⟩ := hrow.shape
      have HROW := Lib.hid hrow
      have HOB := Lib.hid hob
      have HER := Lib.hid hEr
      have H1R := Lib.hid h1
      by_cases hlt : i < ls.length
      · have hlt2 : (i : Int) < ls.length := by omega
        have hvr : TmV wr (fun u => ownr u = 0) (.mk 4 s x ls) (.agg #[.int .i64 4, .string s, .int .i64 x, .slice (some ⟨g, off, none⟩) ls.length c1]) := GV.out.carry hEr.size fun u hu hc => ⟨hEr.same u hu (by rw [hc]; decide), by show ownr u = 0; rw [hEr.col u hu]; exact hc⟩
        obtain ⟨g', off', he, hg, hgc, hargs⟩ := arg_cells hvr (by show 0 < ls.length; omega)
        injection he with he
        injection he with he1 he2
        subst he1
        subst he2
        obtain ⟨a3, l3, c3, x0, x1, x2, x3, ht⟩ := hargs i hlt
        have htg : targ (.mk 4 s x ls) i = ls[i] := targ_get (t := .mk 4 s x ls) hlt
        have htm : targ (.mk 4 s x ls) i ∈ ls := arg_mem (t := .mk 4 s x ls) hlt
        have htc : TC ownr g := by show ownr g ≠ 1 ∧ ownr g ≠ 2 ∧ ownr g ≠ 3; rw [hgc]; decide
        have HF : Hid (FactsAt ownr [(⟨w.heap.size + 1 + 1, 3, none⟩, .slice oa (Tms.ren m (ls.take i)).length oc), (⟨w.heap.size, 3, none⟩, .slice (some ⟨g, off, none⟩) ls.length c1), (⟨g, off + i * 4, none⟩, .int .i64 (targ (.mk 4 s x ls) i).k), (⟨g, off + i * 4 + 1, none⟩, .string (targ (.mk 4 s x ls) i).s), (⟨g, off + i * 4 + 2, none⟩, .int .i64 (targ (.mk 4 s x ls) i).x), (⟨g, off + i * 4 + 3, none⟩, .slice a3 l3 c3)] wr.drew) :=
          Lib.hid ⟨Blk.fact hob.drew (by decide) (hob.cell 3), Blk.fact h0.drew (by decide) z3, ⟨x0, hg, htc, rfl⟩, ⟨x1, hg, htc, rfl⟩, ⟨x2, hg, htc, rfl⟩, ⟨x3, hg, htc, rfl⟩, trivial⟩
        have HI := Lib.hid (IH.out _ htm wr.drew (fun u => ownr u = 0) _ (.slice ba m.length bc) (ht.carry (w' := wr.drew) (C' := fun u => ownr u = 0) (Nat.le_refl _) fun u hu hc => ⟨rfl, hc⟩) (HBV.out.below (HBW.out.drew)) hml (pls_mem _ HPL.out _ htm))
        have HRT := Lib.hid (show Tms.ren m (ls.take (i + 1)) = Tms.ren m (ls.take i) ++ [Tm.ren m (targ (.mk 4 s x ls) i)] by rw [rens_take m ls i hlt, htg])
        have hlen3 : (Tms.ren m (ls.take i)).length ≤ 1000000000000 := by rw [rens_len, List.length_take]; omega
        clear hrow hob hEr hEw h0 h1 x0 x1 x2 x3 ht htg htm htc hargs hvr
        generalize targ (.mk 4 s x ls) i = u at *
        generalize Tm.k u = ku at *
        generalize Tm.s u = su at *
        generalize Tm.x u = xu at *
        generalize Tms.ren m (ls.take i) = rs at *
        generalize Tm.ren m u = u' at *
        go_wp2_with fail
        refine wp_region_plan4 [(true, 0, [1, 10, 11, 12]), (true, 1, [10, 11, 12]), (true, 2, [3, 5, 6, 8, 9, 10, 11, 12]), (true, 3, [5, 6, 8, 9, 10, 11, 12]), (true, 4, [5, 6, 8, 9, 10, 11, 12]), (true, 5, [6, 8, 9, 10, 11, 12]), (true, 6, [8, 9, 10, 11, 12]), (true, 7, [8, 9, 10, 11, 12]), (false, 8, []), (false, 9, []), (false, 10, []), (true, 11, [12]), (false, 12, [])] 12 (Facts _) (by kernel_rfl) (by kernel_rfl) (fun _ _ _ d _ h => by cases d <;> exact h) (FactsAt.facts HF.out) ?_
        have HROW := Lib.hid (HROW.out.ext (C' := fun u => ownr u = 0 ∧ w.heap.size ≤ u) (M := fun _ => False) Ext.refl.drew id fun u hu hc => ⟨id, hc⟩)
        have HOB := Lib.hid HOB.out.drew
        have H1R := Lib.hid H1R.out.drew
        have HER := Lib.hid HER.out.drew
        have hzd : w.heap.size < wr.drew.heap.size := hz0
        clear z3 hz0 hg
        generalize wr.drew = w3 at *
        iterate 8
          apply plan4_early
          case hi => rfl
          case h =>
            intro w9 hf
            simp only [Facts] at hf
            obtain ⟨z0, z1, z2, z3, z4, z5, _⟩ := hf
            still_step
            exact wpStill_nil rfl
        refine plan4_big rfl ?_
        go_wp2_with fail
        refine HI.out.mono ?_
        rintro e w5 ⟨v5, rfl, htv5, hB5⟩
        have hE5 : ∀ M, Ext M w3 w5 ownr (ow ownr w3.heap.size 0) := fun M => Ext.of_below hB5 _ _
        have HF5 := Lib.hid (FactsAt.ext (hE5 MM) HF.out)
        have HOB5 := Lib.hid (HOB.out.ext (hE5 (fun _ => False)) id)
        have H15 := Lib.hid (H1R.out.ext (hE5 (fun _ => False)) id)
        have HER5 := Lib.hid (HER.out.trans (hE5 _))
        have HROW5 := Lib.hid (HROW.out.ext (C' := fun u => ow ownr w3.heap.size 0 u = 0 ∧ w.heap.size ≤ u) (hE5 (fun _ => False)) id fun u hu hc => ⟨id, by rw [ow_lt hu]; exact hc.1, hc.2⟩)
        have HTV5 := Lib.hid (htv5.carry (C' := fun u => ow ownr w3.heap.size 0 u = 0 ∧ w.heap.size ≤ u) (Nat.le_refl _) fun u hu hc => ⟨rfl, ow_ge hc, by omega⟩)
        obtain ⟨a6, l6, c6, rfl, -, -, -, -⟩ := TmV_open htv5
        generalize ow ownr w3.heap.size 0 = own5 at *
        clear htv5 hB5 hE5 HI HF HROW HOB H1R HER
        generalize Tm.k u' = k6 at *
        generalize Tm.s u' = s6 at *
        generalize Tm.x u' = x6 at *
        go_wp2_with fail
        first | refine ⟨fun _ => FactsAt.facts HF5.out, ?_⟩ | refine ⟨FactsAt.facts HF5.out, ?_⟩
        refine plan4_big rfl ?_
        go_wp2_with fail
        have HF6 := Lib.hid (FactsAt.ext (ext_box (M := MM) (own := own5) 0 (.cells #[.int .i64 k6, .string s6, .int .i64 x6, .slice a6 l6 c6] 24)) HF5.out)
        first | refine ⟨fun _ => FactsAt.facts HF6.out, ?_⟩ | refine ⟨FactsAt.facts HF6.out, ?_⟩
        refine plan4_big rfl ?_
        refine wpList_append_trow (v := .slice oa rs.length oc) rfl _ _ rfl HTV5.out rfl HROW5.out hlen3 (fun u hu hc => by rw [hc.1]; decide) rfl rfl ?_
        intro v8 w8 hr8 hE8
        obtain ⟨a8, c8, rfl⟩ := TRow.shape hr8
        rw [List.length_append, List.length_singleton] at hr8 ⊢
        generalize ow own5 w5.heap.size 2 = own8 at *
        have HF8 := Lib.hid (FactsAt.ext (hE8.mono (M' := MM) fun c h => .inr h) HF5.out)
        have hob8 := HOB5.out.ext hE8 (by decide)
        have HOB8 := Lib.hid hob8
        have H18 := Lib.hid (H15.out.ext hE8 (by decide))
        have HER8 := Lib.hid (HER5.out.trans (hE8.mono fun c h => .inl h))
        have HR8 := Lib.hid hr8
        have HC8 := Lib.hid hE8
        have b8 := hob8.cell 3
        have f8 := hob8.free 3
        have hol8 := hob8.lt
        simp at b8
        clear hr8 hE8 hob8 HF5 HF6 HOB5 H15 HER5 HROW5 HTV5
        go_wp2_with fail
        first | refine ⟨fun _ => FactsAt.facts HF8.out, ?_⟩ | refine ⟨FactsAt.facts HF8.out, ?_⟩
        apply plan4_early
        case hi => rfl
        case h =>
          intro w9 hf
          clear hf
          still_step
          exact wpStill_nil rfl
        refine plan4_big rfl ?_
        go_wp2_with fail
        try refine ⟨fun h => absurd rfl h, ?_⟩
        refine plan4_nil ?_
        go_wp2_with fail
        have hE9 : Ext (fun c => c = 4) w8 (w8.setCell ⟨w.heap.size + 1 + 1, 3, none⟩ (.slice a8 (rs.length + 1) c8)) own8 own8 := Ext.refl.setCell (fun _ => HOB8.out.col) _
        have HO9 := HOB8.out.setCell 3 (.slice a8 (rs.length + 1) c8)
        have HR9 := HR8.out.ext (C' := fun u => own8 u = 0 ∧ w.heap.size ≤ u) hE9 (by decide) fun u hu hc => by
          have h1 := HC8.out.col u hc.2
          rw [h1, hc.1.1]
          exact ⟨by decide, rfl, hc.1.2⟩
        have HE9 := HER8.out.trans (hE9.mono (M' := fun c => c = 2 ∨ c = 4) fun c h => .inr h)
        go_roundg (ls.length - (i + 1))
        case measure => omega
        case rel => exact ⟨own8, i + 1, .slice a8 (rs.length + 1) c8, by go_num, by omega, by rw [HRT.out]; exact HR9, HO9, HE9⟩
      · obtain rfl : i = ls.length := by omega
        have hlr : (Tms.ren m ls).length ≤ 9223372036854775807 := by rw [rens_len]; omega
        rw [List.take_length] at HROW HOB
        have hob3 := HOB.out
        have h13 := H1R.out
        have c0 : wr.cell? ⟨w.heap.size + 1 + 1, 0, none⟩ = some (.int .i64 4) := hob3.cell 0
        have c1 : wr.cell? ⟨w.heap.size + 1 + 1, 1, none⟩ = some (.string s) := hob3.cell 1
        have c2 : wr.cell? ⟨w.heap.size + 1 + 1, 2, none⟩ = some (.int .i64 0) := hob3.cell 2
        have c3 : wr.cell? ⟨w.heap.size + 1 + 1, 3, none⟩ = some (.slice oa (Tms.ren m ls).length oc) := hob3.cell 3
        have f0 := h13.free 0
        have f1 := h13.free 1
        have f2 := h13.free 2
        have f3 := h13.free 3
        have l1 := h13.lt
        have d0 : wr.cell? ⟨w.heap.size + 1, 0, none⟩ = some (.int .i64 0) := h13.cell 0
        have d1 : wr.cell? ⟨w.heap.size + 1, 1, none⟩ = some (.string noStr) := h13.cell 1
        have d2 : wr.cell? ⟨w.heap.size + 1, 2, none⟩ = some (.int .i64 0) := h13.cell 2
        have d3 : wr.cell? ⟨w.heap.size + 1, 3, none⟩ = some (.slice none 0 0) := h13.cell 3
        have HLR := Lib.hid hlr
        clear hob3 h13 hlr hrow hob h1 h0
        go_wp2_with fail
        have hend := Blk.putCells (cs := [.int .i64 0, .string noStr, .int .i64 0, .slice none 0 0]) (vs := [.int .i64 4, .string s, .int .i64 0, .slice oa (Tms.ren m ls).length oc]) H1R.out rfl
        have hp := ap_end4 (b := w.heap.size + 1) (s := s) (ts := Tms.ren m ls) hEw H1R.out.col (by omega) ws HLR.out (ov := .slice oa (Tms.ren m ls).length oc) HROW.out
        simp only [putCells, Nat.reduceAdd] at hend hp
        refine bodyPost_ret (v := .agg #[.int .i64 4, .string s, .int .i64 0, .slice oa (Tms.ren m ls).length oc]) (results_cell_row rfl _ _ (w.heap.size + 1) 24 _ _ _ rfl hend.at_ Try.underlying24 rfl (by kernel_rfl)) rfl ?_
        rw [HR.out]
        exact hp
  rw [if_neg k1, if_neg k4] at HR
  have hb1 : (k == 1) = false := by simp [k1]
  have hb4 : (k == 4) = false := by simp [k4]
  clear hm hpl IH HBV
  go_enter Try.func39, Try.ntmps39
  go_wp2_with fail
  refine (rbare_any _ _ _ _ _ _ _).mono ?_
  rintro e w2 ⟨rfl, hB⟩
  have h2 := Blk_same H1.out hB
  have H2 := Lib.hid h2
  have f0 := h2.free 0
  have f1 := h2.free 1
  have f2 := h2.free 2
  have f3 := h2.free 3
  have l1 := h2.lt
  have d0 : w2.cell? ⟨w.heap.size + 1, 0, none⟩ = some (.int .i64 0) := h2.cell 0
  have d1 : w2.cell? ⟨w.heap.size + 1, 1, none⟩ = some (.string noStr) := h2.cell 1
  have d2 : w2.cell? ⟨w.heap.size + 1, 2, none⟩ = some (.int .i64 0) := h2.cell 2
  have d3 : w2.cell? ⟨w.heap.size + 1, 3, none⟩ = some (.slice none 0 0) := h2.cell 3
  have HB2 := Lib.hid (HB0.out.trans (hB.mono HB0.out.size))
  clear h2 hB
  go_wp2_with fail
  have hend := Blk.putCells (cs := [.int .i64 0, .string noStr, .int .i64 0, .slice none 0 0]) (vs := [.int .i64 k, .string (bareS k s), .int .i64 (bareX k x), .slice none 0 0]) H2.out rfl
  have hp := ap_end (b := w.heap.size + 1) (k := k) (s := (bareS k s)) (x := (bareX k x)) HB2.out (by omega) wk (bareS_le _ _ ws) (bareX_rng _ _ wx)
  simp only [putCells, Nat.reduceAdd] at hend hp
  refine bodyPost_ret (v := .agg #[.int .i64 k, .string (bareS k s), .int .i64 (bareX k x), .slice none 0 0]) (results_cell_row rfl _ _ (w.heap.size + 1) 24 _ _ _ rfl hend.at_ Try.underlying24 rfl (by kernel_rfl)) rfl ?_
  rw [HR.out]
  exact hp
end Go.Proofs.Ytamiidklcadkmaa
