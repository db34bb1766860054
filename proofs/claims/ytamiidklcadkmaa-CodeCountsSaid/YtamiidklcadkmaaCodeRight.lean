/- code.fits, code.Right: what they answer. Printed in part by gen_right.py. -/
import Derived.Test.YtamiidklcadkmaaGoal
set_option maxRecDepth 20000
set_option linter.unusedVariables false
set_option linter.unusedSimpArgs false
namespace Go.Proofs.Ytamiidklcadkmaa
open Go.RowKit Go.PM
def fitsM (t : Tm) (n : Int) : Bool := Tm.rightN t && (Tm.vars t []).all (fun v => decide (v ≤ n))
def FtInv (w0 : World) (vs : List Int) (n : Int) (r : Bool) (g : Nat) (iv : Value) (w : World) : Prop :=
  ∃ i : Nat, iv = .int .i64 i ∧ i + g = vs.length ∧ (vs.drop i).all (fun v => decide (v ≤ n)) = r ∧ w = w0
set_option maxHeartbeats 1000000 in
theorem fits_any (t : Tm) (n : Int) (w : World) (C : Nat → Prop) (v : Value) (hv : TmV w C t v) :
    Calls Try.prog 36 #[v, .int .i64 n] w fun e w' => e = .returned (.bool (fitsM t n)) ∧ Below w.heap.size w w' := by
  have HV := Lib.hid hv
  obtain ⟨a2, l2, c2, rfl, -, -, -, -⟩ := TmV_open hv
  have HC := Lib.hid (fun w2 (hB : Below w.heap.size w w2) => Check_any t w2 C _ (TmV.below HV.out hB))
  have HVS := Lib.hid (fun w2 (hB : Below w.heap.size w w2) => Vars_any t w2 C _ (TmV.below HV.out hB))
  have HLV := Lib.hid (fun (h : Tm.rightN t = true) => (show lvars t = Tm.vars t [] by unfold lvars; rw [h]; rfl))
  have HLL := Lib.hid (fun (h : Tm.rightN t = true) => (show (Tm.vars t []).length ≤ 2000 by
    have := vars_len t []
    have := sz_right h
    simp at *
    omega))
  have HR := Lib.hid (show fitsM t n = (Tm.rightN t && (Tm.vars t []).all (fun v => decide (v ≤ n))) from rfl)
  have HBX := Lib.hid (fun wr => @box_facts w t.k t.s t.x (.slice a2 l2 c2) wr)
  have HB0 := Lib.hid ((Below.refl w.heap.size w).alloc (Nat.le_refl _) (.cells #[.int .i64 t.k, .string t.s, .int .i64 t.x, .slice a2 l2 c2] 24))
  clear HV hv
  generalize fitsM t n = r at *
  generalize Tm.k t = k1 at *
  generalize Tm.s t = s1 at *
  generalize Tm.x t = x1 at *
  go_enter Try.func36, Try.ntmps36
  go_wp2_with fail
  refine (HC.out _ HB0.out).mono ?_
  rintro e w2 ⟨rfl, hB2⟩
  obtain ⟨b0, b1, b2, b3, b4⟩ := HBX.out _ hB2
  have HB2 := Lib.hid b4
  clear hB2 b4 HC
  cases hr : Tm.rightN t with
  | false =>
    rw [hr, Bool.false_and] at HR
    have hre : r = false := HR.out
    subst hre
    clear hr
    go_wp2_with fail
    go_ret
    exact ⟨rfl, HB2.out⟩
  | true =>
    rw [hr, Bool.true_and] at HR
    rw [HLV.out hr] at HVS
    have hvl := HLL.out hr
    clear hr HLV HLL
    generalize Tm.vars t [] = vs at *
    go_wp2_with fail
    refine (HVS.out _ HB2.out).mono ?_
    rintro e w3 ⟨v3, rfl, hr3, hB3⟩
    obtain ⟨a3, c3, rfl⟩ := hr3.shape
    have HRW := Lib.hid hr3
    have HB3 := Lib.hid (HB2.out.trans (hB3.mono HB2.out.size))
    clear hr3 hB3 HVS HB2 b0 b1 b2 b3
    go_wp2_with fail
    go_loopg [13] vs.length (fun g iv wr => FtInv w3 vs n r g iv wr)
    case atStart => exact ⟨0, rfl, by omega, HR.out.symm, rfl⟩
    case round =>
      obtain ⟨i, rfl, hi, hr, rfl⟩ := hrel
      by_cases hlt : i < vs.length
      · have hlt2 : (i : Int) < vs.length := by omega
        obtain ⟨g, rfl, hg, _, _, hx, hc⟩ := HRW.out.irow_at hlt
        rw [List.drop_eq_getElem_cons hlt, List.all_cons] at hr
        by_cases he : vs[i] ≤ n
        · rw [decide_eq_true he, Bool.true_and] at hr
          have HR2 := Lib.hid hr
          have hn2 : ¬ n < vs[i] := by omega
          clear hr
          generalize vs[i] = y at *
          go_wp2_with fail
          go_roundg (vs.length - (i + 1))
          case measure => omega
          case rel => exact ⟨i + 1, by go_num, by omega, HR2.out, rfl⟩
        · rw [decide_eq_false he, Bool.false_and] at hr
          subst hr
          have hn2 : n < vs[i] := by omega
          clear he
          generalize vs[i] = y at *
          go_wp2_with fail
          go_ret
          exact ⟨rfl, HB3.out⟩
      · obtain rfl : i = vs.length := by omega
        rw [List.drop_length] at hr
        have hr : r = true := by rw [← hr]; rfl
        subst hr
        go_wp2_with fail
        go_ret
        exact ⟨rfl, HB3.out⟩
/-- An instruction of a row. -/
theorem IRow.get {w : World} {own : Nat → Nat} {v : Value} {is : List In} (h : IRow w own v is) {i : Nat} (hi : i < is.length) :
    ∃ g c a2 l2 c2, v = .slice (some ⟨g, 0, none⟩) is.length c ∧ g < w.heap.size ∧ w.cell? ⟨g, i * 6, none⟩ = some (.int .i64 is[i].op) ∧ w.cell? ⟨g, i * 6 + 1, none⟩ = some (.int .i64 is[i].a) ∧ w.cell? ⟨g, i * 6 + 2, none⟩ = some (.int .i64 is[i].t.k) ∧ w.cell? ⟨g, i * 6 + 3, none⟩ = some (.string is[i].t.s) ∧ w.cell? ⟨g, i * 6 + 4, none⟩ = some (.int .i64 is[i].t.x) ∧ w.cell? ⟨g, i * 6 + 5, none⟩ = some (.slice a2 l2 c2) ∧
      TmV w (TC own) is[i].t (.agg #[.int .i64 is[i].t.k, .string is[i].t.s, .int .i64 is[i].t.x, .slice a2 l2 c2]) := by
  obtain ⟨xs, h1, h2⟩ := h
  obtain ⟨g, cap, cur, rfl, hb, _, _, _, hcell⟩ := h1.cells (by omega)
  obtain ⟨q0, q1, q2, q3, q4, sl, q5, q6, q7, q8, q9⟩ := ICells.get h2 hi
  obtain ⟨a2, l2, c2, rfl⟩ := Tm.at_shape q9
  exact ⟨g, cap, a2, l2, c2, rfl, hb.lt, by rw [hcell _ (by omega)]; exact q0, by rw [hcell _ (by omega)]; exact q1, by rw [hcell _ (by omega)]; exact q2, by rw [hcell _ (by omega)]; exact q3, by rw [hcell _ (by omega)]; exact q4, by rw [hcell _ (by omega)]; exact q5, ⟨_, rfl, q6, q7, q8, q9⟩⟩
/-- Might an instruction at j come of a clause? -/
def insOk (c : Cd) (n j : Int) (i : In) : Bool :=
  if i.op = 1 then decide (1 ≤ i.a) && (decide (i.a ≤ c.p.2) && fitsM i.t c.vs)
  else if i.op = 2 then decide (i.a = 0) && fitsM i.t c.vs
  else if i.op = 3 ∨ i.op = 8 ∨ i.op = 9 then decide (i.a = 0) && decide (i.t.k = 0)
  else if i.op = 4 ∨ i.op = 5 then decide (j < i.a) && (decide (i.a < n) && decide (i.t.k = 0))
  else if i.op = 6 ∨ i.op = 7 then decide (0 ≤ i.a) && (decide (i.a < c.slots) && decide (i.t.k = 0))
  else false
theorem insOk_def (c : Cd) (n j : Int) (i : In) : insOk c n j i = if i.op = 1 then decide (1 ≤ i.a) && (decide (i.a ≤ c.p.2) && fitsM i.t c.vs)
  else if i.op = 2 then decide (i.a = 0) && fitsM i.t c.vs
  else if i.op = 3 ∨ i.op = 8 ∨ i.op = 9 then decide (i.a = 0) && decide (i.t.k = 0)
  else if i.op = 4 ∨ i.op = 5 then decide (j < i.a) && (decide (i.a < n) && decide (i.t.k = 0))
  else if i.op = 6 ∨ i.op = 7 then decide (0 ≤ i.a) && (decide (i.a < c.slots) && decide (i.t.k = 0))
  else false := rfl
def allOk (c : Cd) (n : Int) : List In → Int → Bool
  | [], _ => true
  | i :: is, j => insOk c n j i && allOk c n is (j + 1)
/-- The last instruction's op. -/
def lastOp (is : List In) : Int := (is.getLast?.map (·.op)).getD 0
def rightC (c : Cd) : Bool := decide (lastOp c.is = 9) && allOk c c.is.length c.is 0
def RcInv (w0 : World) (c : Cd) (r : Bool) (g : Nat) (iv : Value) (w : World) : Prop :=
  ∃ i : Nat, iv = .int .i64 i ∧ i + g = c.is.length ∧ allOk c c.is.length (c.is.drop i) i = r ∧ Below w0.heap.size w0 w
set_option maxHeartbeats 8000000 in
theorem Right_code (c : Cd) (w : World) (own : Nat → Nat) (v : Value) (hv : CdV w own v c) (hlen : c.is.length ≤ 1000000000) :
    Calls Try.prog 14 #[v] w fun e w' => e = .returned (.bool (rightC c)) ∧ Below w.heap.size w w' := by
  obtain ⟨rv, rfl, hr⟩ := hv
  obtain ⟨ra, rc, rfl⟩ := hr.shape
  have hb := Blk.new (own := fun _ => 0) (k := 0) w (.cells #[.string c.p.1, .int .i64 c.p.2, .int .i64 c.vs, .int .i64 c.slots, .slice ra c.is.length rc] 32) rfl
  have HB0 := Lib.hid ((Below.refl w.heap.size w).alloc (Nat.le_refl _) (.cells #[.string c.p.1, .int .i64 c.p.2, .int .i64 c.vs, .int .i64 c.slots, .slice ra c.is.length rc] 32))
  have HR1 := Lib.hid (hr.ext (Ext_same (M := fun _ => False) own HB0.out) fun c h => h.elim)
  have HBX := Lib.hid hb
  have HRR := Lib.hid (show rightC c = (decide (lastOp c.is = 9) && allOk c c.is.length c.is 0) from rfl)
  clear hr hb
  generalize hrc : rightC c = r at *
  clear hrc
  by_cases hn0 : c.is.length = 0
  · have hre : r = false := by
      rw [HRR.out, List.eq_nil_of_length_eq_zero hn0]
      rfl
    subst hre
    rw [hn0]
    rw [hn0] at HB0
    clear HR1 HBX HRR hn0
    go_enter Try.func14, Try.ntmps14
    go_wp2_with fail
    go_ret
    exact ⟨rfl, HB0.out⟩
  have hnb : ((c.is.length : Int) == 0) = false := by rw [beq_eq_false_iff_ne]; omega
  obtain ⟨gz, cz, az, lz, cz2, hez, hgz, z0, -⟩ := HR1.out.get (i := c.is.length - 1) (by omega)
  injection hez with hez1 hez2 hez3
  subst hez1
  subst hez3
  have hlz : lastOp c.is = (c.is[c.is.length - 1]'(by omega)).op := by
    unfold lastOp
    rw [List.getLast?_eq_getElem?, List.getElem?_eq_getElem (by omega)]
    rfl
  have hidx : ((c.is.length : Int) - 1) = ((c.is.length - 1 : Nat) : Int) := by omega
  have hidx2 : c.is.length - 1 < c.is.length := by omega
  have hidx3 : ((c.is.length - 1 : Nat) : Int) < c.is.length := by omega
  rw [← hlz] at z0
  clear hez2 hlz
  generalize lastOp c.is = lo at *
  by_cases hlo : lo = 9
  · subst hlo
    rw [decide_eq_true rfl, Bool.true_and] at HRR
    go_enter Try.func14, Try.ntmps14
    go_wp2_with fail
    have HBI := Lib.hid (HBX.out)
    have hbl : w.heap.size < (w.alloc (.cells #[.string c.p.1, .int .i64 c.p.2, .int .i64 c.vs, .int .i64 c.slots, .slice (some ⟨gz, 0, none⟩) c.is.length rc] 32)).heap.size := by rw [World.size_alloc]; omega
    generalize w.alloc (.cells #[.string c.p.1, .int .i64 c.p.2, .int .i64 c.vs, .int .i64 c.slots, .slice (some ⟨gz, 0, none⟩) c.is.length rc] 32) = w1 at *
    clear hidx hidx2 hidx3 z0 hnb
    go_loopg [26] c.is.length (fun g iv wr => RcInv w1 c r g iv wr)
    case atStart => exact ⟨0, rfl, by omega, HRR.out.symm, Below.refl _ _⟩
    case round =>
      obtain ⟨i, rfl, hi, hr, hBl⟩ := hrel
      have hbx := Blk_same HBI.out hBl
      have e1 : wr.cell? ⟨w.heap.size, 1, none⟩ = some (.int .i64 c.p.2) := hbx.cell 1
      have e2 : wr.cell? ⟨w.heap.size, 2, none⟩ = some (.int .i64 c.vs) := hbx.cell 2
      have e3 : wr.cell? ⟨w.heap.size, 3, none⟩ = some (.int .i64 c.slots) := hbx.cell 3
      have hq : w.heap.size < wr.heap.size := hbx.lt
      have HBL := Lib.hid hBl
      have HRI := Lib.hid (HR1.out.ext (Ext_same (M := fun _ => False) own hBl) fun c h => h.elim)
      have hsz := hBl.size
      clear hBl hbx
      by_cases hlt : i < c.is.length
      · have hlt2 : (i : Int) < c.is.length := by omega
        obtain ⟨g2, cc2, a2, l2, c2, he, hg, q0, q1, q2, q3, q4, q5, htv⟩ := HRI.out.get hlt
        injection he with he1 _ he3
        injection he1 with he1
        injection he1 with he1
        subst he1
        subst he3
        rw [List.drop_eq_getElem_cons hlt, allOk] at hr
        have HI := Lib.hid (insOk_def c c.is.length i c.is[i])
        have HFT := Lib.hid (fits_any c.is[i].t c.vs (wr.alloc (.cells #[.int .i64 c.is[i].op, .int .i64 c.is[i].a, .int .i64 c.is[i].t.k, .string c.is[i].t.s, .int .i64 c.is[i].t.x, .slice a2 l2 c2] 48)) (TC own) _ (TmV.below htv ((Below.refl _ _).alloc (Nat.le_refl _) _)))
        have HR2 := Lib.hid hr
        clear hr htv HRI
        generalize insOk c c.is.length i c.is[i] = ok at *
        generalize fitsM c.is[i].t c.vs = ft at *
        generalize hop : c.is[i].op = op at *
        generalize hia : c.is[i].a = ia at *
        generalize c.is[i].t = t at *
        generalize Tm.k t = k1 at *
        generalize Tm.s t = s1 at *
        generalize Tm.x t = x1 at *
        have HB6 := Lib.hid (HBL.out.alloc HBL.out.size (.cells #[.int .i64 op, .int .i64 ia, .int .i64 k1, .string s1, .int .i64 x1, .slice a2 l2 c2] 48))
        clear hop hia HBX
        by_cases o1 : op = 1
        · subst o1
          by_cases hk : k1 = 0
          · subst hk
            by_cases h1 : 1 ≤ ia
            · by_cases h2 : ia ≤ c.p.2
              · go_wp2_with fail
                refine HFT.out.mono ?_
                rintro e w6 ⟨rfl, hB6⟩
                have HB7 := Lib.hid (HB6.out.trans (hB6.mono HB6.out.size))
                cases ft with
                | false =>
                  have ho : ok = false := by rw [HI.out]; simp [h1, h2]
                  subst ho
                  have hre : r = false := by rw [← HR2.out, Bool.false_and]
                  subst hre
                  clear HI HR2 HFT hB6 HB6
                  go_wp2_with fail
                  go_ret
                  exact ⟨rfl, HB0.out.trans (HB7.out.mono HB0.out.size)⟩
                | true =>
                  have ho : ok = true := by rw [HI.out]; simp [h1, h2]
                  subst ho
                  have HR3 : Hid (allOk c c.is.length (c.is.drop (i + 1)) ((i + 1 : Nat) : Int) = r) := Lib.hid (by rw [← HR2.out, Bool.true_and]; rfl)
                  clear HI HR2 HFT hB6 HB6
                  go_wp2_with fail
                  go_roundg (c.is.length - (i + 1))
                  case measure => omega
                  case rel => exact ⟨i + 1, by go_num, by omega, HR3.out, HB7.out⟩
              · have ho : ok = false := by rw [HI.out]; simp [h2]
                subst ho
                have hre : r = false := by rw [← HR2.out, Bool.false_and]
                subst hre
                clear HI HR2 HFT
                go_wp2_with fail
                go_ret
                exact ⟨rfl, HB0.out.trans (HB6.out.mono HB0.out.size)⟩
            · have ho : ok = false := by rw [HI.out]; simp [h1]
              subst ho
              have hre : r = false := by rw [← HR2.out, Bool.false_and]
              subst hre
              clear HI HR2 HFT
              go_wp2_with fail
              go_ret
              exact ⟨rfl, HB0.out.trans (HB6.out.mono HB0.out.size)⟩
          · have hkb : (k1 == 0) = false := by simp [hk]
            by_cases h1 : 1 ≤ ia
            · by_cases h2 : ia ≤ c.p.2
              · go_wp2_with fail
                refine HFT.out.mono ?_
                rintro e w6 ⟨rfl, hB6⟩
                have HB7 := Lib.hid (HB6.out.trans (hB6.mono HB6.out.size))
                cases ft with
                | false =>
                  have ho : ok = false := by rw [HI.out]; simp [h1, h2]
                  subst ho
                  have hre : r = false := by rw [← HR2.out, Bool.false_and]
                  subst hre
                  clear HI HR2 HFT hB6 HB6
                  go_wp2_with fail
                  go_ret
                  exact ⟨rfl, HB0.out.trans (HB7.out.mono HB0.out.size)⟩
                | true =>
                  have ho : ok = true := by rw [HI.out]; simp [h1, h2]
                  subst ho
                  have HR3 : Hid (allOk c c.is.length (c.is.drop (i + 1)) ((i + 1 : Nat) : Int) = r) := Lib.hid (by rw [← HR2.out, Bool.true_and]; rfl)
                  clear HI HR2 HFT hB6 HB6
                  go_wp2_with fail
                  go_roundg (c.is.length - (i + 1))
                  case measure => omega
                  case rel => exact ⟨i + 1, by go_num, by omega, HR3.out, HB7.out⟩
              · have ho : ok = false := by rw [HI.out]; simp [h2]
                subst ho
                have hre : r = false := by rw [← HR2.out, Bool.false_and]
                subst hre
                clear HI HR2 HFT
                go_wp2_with fail
                go_ret
                exact ⟨rfl, HB0.out.trans (HB6.out.mono HB0.out.size)⟩
            · have ho : ok = false := by rw [HI.out]; simp [h1]
              subst ho
              have hre : r = false := by rw [← HR2.out, Bool.false_and]
              subst hre
              clear HI HR2 HFT
              go_wp2_with fail
              go_ret
              exact ⟨rfl, HB0.out.trans (HB6.out.mono HB0.out.size)⟩
        have p1 : (op == 1) = false := by simp [o1]
        by_cases o2 : op = 2
        · subst o2
          by_cases hk : k1 = 0
          · subst hk
            by_cases ha : ia = 0
            · subst ha
              go_wp2_with fail
              refine HFT.out.mono ?_
              rintro e w6 ⟨rfl, hB6⟩
              have HB7 := Lib.hid (HB6.out.trans (hB6.mono HB6.out.size))
              cases ft with
              | false =>
                have ho : ok = false := by rw [HI.out]; simp []
                subst ho
                have hre : r = false := by rw [← HR2.out, Bool.false_and]
                subst hre
                clear HI HR2 HFT hB6 HB6
                go_wp2_with fail
                go_ret
                exact ⟨rfl, HB0.out.trans (HB7.out.mono HB0.out.size)⟩
              | true =>
                have ho : ok = true := by rw [HI.out]; simp []
                subst ho
                have HR3 : Hid (allOk c c.is.length (c.is.drop (i + 1)) ((i + 1 : Nat) : Int) = r) := Lib.hid (by rw [← HR2.out, Bool.true_and]; rfl)
                clear HI HR2 HFT hB6 HB6
                go_wp2_with fail
                go_roundg (c.is.length - (i + 1))
                case measure => omega
                case rel => exact ⟨i + 1, by go_num, by omega, HR3.out, HB7.out⟩
            · have hab : (ia == 0) = false := by simp [ha]
              have ho : ok = false := by rw [HI.out]; simp [ha]
              subst ho
              have hre : r = false := by rw [← HR2.out, Bool.false_and]
              subst hre
              clear HI HR2 HFT
              go_wp2_with fail
              go_ret
              exact ⟨rfl, HB0.out.trans (HB6.out.mono HB0.out.size)⟩
          · have hkb : (k1 == 0) = false := by simp [hk]
            by_cases ha : ia = 0
            · subst ha
              go_wp2_with fail
              refine HFT.out.mono ?_
              rintro e w6 ⟨rfl, hB6⟩
              have HB7 := Lib.hid (HB6.out.trans (hB6.mono HB6.out.size))
              cases ft with
              | false =>
                have ho : ok = false := by rw [HI.out]; simp []
                subst ho
                have hre : r = false := by rw [← HR2.out, Bool.false_and]
                subst hre
                clear HI HR2 HFT hB6 HB6
                go_wp2_with fail
                go_ret
                exact ⟨rfl, HB0.out.trans (HB7.out.mono HB0.out.size)⟩
              | true =>
                have ho : ok = true := by rw [HI.out]; simp []
                subst ho
                have HR3 : Hid (allOk c c.is.length (c.is.drop (i + 1)) ((i + 1 : Nat) : Int) = r) := Lib.hid (by rw [← HR2.out, Bool.true_and]; rfl)
                clear HI HR2 HFT hB6 HB6
                go_wp2_with fail
                go_roundg (c.is.length - (i + 1))
                case measure => omega
                case rel => exact ⟨i + 1, by go_num, by omega, HR3.out, HB7.out⟩
            · have hab : (ia == 0) = false := by simp [ha]
              have ho : ok = false := by rw [HI.out]; simp [ha]
              subst ho
              have hre : r = false := by rw [← HR2.out, Bool.false_and]
              subst hre
              clear HI HR2 HFT
              go_wp2_with fail
              go_ret
              exact ⟨rfl, HB0.out.trans (HB6.out.mono HB0.out.size)⟩
        have p2 : (op == 2) = false := by simp [o2]
        by_cases o3 : op = 3
        · subst o3
          by_cases hk : k1 = 0
          · subst hk
            by_cases ha : ia = 0
            · subst ha
              have ho : ok = true := by rw [HI.out]; simp []
              subst ho
              have HR3 : Hid (allOk c c.is.length (c.is.drop (i + 1)) ((i + 1 : Nat) : Int) = r) := Lib.hid (by rw [← HR2.out, Bool.true_and]; rfl)
              clear HI HR2 HFT
              go_wp2_with fail
              go_roundg (c.is.length - (i + 1))
              case measure => omega
              case rel => exact ⟨i + 1, by go_num, by omega, HR3.out, HB6.out⟩
            · have hab : (ia == 0) = false := by simp [ha]
              have ho : ok = false := by rw [HI.out]; simp [ha]
              subst ho
              have hre : r = false := by rw [← HR2.out, Bool.false_and]
              subst hre
              clear HI HR2 HFT
              go_wp2_with fail
              go_ret
              exact ⟨rfl, HB0.out.trans (HB6.out.mono HB0.out.size)⟩
          · have hkb : (k1 == 0) = false := by simp [hk]
            by_cases ha : ia = 0
            · subst ha
              have ho : ok = false := by rw [HI.out]; simp [hk]
              subst ho
              have hre : r = false := by rw [← HR2.out, Bool.false_and]
              subst hre
              clear HI HR2 HFT
              go_wp2_with fail
              go_ret
              exact ⟨rfl, HB0.out.trans (HB6.out.mono HB0.out.size)⟩
            · have hab : (ia == 0) = false := by simp [ha]
              have ho : ok = false := by rw [HI.out]; simp [ha, hk]
              subst ho
              have hre : r = false := by rw [← HR2.out, Bool.false_and]
              subst hre
              clear HI HR2 HFT
              go_wp2_with fail
              go_ret
              exact ⟨rfl, HB0.out.trans (HB6.out.mono HB0.out.size)⟩
        have p3 : (op == 3) = false := by simp [o3]
        by_cases o8 : op = 8
        · subst o8
          by_cases hk : k1 = 0
          · subst hk
            by_cases ha : ia = 0
            · subst ha
              have ho : ok = true := by rw [HI.out]; simp []
              subst ho
              have HR3 : Hid (allOk c c.is.length (c.is.drop (i + 1)) ((i + 1 : Nat) : Int) = r) := Lib.hid (by rw [← HR2.out, Bool.true_and]; rfl)
              clear HI HR2 HFT
              go_wp2_with fail
              go_roundg (c.is.length - (i + 1))
              case measure => omega
              case rel => exact ⟨i + 1, by go_num, by omega, HR3.out, HB6.out⟩
            · have hab : (ia == 0) = false := by simp [ha]
              have ho : ok = false := by rw [HI.out]; simp [ha]
              subst ho
              have hre : r = false := by rw [← HR2.out, Bool.false_and]
              subst hre
              clear HI HR2 HFT
              go_wp2_with fail
              go_ret
              exact ⟨rfl, HB0.out.trans (HB6.out.mono HB0.out.size)⟩
          · have hkb : (k1 == 0) = false := by simp [hk]
            by_cases ha : ia = 0
            · subst ha
              have ho : ok = false := by rw [HI.out]; simp [hk]
              subst ho
              have hre : r = false := by rw [← HR2.out, Bool.false_and]
              subst hre
              clear HI HR2 HFT
              go_wp2_with fail
              go_ret
              exact ⟨rfl, HB0.out.trans (HB6.out.mono HB0.out.size)⟩
            · have hab : (ia == 0) = false := by simp [ha]
              have ho : ok = false := by rw [HI.out]; simp [ha, hk]
              subst ho
              have hre : r = false := by rw [← HR2.out, Bool.false_and]
              subst hre
              clear HI HR2 HFT
              go_wp2_with fail
              go_ret
              exact ⟨rfl, HB0.out.trans (HB6.out.mono HB0.out.size)⟩
        have p8 : (op == 8) = false := by simp [o8]
        by_cases o9 : op = 9
        · subst o9
          by_cases hk : k1 = 0
          · subst hk
            by_cases ha : ia = 0
            · subst ha
              have ho : ok = true := by rw [HI.out]; simp []
              subst ho
              have HR3 : Hid (allOk c c.is.length (c.is.drop (i + 1)) ((i + 1 : Nat) : Int) = r) := Lib.hid (by rw [← HR2.out, Bool.true_and]; rfl)
              clear HI HR2 HFT
              go_wp2_with fail
              go_roundg (c.is.length - (i + 1))
              case measure => omega
              case rel => exact ⟨i + 1, by go_num, by omega, HR3.out, HB6.out⟩
            · have hab : (ia == 0) = false := by simp [ha]
              have ho : ok = false := by rw [HI.out]; simp [ha]
              subst ho
              have hre : r = false := by rw [← HR2.out, Bool.false_and]
              subst hre
              clear HI HR2 HFT
              go_wp2_with fail
              go_ret
              exact ⟨rfl, HB0.out.trans (HB6.out.mono HB0.out.size)⟩
          · have hkb : (k1 == 0) = false := by simp [hk]
            by_cases ha : ia = 0
            · subst ha
              have ho : ok = false := by rw [HI.out]; simp [hk]
              subst ho
              have hre : r = false := by rw [← HR2.out, Bool.false_and]
              subst hre
              clear HI HR2 HFT
              go_wp2_with fail
              go_ret
              exact ⟨rfl, HB0.out.trans (HB6.out.mono HB0.out.size)⟩
            · have hab : (ia == 0) = false := by simp [ha]
              have ho : ok = false := by rw [HI.out]; simp [ha, hk]
              subst ho
              have hre : r = false := by rw [← HR2.out, Bool.false_and]
              subst hre
              clear HI HR2 HFT
              go_wp2_with fail
              go_ret
              exact ⟨rfl, HB0.out.trans (HB6.out.mono HB0.out.size)⟩
        have p9 : (op == 9) = false := by simp [o9]
        by_cases o4 : op = 4
        · subst o4
          by_cases hk : k1 = 0
          · subst hk
            by_cases h1 : (i : Int) < ia
            · by_cases h2 : ia < (c.is.length : Int)
              · have ho : ok = true := by rw [HI.out]; simp [h1, h2]
                subst ho
                have HR3 : Hid (allOk c c.is.length (c.is.drop (i + 1)) ((i + 1 : Nat) : Int) = r) := Lib.hid (by rw [← HR2.out, Bool.true_and]; rfl)
                clear HI HR2 HFT
                go_wp2_with fail
                go_roundg (c.is.length - (i + 1))
                case measure => omega
                case rel => exact ⟨i + 1, by go_num, by omega, HR3.out, HB6.out⟩
              · have ho : ok = false := by rw [HI.out]; simp [h2]
                subst ho
                have hre : r = false := by rw [← HR2.out, Bool.false_and]
                subst hre
                clear HI HR2 HFT
                go_wp2_with fail
                go_ret
                exact ⟨rfl, HB0.out.trans (HB6.out.mono HB0.out.size)⟩
            · have ho : ok = false := by rw [HI.out]; simp [h1]
              subst ho
              have hre : r = false := by rw [← HR2.out, Bool.false_and]
              subst hre
              clear HI HR2 HFT
              go_wp2_with fail
              go_ret
              exact ⟨rfl, HB0.out.trans (HB6.out.mono HB0.out.size)⟩
          · have hkb : (k1 == 0) = false := by simp [hk]
            by_cases h1 : (i : Int) < ia
            · by_cases h2 : ia < (c.is.length : Int)
              · have ho : ok = false := by rw [HI.out]; simp [hk]
                subst ho
                have hre : r = false := by rw [← HR2.out, Bool.false_and]
                subst hre
                clear HI HR2 HFT
                go_wp2_with fail
                go_ret
                exact ⟨rfl, HB0.out.trans (HB6.out.mono HB0.out.size)⟩
              · have ho : ok = false := by rw [HI.out]; simp [hk]
                subst ho
                have hre : r = false := by rw [← HR2.out, Bool.false_and]
                subst hre
                clear HI HR2 HFT
                go_wp2_with fail
                go_ret
                exact ⟨rfl, HB0.out.trans (HB6.out.mono HB0.out.size)⟩
            · have ho : ok = false := by rw [HI.out]; simp [hk]
              subst ho
              have hre : r = false := by rw [← HR2.out, Bool.false_and]
              subst hre
              clear HI HR2 HFT
              go_wp2_with fail
              go_ret
              exact ⟨rfl, HB0.out.trans (HB6.out.mono HB0.out.size)⟩
        have p4 : (op == 4) = false := by simp [o4]
        by_cases o5 : op = 5
        · subst o5
          by_cases hk : k1 = 0
          · subst hk
            by_cases h1 : (i : Int) < ia
            · by_cases h2 : ia < (c.is.length : Int)
              · have ho : ok = true := by rw [HI.out]; simp [h1, h2]
                subst ho
                have HR3 : Hid (allOk c c.is.length (c.is.drop (i + 1)) ((i + 1 : Nat) : Int) = r) := Lib.hid (by rw [← HR2.out, Bool.true_and]; rfl)
                clear HI HR2 HFT
                go_wp2_with fail
                go_roundg (c.is.length - (i + 1))
                case measure => omega
                case rel => exact ⟨i + 1, by go_num, by omega, HR3.out, HB6.out⟩
              · have ho : ok = false := by rw [HI.out]; simp [h2]
                subst ho
                have hre : r = false := by rw [← HR2.out, Bool.false_and]
                subst hre
                clear HI HR2 HFT
                go_wp2_with fail
                go_ret
                exact ⟨rfl, HB0.out.trans (HB6.out.mono HB0.out.size)⟩
            · have ho : ok = false := by rw [HI.out]; simp [h1]
              subst ho
              have hre : r = false := by rw [← HR2.out, Bool.false_and]
              subst hre
              clear HI HR2 HFT
              go_wp2_with fail
              go_ret
              exact ⟨rfl, HB0.out.trans (HB6.out.mono HB0.out.size)⟩
          · have hkb : (k1 == 0) = false := by simp [hk]
            by_cases h1 : (i : Int) < ia
            · by_cases h2 : ia < (c.is.length : Int)
              · have ho : ok = false := by rw [HI.out]; simp [hk]
                subst ho
                have hre : r = false := by rw [← HR2.out, Bool.false_and]
                subst hre
                clear HI HR2 HFT
                go_wp2_with fail
                go_ret
                exact ⟨rfl, HB0.out.trans (HB6.out.mono HB0.out.size)⟩
              · have ho : ok = false := by rw [HI.out]; simp [hk]
                subst ho
                have hre : r = false := by rw [← HR2.out, Bool.false_and]
                subst hre
                clear HI HR2 HFT
                go_wp2_with fail
                go_ret
                exact ⟨rfl, HB0.out.trans (HB6.out.mono HB0.out.size)⟩
            · have ho : ok = false := by rw [HI.out]; simp [hk]
              subst ho
              have hre : r = false := by rw [← HR2.out, Bool.false_and]
              subst hre
              clear HI HR2 HFT
              go_wp2_with fail
              go_ret
              exact ⟨rfl, HB0.out.trans (HB6.out.mono HB0.out.size)⟩
        have p5 : (op == 5) = false := by simp [o5]
        by_cases o6 : op = 6
        · subst o6
          by_cases hk : k1 = 0
          · subst hk
            by_cases h1 : 0 ≤ ia
            · by_cases h2 : ia < c.slots
              · have ho : ok = true := by rw [HI.out]; simp [h1, h2]
                subst ho
                have HR3 : Hid (allOk c c.is.length (c.is.drop (i + 1)) ((i + 1 : Nat) : Int) = r) := Lib.hid (by rw [← HR2.out, Bool.true_and]; rfl)
                clear HI HR2 HFT
                go_wp2_with fail
                go_roundg (c.is.length - (i + 1))
                case measure => omega
                case rel => exact ⟨i + 1, by go_num, by omega, HR3.out, HB6.out⟩
              · have ho : ok = false := by rw [HI.out]; simp [h2]
                subst ho
                have hre : r = false := by rw [← HR2.out, Bool.false_and]
                subst hre
                clear HI HR2 HFT
                go_wp2_with fail
                go_ret
                exact ⟨rfl, HB0.out.trans (HB6.out.mono HB0.out.size)⟩
            · have ho : ok = false := by rw [HI.out]; simp [h1]
              subst ho
              have hre : r = false := by rw [← HR2.out, Bool.false_and]
              subst hre
              clear HI HR2 HFT
              go_wp2_with fail
              go_ret
              exact ⟨rfl, HB0.out.trans (HB6.out.mono HB0.out.size)⟩
          · have hkb : (k1 == 0) = false := by simp [hk]
            by_cases h1 : 0 ≤ ia
            · by_cases h2 : ia < c.slots
              · have ho : ok = false := by rw [HI.out]; simp [hk]
                subst ho
                have hre : r = false := by rw [← HR2.out, Bool.false_and]
                subst hre
                clear HI HR2 HFT
                go_wp2_with fail
                go_ret
                exact ⟨rfl, HB0.out.trans (HB6.out.mono HB0.out.size)⟩
              · have ho : ok = false := by rw [HI.out]; simp [hk]
                subst ho
                have hre : r = false := by rw [← HR2.out, Bool.false_and]
                subst hre
                clear HI HR2 HFT
                go_wp2_with fail
                go_ret
                exact ⟨rfl, HB0.out.trans (HB6.out.mono HB0.out.size)⟩
            · have ho : ok = false := by rw [HI.out]; simp [hk]
              subst ho
              have hre : r = false := by rw [← HR2.out, Bool.false_and]
              subst hre
              clear HI HR2 HFT
              go_wp2_with fail
              go_ret
              exact ⟨rfl, HB0.out.trans (HB6.out.mono HB0.out.size)⟩
        have p6 : (op == 6) = false := by simp [o6]
        by_cases o7 : op = 7
        · subst o7
          by_cases hk : k1 = 0
          · subst hk
            by_cases h1 : 0 ≤ ia
            · by_cases h2 : ia < c.slots
              · have ho : ok = true := by rw [HI.out]; simp [h1, h2]
                subst ho
                have HR3 : Hid (allOk c c.is.length (c.is.drop (i + 1)) ((i + 1 : Nat) : Int) = r) := Lib.hid (by rw [← HR2.out, Bool.true_and]; rfl)
                clear HI HR2 HFT
                go_wp2_with fail
                go_roundg (c.is.length - (i + 1))
                case measure => omega
                case rel => exact ⟨i + 1, by go_num, by omega, HR3.out, HB6.out⟩
              · have ho : ok = false := by rw [HI.out]; simp [h2]
                subst ho
                have hre : r = false := by rw [← HR2.out, Bool.false_and]
                subst hre
                clear HI HR2 HFT
                go_wp2_with fail
                go_ret
                exact ⟨rfl, HB0.out.trans (HB6.out.mono HB0.out.size)⟩
            · have ho : ok = false := by rw [HI.out]; simp [h1]
              subst ho
              have hre : r = false := by rw [← HR2.out, Bool.false_and]
              subst hre
              clear HI HR2 HFT
              go_wp2_with fail
              go_ret
              exact ⟨rfl, HB0.out.trans (HB6.out.mono HB0.out.size)⟩
          · have hkb : (k1 == 0) = false := by simp [hk]
            by_cases h1 : 0 ≤ ia
            · by_cases h2 : ia < c.slots
              · have ho : ok = false := by rw [HI.out]; simp [hk]
                subst ho
                have hre : r = false := by rw [← HR2.out, Bool.false_and]
                subst hre
                clear HI HR2 HFT
                go_wp2_with fail
                go_ret
                exact ⟨rfl, HB0.out.trans (HB6.out.mono HB0.out.size)⟩
              · have ho : ok = false := by rw [HI.out]; simp [hk]
                subst ho
                have hre : r = false := by rw [← HR2.out, Bool.false_and]
                subst hre
                clear HI HR2 HFT
                go_wp2_with fail
                go_ret
                exact ⟨rfl, HB0.out.trans (HB6.out.mono HB0.out.size)⟩
            · have ho : ok = false := by rw [HI.out]; simp [hk]
              subst ho
              have hre : r = false := by rw [← HR2.out, Bool.false_and]
              subst hre
              clear HI HR2 HFT
              go_wp2_with fail
              go_ret
              exact ⟨rfl, HB0.out.trans (HB6.out.mono HB0.out.size)⟩
        have p7 : (op == 7) = false := by simp [o7]
        by_cases hk : k1 = 0
        · subst hk
          have ho : ok = false := by rw [HI.out]; simp [o1, o2, o3, o4, o5, o6, o7, o8, o9]
          subst ho
          have hre : r = false := by rw [← HR2.out, Bool.false_and]
          subst hre
          clear HI HR2 HFT
          go_wp2_with fail
          go_ret
          exact ⟨rfl, HB0.out.trans (HB6.out.mono HB0.out.size)⟩
        · have hkb : (k1 == 0) = false := by simp [hk]
          have ho : ok = false := by rw [HI.out]; simp [o1, o2, o3, o4, o5, o6, o7, o8, o9]
          subst ho
          have hre : r = false := by rw [← HR2.out, Bool.false_and]
          subst hre
          clear HI HR2 HFT
          go_wp2_with fail
          go_ret
          exact ⟨rfl, HB0.out.trans (HB6.out.mono HB0.out.size)⟩
      · obtain rfl : i = c.is.length := by omega
        rw [List.drop_length] at hr
        have hre : r = true := by rw [← hr]; rfl
        subst hre
        clear hr HRI
        go_wp2_with fail
        go_ret
        exact ⟨rfl, HB0.out.trans (HBL.out.mono HB0.out.size)⟩
  · have hre : r = false := by rw [HRR.out, decide_eq_false hlo, Bool.false_and]
    subst hre
    have hlb : (lo == 9) = false := by simp [hlo]
    go_enter Try.func14, Try.ntmps14
    go_wp2_with fail
    go_ret
    exact ⟨rfl, HB0.out⟩
end Go.Proofs.Ytamiidklcadkmaa
