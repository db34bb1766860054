/- CodeSound: the walk. -/
import Derived.Test.YtamiidklcadkmaaSoundPure
import Derived.Test.YtamiidklcadkmaaRef16
set_option maxRecDepth 20000
set_option linter.unusedVariables false
set_option linter.unusedSimpArgs false
namespace Go.Proofs.Ytamiidklcadkmaa
open Go.RowKit Go.PM
theorem compM_le (h b : Tm) (hk : compOk h b = true) : (compM h b).is.length ≤ 1000000 ∧ 1 ≤ (compM h b).is.length ∧ 0 ≤ (compM h b).slots ∧ (compM h b).slots ≤ 1000000 := by
  have hk0 := hk
  unfold compOk at hk
  rw [Bool.and_eq_true] at hk
  obtain ⟨q1, q2, q3, q4⟩ := (rightN_whole h b).1 hk.1
  have h1 := compM_len h b hk0
  have h2 := (bd_le 101 b (In0 3 0) 0).1
  have h3 : bodyLen b = (bd 101 b (In0 3 0) 0).1.length := rfl
  have h4 : Tm.predN h ≤ 8 := by
    unfold Tm.predN
    match h, q3 with
    | .mk k s x ls, q3 =>
      show (if k = 4 then ls.length else 0) ≤ 8
      by_cases k4 : k = 4
      · subst k4; rw [if_pos rfl]; exact (pl_4.1 q3).2.2.1
      · rw [if_neg k4]; omega
  have p1 := sz_pos h
  have p2 := sz_pos b
  have h5 : (compM h b).slots = (bd 100 (Tm.ren (clM h b) b) (In0 3 0) 0).2 := rfl
  have h6 := (bd_le 100 (Tm.ren (clM h b) b) (In0 3 0) 0).2
  rw [ren_sz] at h6
  omega
theorem make_int_any (n : Nat) (z : Int) (hz : z = n) (h : n ≤ 1000000) (w : World) : (Instr.makeSlice 49 (.int .i64 z) (.int .i64 z)).run Try.prog w =
    .ok (.slice (some ⟨w.heap.size, 0, none⟩) n n) (w.alloc (.cells (irow (List.replicate n 0)).toArray 3)) := by
  subst hz
  obtain ⟨i, hi, hz0, hz1, hz2⟩ := parts_intL
  have := run_make (P := Try.prog) w 49 3 i (.int .i64 0) Try.underlying49 hi hz0 .i64 .i64 n n (by omega) (by omega) (by rw [hz2]; omega) (by omega)
  rw [this, hz1]
  have e1 : madeCells (Value.int .i64 0).cells ((n : Int).toNat * 1) = (irow (List.replicate n 0)).toArray := by
    rw [Int.toNat_natCast, Nat.mul_one]
    have hc : (Value.int .i64 0).cells = #[.int .i64 0] := rfl
    rw [hc]
    apply Array.ext
    · simp [madeCells, irow]
    · intro i h1 h2
      simp [madeCells, irow, Nat.mod_one]
  rw [e1]
  simp
theorem row_made (w : World) (own : Nat → Nat) (k n : Nat) (h : n ≤ 1000000) : Row (w.alloc (.cells (irow (List.replicate n 0)).toArray 3)) (ow own w.heap.size k) k 3 1 (.slice (some ⟨w.heap.size, 0, none⟩) n n) n (irow (List.replicate n 0)) := by
  refine ⟨by simp [irow], .inr ⟨w.heap.size, n, _, rfl, Blk.new w _ (ow_ge (Nat.le_refl _)), Nat.le_refl _, by unfold maxLen; omega, by simp [irow], by simp [irow]⟩⟩
theorem Compile_ren (h b : Tm) (hok : compOk h b = true) (w2 : World) (C : Nat → Prop) (a1 : Option Addr) (l1 c1 : Nat) (a2 : Option Addr) (l2 c2 : Nat)
    (hh : TmV w2 C (Tm.ren (clM h b) h) (.agg #[.int .i64 (Tm.ren (clM h b) h).k, .string (Tm.ren (clM h b) h).s, .int .i64 (Tm.ren (clM h b) h).x, .slice a1 l1 c1])) (hb : TmV w2 C (Tm.ren (clM h b) b) (.agg #[.int .i64 (Tm.ren (clM h b) b).k, .string (Tm.ren (clM h b) b).s, .int .i64 (Tm.ren (clM h b) b).x, .slice a2 l2 c2])) :
    Calls Try.prog 8 #[.agg #[.int .i64 (Tm.ren (clM h b) h).k, .string (Tm.ren (clM h b) h).s, .int .i64 (Tm.ren (clM h b) h).x, .slice a1 l1 c1, .int .i64 (Tm.ren (clM h b) b).k, .string (Tm.ren (clM h b) b).s, .int .i64 (Tm.ren (clM h b) b).x, .slice a2 l2 c2]] w2 (CpPostF w2 (compM h b) 0) := by
  have hren := comp_ren h b hok
  have := Compile_anyF (Tm.ren (clM h b) h) (Tm.ren (clM h b) b) w2 C _ _ _ a1 l1 c1 _ _ _ a2 l2 c2 hh hb
  rw [hren.1, hren.2] at this
  exact this
theorem fin_le : ∀ (l : List In) (f : Int → Int) (a : Int), f a ≤ fin f l a ∧ fin f l a ≤ f a + l.length
  | [], f, a => by show f a ≤ f a ∧ f a ≤ f a + ((0 : Nat) : Int); omega
  | x :: xs, f, a => by
    have h := fin_le xs (bump f x) a
    have hb : f a ≤ bump f x a ∧ bump f x a ≤ f a + 1 := by unfold bump; split <;> omega
    show f a ≤ fin (bump f x) xs a ∧ fin (bump f x) xs a ≤ f a + ((xs.length + 1 : Nat) : Int)
    omega
theorem ICells.setOp {w : World} {C : Nat → Prop} (y : Int) : ∀ {is : List In} {xs : List Value}, ICells w C is xs → ∀ (i : Nat), i < is.length → ICells w C (is.modify i fun n => { n with op := y }) (xs.set (i * 6) (.int .i64 y))
  | t :: ts, _, h, 0, _ => by
    unfold ICells at h
    obtain ⟨sl, xs', rfl, h1, h⟩ := h
    exact ⟨sl, xs', rfl, h1, h⟩
  | t :: ts, _, h, i + 1, hi => by
    unfold ICells at h
    obtain ⟨sl, xs', rfl, h1, h⟩ := h
    have := ICells.setOp y h i (by simpa using hi)
    rw [show (i + 1) * 6 = i * 6 + 1 + 1 + 1 + 1 + 1 + 1 by omega]
    exact ⟨sl, _, rfl, h1, this⟩
/-- Both of an instruction's ints are set. -/
theorem IRow.spoil {w : World} {own : Nat → Nat} {v : Value} {is : List In} (h : IRow w own v is) {f : Nat} (hf : f < is.length) :
    ∃ g c, v = .slice (some ⟨g, 0, none⟩) is.length c ∧ g < w.heap.size ∧ own g = 2 ∧ w.frozen? ⟨g, f * 6, none⟩ = false ∧ w.frozen? ⟨g, f * 6 + 1, none⟩ = false ∧ w.cell? ⟨g, f * 6, none⟩ = some (.int .i64 is[f].op) ∧ w.cell? ⟨g, f * 6 + 1, none⟩ = some (.int .i64 is[f].a) ∧
      ∀ op a : Int, IRow ((w.setCell ⟨g, f * 6, none⟩ (.int .i64 op)).setCell ⟨g, f * 6 + 1, none⟩ (.int .i64 a)) own v (spoil is f op a) := by
  obtain ⟨xs, h1, h2⟩ := h
  obtain ⟨g, cap, cur, rfl, hb, hn, hcs, htk, hcell⟩ := h1.cells (by omega)
  obtain ⟨q0, q1, _⟩ := ICells.get h2 hf
  refine ⟨g, cap, rfl, hb.lt, hb.col, hb.free _, hb.free _, by rw [hcell _ (by omega)]; exact q0, by rw [hcell _ (by omega)]; exact q1, fun op a => ?_⟩
  have hlen : (Proofs.Ytamiidklcadkmaa.spoil is f op a).length = is.length := spoil_len _ _ _ _
  have hE : Ext (fun c => c = 2) w ((w.setCell ⟨g, f * 6, none⟩ (.int .i64 op)).setCell ⟨g, f * 6 + 1, none⟩ (.int .i64 a)) own own := (Ext.refl.setCell (fun _ => hb.col) _).setCell (a := ⟨g, f * 6 + 1, none⟩) (fun _ => hb.col) _
  have hc : ICells w (TC own) (Proofs.Ytamiidklcadkmaa.spoil is f op a) ((xs.set (f * 6) (.int .i64 op)).set (f * 6 + 1) (.int .i64 a)) := by
    have := ICells.set a (ICells.setOp op h2 f hf) f (by rw [List.length_modify]; exact hf)
    have e : setA (is.modify f fun n => { n with op := op }) f a = Proofs.Ytamiidklcadkmaa.spoil is f op a := by
      unfold setA Proofs.Ytamiidklcadkmaa.spoil
      rw [List.modify_modify_eq]
      rfl
    rwa [e] at this
  refine ⟨(xs.set (f * 6) (.int .i64 op)).set (f * 6 + 1) (.int .i64 a), ⟨by rw [List.length_set, List.length_set, h1.1, hlen], .inr ⟨g, cap, (cur.setIfInBounds (f * 6) (.int .i64 op)).setIfInBounds (f * 6 + 1) (.int .i64 a), by rw [hlen], (hb.setCell _ _).setCell _ _, by omega, ?_, by simpa using hcs, ?_⟩⟩, hc.carry hE.size fun u hu hcc => ⟨hE.same u hu fun h => hcc.2.1 h, hcc⟩⟩
  · obtain ⟨_, h3 | ⟨g', cap', cur', hv', hb', _, hmx, _⟩⟩ := h1
    · cases h3.1
    · injection hv' with hv1 hv2 hv3
      subst hv3
      exact hmx
  · rw [hlen, Array.toList_setIfInBounds, Array.toList_setIfInBounds, List.take_set, List.take_set, htk]
def SvInv (w5 : World) (own5 : Nat → Nat) (bs : Nat) (is : List In) (sn : Nat) (g : Nat) (iv : Value) (w : World) : Prop :=
  ∃ (own : Nat → Nat) (i : Nat) (svs : List Int), iv = .int .i64 i ∧ i + g = is.length ∧ svs.length = sn ∧ (∀ a : Nat, a < sn → svs.getD a 0 = fin (fun _ => 0) (is.take i) a) ∧ Row w own 5 3 1 (.slice (some ⟨bs, 0, none⟩) sn sn) sn (irow svs) ∧ Ext (fun c => c = 5) w5 w own5 own
theorem sv_keep {svs : List Int} {sn i : Nat} {is : List In} (h : ∀ a : Nat, a < sn → svs.getD a 0 = fin (fun _ => 0) (is.take i) a) (hi : i < is.length) (ho : is[i].op ≠ 6) : ∀ a : Nat, a < sn → svs.getD a 0 = fin (fun _ => 0) (is.take (i + 1)) a := fun a ha => by
  rw [fin_succ _ _ _ hi, bump_no ho]; exact h a ha
theorem sv_set {svs : List Int} {sn i n : Nat} {is : List In} (h : ∀ a : Nat, a < sn → svs.getD a 0 = fin (fun _ => 0) (is.take i) a) (hl : svs.length = sn) (hi : i < is.length) (ho : is[i].op = 6) (hn : is[i].a = (n : Int)) (hlt : n < sn) : ∀ a : Nat, a < sn → (svs.set n (svs.getD n 0 + 1)).getD a 0 = fin (fun _ => 0) (is.take (i + 1)) a := fun a ha => by
  rw [fin_succ _ _ _ hi]
  unfold bump
  by_cases e : n = a
  · subst e
    rw [if_pos ⟨ho, hn⟩, ← h n ha]
    simp [List.getD_eq_getElem?_getD, hl, ha]
  · rw [if_neg fun e2 => e (by have := e2.2; omega), ← h a ha]
    simp only [List.getD_eq_getElem?_getD]
    rw [List.getElem?_set_ne e]
set_option maxHeartbeats 8000000 in
theorem codeSound_walk (w : World) (h b : Tm) (C : Nat → Prop) (k1 : Int) (s1 : ByteArray) (x1 : Int) (sl1 : Value) (k2 : Int) (s2 : ByteArray) (x2 : Int) (sl2 : Value) (hh : TmV w C h (.agg #[.int .i64 k1, .string s1, .int .i64 x1, sl1])) (hb : TmV w C b (.agg #[.int .i64 k2, .string s2, .int .i64 x2, sl2]))
    (ai : Int) (hai : rng64 ai) (opv : Int) (hop : rng64 opv) (tov : Int) (hto : rng64 tov) :
    Calls Try.prog 4 #[.agg #[.int .i64 k1, .string s1, .int .i64 x1, sl1, .int .i64 k2, .string s2, .int .i64 x2, sl2], .int .i64 ai, .int .i64 opv, .int .i64 tov] w fun e w' => e = .returned (.bool true) ∧ Below w.heap.size w w' := by
  obtain ⟨a1, l1, c1, rfl⟩ := Tm.at_shape (TmV_at hh).2.2.2.2.2.2
  obtain ⟨a2, l2, c2, rfl⟩ := Tm.at_shape (TmV_at hb).2.2.2.2.2.2
  have hb0 := Blk.new (own := fun _ => 0) (k := 0) w (.cells #[.int .i64 k1, .string s1, .int .i64 x1, .slice a1 l1 c1, .int .i64 k2, .string s2, .int .i64 x2, .slice a2 l2 c2] 26) rfl
  have HX0 := Lib.hid hb0
  have HB0 := Lib.hid ((Below.refl w.heap.size w).alloc (Nat.le_refl _) (.cells #[.int .i64 k1, .string s1, .int .i64 x1, .slice a1 l1 c1, .int .i64 k2, .string s2, .int .i64 x2, .slice a2 l2 c2] 26))
  have HC := Lib.hid (fun w2 (hB : Below w.heap.size w w2) => Compile_anyF h b w2 C _ _ _ _ _ _ _ _ _ _ _ _ (TmV.below hh hB) (TmV.below hb hB))
  have HRD := Lib.hid (fun w2 (hB : Below w.heap.size w w2) hr => Renamed_any h b w2 C _ _ _ _ _ _ _ _ _ _ _ _ (TmV.below hh hB) (TmV.below hb hB) hr)
  clear hb0 hh hb hai hop hto
  go_enter Try.func4, Try.ntmps4
  go_wp2_with fail
  refine (alive_any _).mono ?_
  rintro e w1 ⟨rfl, hB1⟩
  have hbx := Blk_same HX0.out hB1
  have HX1 := Lib.hid hbx
  have hBw := HB0.out.trans (hB1.mono HB0.out.size)
  have HB1 := Lib.hid hBw
  have y0 := hbx.cell 0
  have y1 := hbx.cell 1
  have y2 := hbx.cell 2
  have y3 := hbx.cell 3
  have y4 := hbx.cell 4
  have y5 := hbx.cell 5
  have y6 := hbx.cell 6
  have y7 := hbx.cell 7
  simp at y0 y1 y2 y3 y4 y5 y6 y7
  have yl := hbx.lt
  have HC1 := Lib.hid (HC.out w1 hBw)
  clear hB1 hbx hBw HX0 HB0
  cases hok : compOk h b
  · rw [hok] at HC1
    clear hok HRD HC
    go_wp2_with fail
    refine HC1.out.mono ?_
    rintro e w2 ⟨own2, v2, rfl, hcv, hB2, -⟩
    have HB2 := Lib.hid (HB1.out.trans (hB2.mono HB1.out.size))
    have HCV := Lib.hid hcv
    obtain ⟨rv, rfl, hir⟩ := hcv
    obtain ⟨ra, rc, rfl⟩ := hir.shape
    clear hB2 hir HC1 HX1 y0 y1 y2 y3 y4 y5 y6 y7 yl HB1
    have HRR := Lib.hid (fun wr hB => Right_code zeroCd wr own2 _ (CdV.below HCV.out hB) (by show 0 ≤ _; omega))
    have hrz : rightC zeroCd = false := by decide
    rw [hrz] at HRR
    clear hrz
    go_wp2_with fail
    refine (HRR.out _ ((Below.refl _ _).alloc (Nat.le_refl _) _)).mono ?_
    rintro e w3 ⟨rfl, hB3⟩
    have HB3 := Lib.hid ((HB2.out.alloc HB2.out.size _).trans (hB3.mono (HB2.out.alloc HB2.out.size _).size))
    clear hB3 HRR HCV HB2
    go_wp2_with fail
    go_ret
    exact ⟨rfl, HB3.out⟩
  · obtain ⟨hlen, hlen1, hsl0, hsl1⟩ := compM_le h b hok
    have HRC := Lib.hid (comp_right h b hok)
    have HSV := Lib.hid (compM_saves h b)
    have HRW := Lib.hid (show Tm.rightN (whole h b) = true by
      unfold compOk at hok
      rw [Bool.and_eq_true] at hok
      exact hok.1)
    have HC2 := Lib.hid (Compile_ren h b hok)
    rw [hok] at HC1
    have HC1 : Hid (Calls Try.prog 8 #[.agg #[.int .i64 k1, .string s1, .int .i64 x1, .slice a1 l1 c1, .int .i64 k2, .string s2, .int .i64 x2, .slice a2 l2 c2]] w1 (CpPostF w1 (compM h b) 0)) := HC1
    have HRD2 := Lib.hid (fun w2 hB => HRD.out w2 hB HRW.out)
    clear hok HRD HC HRW
    generalize Tm.ren (clM h b) h = h' at *
    generalize Tm.ren (clM h b) b = b' at *
    generalize compM h b = c at *
    go_wp2_with fail
    refine HC1.out.mono ?_
    rintro e w2 ⟨own2, v2, rfl, hcv, hB2, -⟩
    have HX2 := Lib.hid (Blk_same HX1.out hB2)
    have HB2 := Lib.hid (HB1.out.trans (hB2.mono HB1.out.size))
    obtain ⟨rv, rfl, hir⟩ := hcv
    obtain ⟨ra, rc, rfl⟩ := hir.shape
    clear hB2 HC1 HX1 y0 y1 y2 y3 y4 y5 y6 y7 yl HB1
    have hbx3 : Below w2.heap.size w2 (w2.alloc (.cells #[.string c.p.1, .int .i64 c.p.2, .int .i64 c.vs, .int .i64 c.slots, .slice ra c.is.length rc] 32)) := (Below.refl _ _).alloc (Nat.le_refl _) _
    have HX3 := Lib.hid (Blk_same HX2.out hbx3)
    have HXX3 := Lib.hid (Blk.new (own := fun _ => 0) (k := 0) w2 (.cells #[.string c.p.1, .int .i64 c.p.2, .int .i64 c.vs, .int .i64 c.slots, .slice ra c.is.length rc] 32) rfl)
    have HB3 := Lib.hid (HB2.out.trans (hbx3.mono HB2.out.size))
    have HIR3 := Lib.hid (IRow.still hir hbx3)
    clear hir hbx3 HX2 HB2
    have HRT := Lib.hid (fun wr (hB : Below (w2.alloc (.cells #[.string c.p.1, .int .i64 c.p.2, .int .i64 c.vs, .int .i64 c.slots, .slice ra c.is.length rc] 32)).heap.size (w2.alloc (.cells #[.string c.p.1, .int .i64 c.p.2, .int .i64 c.vs, .int .i64 c.slots, .slice ra c.is.length rc] 32)) wr) => Right_code c wr own2 _ (CdV.below ⟨_, rfl, HIR3.out⟩ hB) (by omega))
    rw [HRC.out] at HRT
    go_wp2_with fail
    generalize (w2.alloc (.cells #[.string c.p.1, .int .i64 c.p.2, .int .i64 c.vs, .int .i64 c.slots, .slice ra c.is.length rc] 32)) = w3 at *
    refine (HRT.out w3 (Below.refl _ _)).mono ?_
    rintro e w4 ⟨rfl, hB4⟩
    have hbx := Blk_same HXX3.out hB4
    have hir4 := IRow.still HIR3.out hB4
    obtain ⟨gz, cz, az, lz, cz2, hez, hgz, z0, -⟩ := hir4.get (i := c.is.length - 1) (by omega)
    injection hez with hez1 hez2 hez3
    subst hez1
    subst hez3
    rw [← lastOp_get c.is (by omega), rightC_last HRC.out] at z0
    have hidx : ((c.is.length : Int) - 1) = ((c.is.length - 1 : Nat) : Int) := by omega
    have hidx2 : c.is.length - 1 < c.is.length := by omega
    have hidx3 : ((c.is.length - 1 : Nat) : Int) < c.is.length := by omega
    obtain ⟨sn, hsn⟩ : ∃ sn : Nat, c.slots = (sn : Int) := ⟨c.slots.toNat, by omega⟩
    have hsn1 : sn ≤ 1000000 := by omega
    have y0 : w4.cell? ⟨w2.heap.size, 0, none⟩ = some (.string c.p.1) := hbx.cell 0
    have y1 : w4.cell? ⟨w2.heap.size, 1, none⟩ = some (.int .i64 c.p.2) := hbx.cell 1
    have y2 : w4.cell? ⟨w2.heap.size, 2, none⟩ = some (.int .i64 c.vs) := hbx.cell 2
    have y3 : w4.cell? ⟨w2.heap.size, 3, none⟩ = some (.int .i64 c.slots) := hbx.cell 3
    have y4 : w4.cell? ⟨w2.heap.size, 4, none⟩ = some (.slice (some ⟨gz, 0, none⟩) c.is.length rc) := hbx.cell 4
    have yl := hbx.lt
    have HB4 := Lib.hid hB4
    have hmk := make_int_any sn (sn : Int) rfl hsn1
    rw [hsn] at y3
    have HSN := Lib.hid hsn
    clear hB4 hbx hir4 hez2 HRT hsn
    go_wp2_with fail
    have HROW5 := Lib.hid (row_made w4 (fun _ => 0) 5 sn hsn1)
    have hE5 : Ext (fun c => c = 5) w4 (w4.alloc (.cells (irow (List.replicate sn 0)).toArray 3)) (fun _ => 0) (ow (fun _ => 0) w4.heap.size 5) := (Ext.refl.ow 5).alloc _
    have hw3 : ∀ bb, bb < w3.heap.size → (ow (fun _ => 0) w4.heap.size 5) bb = 0 := fun bb hb => ow_lt (by have := HB4.out.size; omega)
    have HW3 := Lib.hid hw3
    have HB5 := Lib.hid (HB4.out.alloc HB4.out.size (.cells (irow (List.replicate sn 0)).toArray 3))
    clear hE5 hw3 HB4 z0 y0 y1 y2 y3 y4 yl hmk hidx hidx2 hidx3 hgz
    generalize (w4.alloc (.cells (irow (List.replicate sn 0)).toArray 3)) = w5 at *
    generalize (ow (fun _ => 0) w4.heap.size 5) = own5 at *
    generalize w4.heap.size = bs at *
    go_loopg [56] c.is.length (fun g iv wr => SvInv w5 own5 bs c.is sn g iv wr)
    case atStart => exact ⟨own5, 0, List.replicate sn 0, rfl, by omega, by simp, fun a ha => by simp [List.getD_eq_getElem?_getD, List.getElem?_replicate, ha, fin], HROW5.out, Ext.refl⟩
    case round =>
      obtain ⟨ownr, i, svs, rfl, hi, hsl, hsv, hrow, hEr⟩ := hrel
      have hB5r : Below w3.heap.size w3 wr := HB5.out.trans ⟨hEr.os, hEr.tape, hEr.output, hEr.size, fun bb hb => hEr.same bb (by have := HB5.out.size; omega) (by rw [HW3.out bb hb]; decide)⟩
      have hbx := Blk_same HXX3.out hB5r
      have y0 : wr.cell? ⟨w2.heap.size, 0, none⟩ = some (.string c.p.1) := hbx.cell 0
      have y1 : wr.cell? ⟨w2.heap.size, 1, none⟩ = some (.int .i64 c.p.2) := hbx.cell 1
      have y2 : wr.cell? ⟨w2.heap.size, 2, none⟩ = some (.int .i64 c.vs) := hbx.cell 2
      have y4 : wr.cell? ⟨w2.heap.size, 4, none⟩ = some (.slice (some ⟨gz, 0, none⟩) c.is.length rc) := hbx.cell 4
      have yl := hbx.lt
      have HSL := Lib.hid hsl
      have HSVV := Lib.hid hsv
      have HROW := Lib.hid hrow
      have HER := Lib.hid hEr
      have HB5R := Lib.hid hB5r
      have hir5 := IRow.still HIR3.out hB5r
      by_cases hlt : i < c.is.length
      · have hlt2 : (i : Int) < c.is.length := by omega
        obtain ⟨g2, a3, l3, c3, he, hg2, q0, q1, q2, q3, q4, q5, -⟩ := hir5.get6 hlt
        injection he with he
        injection he with he
        subst he
        have HCK := Lib.hid (chk_at (fun _ => 0) c.is i hlt HSV.out.1)
        have HSLOT := Lib.hid (fun (ho : c.is[i].op = 6 ∨ c.is[i].op = 7) => (show 0 ≤ c.is[i].a ∧ c.is[i].a < (sn : Int) by have := right_slot HRC.out i hlt ho; rwa [HSN.out] at this))
        have HK := Lib.hid (sv_keep hsv hlt)
        have HST := Lib.hid (fun n => sv_set (n := n) hsv hsl hlt)
        have hboxE : Ext (fun c => c = 5) wr (wr.alloc (.cells #[.int .i64 c.is[i].op, .int .i64 c.is[i].a, .int .i64 c.is[i].t.k, .string c.is[i].t.s, .int .i64 c.is[i].t.x, .slice a3 l3 c3] 48)) ownr (ow ownr wr.heap.size 0) := ext_box 0 _
        have HE2 := Lib.hid (hEr.trans hboxE)
        have HROW2 := Lib.hid ((Row_ow hrow 0).alloc (.cells #[.int .i64 c.is[i].op, .int .i64 c.is[i].a, .int .i64 c.is[i].t.k, .string c.is[i].t.s, .int .i64 c.is[i].t.x, .slice a3 l3 c3] 48))
        have HROW1 := Lib.hid hrow
        clear hrow hEr hB5r hbx hsl hsv hir5 hboxE
        generalize c.is[i].op = io at *
        generalize c.is[i].a = ia at *
        generalize c.is[i].t = it at *
        generalize Tm.k it = ik at *
        generalize Tm.s it = iss at *
        generalize Tm.x it = ix at *
        by_cases o6 : io = 6
        · subst o6
          obtain ⟨n1, n2⟩ := HSLOT.out (.inl rfl)
          obtain ⟨n, rfl⟩ : ∃ n : Nat, ia = (n : Int) := ⟨ia.toNat, by omega⟩
          have hn : n < sn := by omega
          have hn2 : (n : Int) < sn := by omega
          obtain ⟨gq, hgq, hgl, hgc, hgf, hgx, hgv⟩ := HROW1.out.irow_at hn
          injection hgq with hgq
          injection hgq with hgq
          subst hgq
          have hfl := fin_le (c.is.take i) (fun _ => 0) (n : Int)
          rw [← HSVV.out n hn, List.length_take] at hfl
          have hgd : svs.getD n 0 = svs[n] := by simp [List.getD_eq_getElem?_getD, hgx]
          rw [← hgd] at hgv
          have hfl1 : 0 ≤ svs.getD n 0 := by simpa using hfl.1
          have hfl2 : svs.getD n 0 ≤ 1000000 := by have := hfl.2; omega
          have HST2 := Lib.hid (HST.out n rfl rfl hn)
          have HLS := Lib.hid (show (svs.set n (svs.getD n 0 + 1)).length = sn by rw [List.length_set]; exact HSL.out)
          have hE1 : Ext (fun c => c = 5) w5 (wr.setCell ⟨bs, n, none⟩ (.int .i64 (svs.getD n 0 + 1))) own5 ownr := HER.out.setCell (a := ⟨bs, n, none⟩) (fun hb => by
            have h1 := HER.out.col bs hb
            rw [hgc] at h1
            exact h1.symm) _
          have HSET := Lib.hid ((Row_ow (HROW1.out.irow_set hn (svs.getD n 0 + 1)) 0).alloc (.cells #[.int .i64 6, .int .i64 (n : Int), .int .i64 ik, .string iss, .int .i64 ix, .slice a3 l3 c3] 48))
          have HE3 := Lib.hid (hE1.trans (ext_box 0 (.cells #[.int .i64 6, .int .i64 (n : Int), .int .i64 ik, .string iss, .int .i64 ix, .slice a3 l3 c3] 48)))
          clear hE1
          clear hfl hgd HST HROW1 HSVV HSLOT HCK HK
          generalize svs.getD n 0 = sv at *
          go_wp2_with fail
          go_roundg (c.is.length - (i + 1))
          case measure => omega
          case rel => exact ⟨_, i + 1, _, by go_num, by omega, HLS.out, HST2.out, HSET.out, HE3.out⟩
        · have HK2 := Lib.hid (HK.out o6)
          have b6 : (io == 6) = false := by simp [o6]
          by_cases o7 : io = 7
          · subst o7
            obtain ⟨n1, n2⟩ := HSLOT.out (.inr rfl)
            obtain ⟨n, rfl⟩ : ∃ n : Nat, ia = (n : Int) := ⟨ia.toNat, by omega⟩
            have hn : n < sn := by omega
            have hn2 : (n : Int) < sn := by omega
            obtain ⟨gq, hgq, hgl, hgc, hgf, hgx, hgv⟩ := HROW1.out.irow_at hn
            injection hgq with hgq
            injection hgq with hgq
            subst hgq
            have hgd : svs.getD n 0 = svs[n] := by simp [List.getD_eq_getElem?_getD, hgx]
            rw [← hgd, HSVV.out n hn, HCK.out rfl] at hgv
            clear hgd HROW1 HSVV HSLOT HCK HK HST
            go_wp2_with fail
            go_roundg (c.is.length - (i + 1))
            case measure => omega
            case rel => exact ⟨_, i + 1, _, by go_num, by omega, HSL.out, HK2.out, HROW2.out, HE2.out⟩
          · have b7 : (io == 7) = false := by simp [o7]
            clear HROW1 HSVV HSLOT HCK HK HST
            go_wp2_with fail
            go_roundg (c.is.length - (i + 1))
            case measure => omega
            case rel => exact ⟨_, i + 1, _, by go_num, by omega, HSL.out, HK2.out, HROW2.out, HE2.out⟩
      · obtain rfl : i = c.is.length := by omega
        rw [List.take_length] at hsv
        have HONE := Lib.hid (fun (n : Nat) (hn : n < sn) => (show svs.getD n 0 = 1 from (hsv n hn).trans (HSV.out.2 n (by omega) (by rw [HSN.out]; omega))))
        clear hsv HSVV hrow hEr hir5 hbx y0 y1 y2 y4 yl HER
        go_wp2_with fail
        generalize wr = w5b at *
        go_loopg [82] sn (fun g iv wq => OrInv w5b sn g iv wq)
        case atStart => exact ⟨0, rfl, by omega, Below.refl _ _⟩
        case round =>
          clear hi
          obtain ⟨i, rfl, hi, hBq⟩ := hrel
          have HBQ := Lib.hid hBq
          by_cases hlt : i < sn
          · have hlt2 : (i : Int) < sn := by omega
            obtain ⟨gq, hgq, hgl, hgc, hgf, hgx, hgv⟩ := HROW.out.irow_at hlt
            injection hgq with hgq
            injection hgq with hgq
            subst hgq
            have hgd : svs.getD i 0 = svs[i] := by simp [List.getD_eq_getElem?_getD, hgx]
            rw [← hgd, HONE.out i hlt] at hgv
            have hgv2 : wr.cell? ⟨bs, i, none⟩ = some (.int .i64 1) := by rw [hBq.cell (p := ⟨bs, i, none⟩) hgl]; exact hgv
            have hgl2 : bs < wr.heap.size := by have := hBq.size; omega
            clear hgd hgv hgl hgc hgf hBq
            go_wp2_with fail
            go_roundg (sn - (i + 1))
            case measure => omega
            case rel => exact ⟨i + 1, by go_num, by omega, HBQ.out⟩
          · obtain rfl : i = sn := by omega
            have hB3q := hB5r.trans (hBq.mono hB5r.size)
            have HB3Q := Lib.hid hB3q
            have hbx := Blk_same HX3.out hB3q
            have HXQ := Lib.hid hbx
            have y0 := hbx.cell 0
            have y1 := hbx.cell 1
            have y2 := hbx.cell 2
            have y3 := hbx.cell 3
            have y4 := hbx.cell 4
            have y5 := hbx.cell 5
            have y6 := hbx.cell 6
            have y7 := hbx.cell 7
            simp at y0 y1 y2 y3 y4 y5 y6 y7
            have yl := hbx.lt
            have HRD3 := Lib.hid (HRD2.out wr (HB3.out.trans (hB3q.mono HB3.out.size)))
            clear hB3q hbx hBq hB5r HROW HONE HRD2 HSL HB5R HB5 HW3 HROW5
            go_wp2_with fail
            refine HRD3.out.mono ?_
            rintro e w6 ⟨a5, l5, c5, a6, l6, c6, rfl, ht1, ht2, hB6⟩
            have HB6 := Lib.hid (HB3Q.out.trans (hB6.mono HB3Q.out.size))
            have HC3 := Lib.hid (HC2.out w6 _ _ _ _ _ _ _ ht1 ht2)
            clear ht1 ht2 hB6 HRD3 HC2 y0 y1 y2 y3 y4 y5 y6 y7 yl HXQ HB3Q HBQ
            generalize Tm.k h' = k5 at *
            generalize Tm.s h' = s5 at *
            generalize Tm.x h' = x5 at *
            generalize Tm.k b' = k6 at *
            generalize Tm.s b' = s6 at *
            generalize Tm.x b' = x6 at *
            go_wp2_with fail
            refine HC3.out.mono ?_
            rintro e w7 ⟨own7, v7, rfl, hcv7, hB7, hfr7⟩
            have HCV7 := Lib.hid hcv7
            obtain ⟨rv7, rfl, hir7⟩ := hcv7
            obtain ⟨ra7, rc7, rfl⟩ := hir7.shape
            have hbx8 : Below w7.heap.size w7 (w7.alloc (.cells #[.string c.p.1, .int .i64 c.p.2, .int .i64 c.vs, .int .i64 c.slots, .slice ra7 c.is.length rc7] 32)) := (Below.refl _ _).alloc (Nat.le_refl _) _
            have hB37 := HB6.out.trans (hB7.mono HB6.out.size)
            have hB38 := hB37.trans (hbx8.mono hB37.size)
            have HB38 := Lib.hid hB38
            have HFR7 := Lib.hid (show ∀ bb, bb < w3.heap.size → own7 bb ≠ 2 from fun bb hb => hfr7 bb (by have := HB6.out.size; omega))
            have HIR8 := Lib.hid (IRow.still hir7 hbx8)
            have HYY := Lib.hid (Blk.new (own := fun _ => 0) (k := 0) w7 (.cells #[.string c.p.1, .int .i64 c.p.2, .int .i64 c.vs, .int .i64 c.slots, .slice ra7 c.is.length rc7] 32) rfl)
            have HXX8 := Lib.hid (Blk_same HXX3.out hB38)
            have hbx := Blk_same HXX3.out hB37
            have y0 := hbx.cell 0
            have y1 := hbx.cell 1
            have y2 := hbx.cell 2
            have y4 := hbx.cell 4
            have yl := hbx.lt
            simp at y0 y1 y2 y4
            clear hbx8 hB37 hB38 hfr7 hir7 hbx hB7 HC3 HB6
            have HIRX := Lib.hid (IRow.still HIR3.out HB38.out)
            go_wp2_with fail
            generalize (w7.alloc (.cells #[.string c.p.1, .int .i64 c.p.2, .int .i64 c.vs, .int .i64 c.slots, .slice ra7 c.is.length rc7] 32)) = w8 at *
            have HIR3k := HIR3
            have HXX3k := HXX3
            clear y0 y1 y2 y4 yl HIR3 HXX3 HX3 hlt
            go_loopg [116] c.is.length (fun g iv wr => OrInv w8 c.is.length g iv wr)
            case atStart => exact ⟨0, rfl, by omega, Below.refl _ _⟩
            case round =>
              clear hi
              obtain ⟨i, rfl, hi, hBl⟩ := hrel
              have hb0 := Blk_same HXX8.out hBl
              have hb1 := Blk_same HYY.out hBl
              have z3 : wr.cell? ⟨w2.heap.size, 4, none⟩ = some (.slice (some ⟨gz, 0, none⟩) c.is.length rc) := hb0.cell 4
              have z4 : wr.cell? ⟨w7.heap.size, 4, none⟩ = some (.slice ra7 c.is.length rc7) := hb1.cell 4
              have HBL := Lib.hid hBl
              have HBW := Lib.hid (HB38.out.trans (hBl.mono HB38.out.size))
              by_cases hlt : i < c.is.length
              · have hlt2 : (i : Int) < c.is.length := by omega
                obtain ⟨gx, a3, l3, c3, hee, hg1, x0, x1, x2, x3, x4, x5, ht1⟩ := (IRow.still HIRX.out hBl).get6 hlt
                injection hee with hee
                injection hee with hee
                subst hee
                obtain ⟨g2, a4, l4, c4, rfl, hg2, y0, y1, y2, y3, y4, y5, ht2⟩ := (IRow.still HIR8.out hBl).get6 hlt
                have HF : Hid (FactsB [(⟨w2.heap.size, 4, none⟩, .slice (some ⟨gz, 0, none⟩) c.is.length rc), (⟨w7.heap.size, 4, none⟩, .slice (some ⟨g2, 0, none⟩) c.is.length rc7), (⟨gz, i * 6, none⟩, .int .i64 c.is[i].op), (⟨gz, i * 6 + 1, none⟩, .int .i64 c.is[i].a), (⟨gz, i * 6 + 2, none⟩, .int .i64 c.is[i].t.k), (⟨gz, i * 6 + 3, none⟩, .string c.is[i].t.s), (⟨gz, i * 6 + 4, none⟩, .int .i64 c.is[i].t.x), (⟨gz, i * 6 + 5, none⟩, .slice a3 l3 c3), (⟨g2, i * 6, none⟩, .int .i64 c.is[i].op), (⟨g2, i * 6 + 1, none⟩, .int .i64 c.is[i].a), (⟨g2, i * 6 + 2, none⟩, .int .i64 c.is[i].t.k), (⟨g2, i * 6 + 3, none⟩, .string c.is[i].t.s), (⟨g2, i * 6 + 4, none⟩, .int .i64 c.is[i].t.x), (⟨g2, i * 6 + 5, none⟩, .slice a4 l4 c4)] wr.drew) :=
                  Lib.hid ⟨⟨z3, hb0.lt⟩, ⟨z4, hb1.lt⟩, ⟨x0, hg1⟩, ⟨x1, hg1⟩, ⟨x2, hg1⟩, ⟨x3, hg1⟩, ⟨x4, hg1⟩, ⟨x5, hg1⟩, ⟨y0, hg2⟩, ⟨y1, hg2⟩, ⟨y2, hg2⟩, ⟨y3, hg2⟩, ⟨y4, hg2⟩, ⟨y5, hg2⟩, trivial⟩
                have HI := Lib.hid (Like_self c.is[i].t wr.drew (fun _ => True) _ _ (ht1.carry (w' := wr.drew) (C' := fun _ => True) (Nat.le_refl _) fun g hg hc => ⟨rfl, hc⟩) (ht2.carry (w' := wr.drew) (C' := fun _ => True) (Nat.le_refl _) fun g hg hc => ⟨rfl, hc⟩))
                have HBD := Lib.hid (HBL.out.drew)
                clear ht1 ht2 x0 x1 x2 x3 x4 x5 y0 y1 y2 y3 y4 y5 hBl hb0 hb1
                generalize hop : c.is[i].op = op at *
                generalize c.is[i].a = ia at *
                generalize c.is[i].t = u at *
                generalize Tm.k u = ku at *
                generalize Tm.s u = su at *
                generalize Tm.x u = xu at *
                clear hop
                go_wp2_with fail
                refine wp_region_plan3 [(true, 0, [1, 3, 4, 5, 12, 13, 14, 15, 16, 17, 18, 19, 20, 21, 22, 23, 24, 25, 26, 27, 28, 29, 30, 31, 32, 33, 34, 35, 36, 37, 38, 39, 40, 41, 42, 43]), (true, 1, [3, 4, 5, 12, 13, 14, 15, 16, 17, 18, 19, 20, 21, 22, 23, 24, 25, 26, 27, 28, 29, 30, 31, 32, 33, 34, 35, 36, 37, 38, 39, 40, 41, 42, 43]), (true, 2, [3, 4, 5, 12, 13, 14, 15, 16, 17, 18, 19, 20, 21, 22, 23, 24, 25, 26, 27, 28, 29, 30, 31, 32, 33, 34, 35, 36, 37, 38, 39, 40, 41, 42, 43]), (true, 3, [4, 5, 12, 13, 14, 15, 16, 17, 18, 19, 20, 21, 22, 23, 24, 25, 26, 27, 28, 29, 30, 31, 32, 33, 34, 35, 36, 37, 38, 39, 40, 41, 42, 43]), (true, 4, [5, 12, 13, 14, 15, 16, 17, 18, 19, 20, 21, 22, 23, 24, 25, 26, 27, 28, 29, 30, 31, 32, 33, 34, 35, 36, 37, 38, 39, 40, 41, 42, 43]), (true, 5, [12, 13, 14, 15, 16, 17, 18, 19, 20, 21, 22, 23, 24, 25, 26, 27, 28, 29, 30, 31, 32, 33, 34, 35, 36, 37, 38, 39, 40, 41, 42, 43]), (true, 6, [7, 9, 10, 11, 12, 13, 14, 15, 16, 17, 18, 19, 20, 21, 22, 23, 24, 25, 26, 27, 28, 29, 30, 31, 32, 33, 34, 35, 36, 37, 38, 39, 40, 41, 42, 43]), (true, 7, [9, 10, 11, 12, 13, 14, 15, 16, 17, 18, 19, 20, 21, 22, 23, 24, 25, 26, 27, 28, 29, 30, 31, 32, 33, 34, 35, 36, 37, 38, 39, 40, 41, 42, 43]), (true, 8, [9, 10, 11, 12, 13, 14, 15, 16, 17, 18, 19, 20, 21, 22, 23, 24, 25, 26, 27, 28, 29, 30, 31, 32, 33, 34, 35, 36, 37, 38, 39, 40, 41, 42, 43]), (true, 9, [10, 11, 12, 13, 14, 15, 16, 17, 18, 19, 20, 21, 22, 23, 24, 25, 26, 27, 28, 29, 30, 31, 32, 33, 34, 35, 36, 37, 38, 39, 40, 41, 42, 43]), (true, 10, [11, 12, 13, 14, 15, 16, 17, 18, 19, 20, 21, 22, 23, 24, 25, 26, 27, 28, 29, 30, 31, 32, 33, 34, 35, 36, 37, 38, 39, 40, 41, 42, 43]), (true, 11, [12, 13, 14, 15, 16, 17, 18, 19, 20, 21, 22, 23, 24, 25, 26, 27, 28, 29, 30, 31, 32, 33, 34, 35, 36, 37, 38, 39, 40, 41, 42, 43]), (true, 12, [13, 14, 15, 16, 17, 18, 19, 20, 21, 22, 23, 24, 25, 26, 27, 28, 29, 30, 31, 32, 33, 34, 35, 36, 37, 38, 39, 40, 41, 42, 43]), (true, 13, [14, 15, 16, 17, 18, 19, 20, 21, 22, 23, 24, 25, 26, 27, 28, 29, 30, 31, 32, 33, 34, 35, 36, 37, 38, 39, 40, 41, 42, 43]), (true, 14, [15, 17, 18, 19, 26, 27, 28, 29, 30, 31, 32, 33, 34, 35, 36, 37, 38, 39, 40, 41, 42, 43]), (true, 15, [17, 18, 19, 26, 27, 28, 29, 30, 31, 32, 33, 34, 35, 36, 37, 38, 39, 40, 41, 42, 43]), (true, 16, [17, 18, 19, 26, 27, 28, 29, 30, 31, 32, 33, 34, 35, 36, 37, 38, 39, 40, 41, 42, 43]), (true, 17, [18, 19, 26, 27, 28, 29, 30, 31, 32, 33, 34, 35, 36, 37, 38, 39, 40, 41, 42, 43]), (true, 18, [19, 26, 27, 28, 29, 30, 31, 32, 33, 34, 35, 36, 37, 38, 39, 40, 41, 42, 43]), (true, 19, [26, 27, 28, 29, 30, 31, 32, 33, 34, 35, 36, 37, 38, 39, 40, 41, 42, 43]), (true, 20, [21, 23, 24, 25, 26, 27, 28, 29, 30, 31, 32, 33, 34, 35, 36, 37, 38, 39, 40, 41, 42, 43]), (true, 21, [23, 24, 25, 26, 27, 28, 29, 30, 31, 32, 33, 34, 35, 36, 37, 38, 39, 40, 41, 42, 43]), (true, 22, [23, 24, 25, 26, 27, 28, 29, 30, 31, 32, 33, 34, 35, 36, 37, 38, 39, 40, 41, 42, 43]), (true, 23, [24, 25, 26, 27, 28, 29, 30, 31, 32, 33, 34, 35, 36, 37, 38, 39, 40, 41, 42, 43]), (true, 24, [25, 26, 27, 28, 29, 30, 31, 32, 33, 34, 35, 36, 37, 38, 39, 40, 41, 42, 43]), (true, 25, [26, 27, 28, 29, 30, 31, 32, 33, 34, 35, 36, 37, 38, 39, 40, 41, 42, 43]), (true, 26, [27, 28, 29, 30, 31, 32, 33, 34, 35, 36, 37, 38, 39, 40, 41, 42, 43]), (true, 27, [28, 29, 30, 31, 32, 33, 34, 35, 36, 37, 38, 39, 40, 41, 42, 43]), (true, 28, [29, 30, 31, 32, 33, 34, 35, 36, 37, 38, 39, 40, 41, 42, 43]), (true, 29, [30, 32, 33, 34, 41, 42, 43]), (true, 30, [32, 33, 34, 41, 42, 43]), (true, 31, [32, 33, 34, 41, 42, 43]), (true, 32, [33, 34, 41, 42, 43]), (true, 33, [34, 41, 42, 43]), (true, 34, [41, 42, 43]), (true, 35, [36, 38, 39, 40, 41, 42, 43]), (true, 36, [38, 39, 40, 41, 42, 43]), (true, 37, [38, 39, 40, 41, 42, 43]), (true, 38, [39, 40, 41, 42, 43]), (true, 39, [40, 41, 42, 43]), (true, 40, [41, 42, 43]), (false, 41, []), (true, 42, [43]), (true, 43, [])] (Facts _) (by kernel_rfl) (by kernel_rfl) (fun _ _ _ d _ h => by cases d <;> exact h) (FactsB.facts HF.out) ?_
                clear z3 z4
                generalize wr.drew = w3 at *
                iterate 41
                  apply plan3_early
                  case hi => rfl
                  case h =>
                    intro w9 hf
                    simp only [Facts] at hf
                    obtain ⟨z0, z1, z2, z3, z4, z5, z6, z7, z8, z9, z10, z11, z12, z13, _⟩ := hf
                    still_step
                    exact wpStill_nil rfl
                refine plan3_big rfl ?_
                go_wp2_with fail
                refine HI.out.mono ?_
                rintro e w4 ⟨rfl, hB4⟩
                have HF4 := Lib.hid (FactsB.below hB4 HF.out)
                have HB4 := Lib.hid (HBD.out.trans (hB4.mono HBD.out.size))
                clear hB4 HI HF
                go_wp2_with fail
                refine ⟨FactsB.facts HF4.out, ?_⟩
                iterate 2
                  apply plan3_early
                  case hi => rfl
                  case h =>
                    intro w9 hf
                    clear hf
                    still_step
                    exact wpStill_nil rfl
                refine plan3_nil ?_
                go_wp2_with fail
                go_roundg (c.is.length - (i + 1))
                case measure => omega
                case rel => exact ⟨i + 1, by go_num, by omega, HB4.out⟩
              · obtain rfl : i = c.is.length := by omega
                have hB3r := HB38.out.trans (hBl.mono HB38.out.size)
                have HB3R := Lib.hid hB3r
                have HBWR := Lib.hid (HB3.out.trans (hB3r.mono HB3.out.size))
                have hbxx := Blk_same HXX8.out hBl
                have hbyy := Blk_same HYY.out hBl
                have y4 : wr.cell? ⟨w7.heap.size, 4, none⟩ = some (.slice ra7 c.is.length rc7) := hbyy.cell 4
                have yl := hbyy.lt
                have HIX := Lib.hid (IRow.still HIRX.out hBl)
                have HIY := Lib.hid (IRow.still HIR8.out hBl)
                have HBXX := Lib.hid hbxx
                have HBYY := Lib.hid hbyy
                clear hB3r hbxx hbyy hBl hb0 hb1 z3 z4 HBL HBW HXX8 HYY HIR8 HB38
                by_cases a0 : ai < 0
                · go_wp2_with fail
                  go_ret
                  exact ⟨rfl, HBWR.out⟩
                by_cases a1' : (c.is.length : Int) ≤ ai
                · go_wp2_with fail
                  go_ret
                  exact ⟨rfl, HBWR.out⟩
                obtain ⟨n, rfl⟩ : ∃ n : Nat, ai = (n : Int) := ⟨ai.toNat, by omega⟩
                have hn : n < c.is.length := by omega
                have hn2 : (n : Int) < c.is.length := by omega
                obtain ⟨g7, cc7, he7, hg7, hgc7, hf1, hf2, hq0, hq1, hsp⟩ := HIY.out.spoil hn
                injection he7 with he7 _ he8
                subst he7
                subst he8
                have HSPR := Lib.hid (spoil_right (op := opv) (a := tov) hn)
                have HIS := Lib.hid (hsp opv tov)
                have hg73 : w3.heap.size ≤ g7 := by
                  apply Classical.byContradiction
                  intro hlt
                  exact HFR7.out g7 (by omega) hgc7
                have hE9 : Ext (fun c => c = 2) wr ((wr.setCell ⟨g7, n * 6, none⟩ (.int .i64 opv)).setCell ⟨g7, n * 6 + 1, none⟩ (.int .i64 tov)) own7 own7 := (Ext.refl.setCell (a := ⟨g7, n * 6, none⟩) (fun _ => hgc7) _).setCell (a := ⟨g7, n * 6 + 1, none⟩) (fun _ => hgc7) _
                have hB39 : Below w3.heap.size w3 ((wr.setCell ⟨g7, n * 6, none⟩ (.int .i64 opv)).setCell ⟨g7, n * 6 + 1, none⟩ (.int .i64 tov)) := HB3R.out.trans ⟨hE9.os, hE9.tape, hE9.output, hE9.size, fun bb hb => hE9.same bb (by have := HB3R.out.size; omega) (HFR7.out bb hb)⟩
                have hne1 : w7.heap.size ≠ g7 := fun e => by
                  obtain ⟨xs, hrow, _⟩ := HIY.out
                  obtain ⟨g', _, _, he, hb, _⟩ := hrow.cells (by omega)
                  injection he with he
                  injection he with he
                  injection he with he
                  have h1 := hb.at_
                  rw [← he, ← e, HBYY.out.at_] at h1
                  injection h1 with h1
                  injection h1 with _ h1
                  exact absurd h1 (by decide)
                have HBY9 := Lib.hid ((HBYY.out.setCell_other (a := ⟨g7, n * 6, none⟩) hne1 (.int .i64 opv)).setCell_other (a := ⟨g7, n * 6 + 1, none⟩) hne1 (.int .i64 tov))
                have hb9 := HBY9.out
                have HBYY1 := Lib.hid (HBYY.out.setCell_other (a := ⟨g7, n * 6, none⟩) hne1 (.int .i64 opv))
                have HB39 := Lib.hid hB39
                have HBW9 := Lib.hid (HB3.out.trans (hB39.mono HB3.out.size))
                clear hE9 hB39 hsp HIX HIY a0 a1' HBYY
                have u4 : (wr.setCell ⟨g7, n * 6, none⟩ (.int .i64 opv)).cell? ⟨w7.heap.size, 4, none⟩ = some (.slice (some ⟨g7, 0, none⟩) c.is.length rc7) := (HBYY1.out).cell 4
                have v0 : ((wr.setCell ⟨g7, n * 6, none⟩ (.int .i64 opv)).setCell ⟨g7, n * 6 + 1, none⟩ (.int .i64 tov)).cell? ⟨w7.heap.size, 0, none⟩ = some (.string c.p.1) := hb9.cell 0
                have v1 : ((wr.setCell ⟨g7, n * 6, none⟩ (.int .i64 opv)).setCell ⟨g7, n * 6 + 1, none⟩ (.int .i64 tov)).cell? ⟨w7.heap.size, 1, none⟩ = some (.int .i64 c.p.2) := hb9.cell 1
                have v2 : ((wr.setCell ⟨g7, n * 6, none⟩ (.int .i64 opv)).setCell ⟨g7, n * 6 + 1, none⟩ (.int .i64 tov)).cell? ⟨w7.heap.size, 2, none⟩ = some (.int .i64 c.vs) := hb9.cell 2
                have v3 : ((wr.setCell ⟨g7, n * 6, none⟩ (.int .i64 opv)).setCell ⟨g7, n * 6 + 1, none⟩ (.int .i64 tov)).cell? ⟨w7.heap.size, 3, none⟩ = some (.int .i64 c.slots) := hb9.cell 3
                have v4 : ((wr.setCell ⟨g7, n * 6, none⟩ (.int .i64 opv)).setCell ⟨g7, n * 6 + 1, none⟩ (.int .i64 tov)).cell? ⟨w7.heap.size, 4, none⟩ = some (.slice (some ⟨g7, 0, none⟩) c.is.length rc7) := hb9.cell 4
                have HRY := Lib.hid (fun wq (hB : Below ((wr.setCell ⟨g7, n * 6, none⟩ (.int .i64 opv)).setCell ⟨g7, n * 6 + 1, none⟩ (.int .i64 tov)).heap.size ((wr.setCell ⟨g7, n * 6, none⟩ (.int .i64 opv)).setCell ⟨g7, n * 6 + 1, none⟩ (.int .i64 tov)) wq) => Right_code { c with is := spoil c.is n opv tov } wq own7 _ (CdV.below ⟨_, rfl, HIS.out⟩ hB) (by show (spoil c.is n opv tov).length ≤ _; rw [spoil_len]; omega))
                have HLO := Lib.hid (spoil_len c.is n opv tov)
                clear hb9
                go_wp2_with fail
                clear u4 v0 v1 v2 v3 v4 y4 yl hf1 hf2 hq0 hq1 HBYY1
                have hbx9 := Blk_same HXX3k.out HB39.out
                have HXX9 := Lib.hid hbx9
                have HIX9 := Lib.hid (IRow.still HIR3k.out HB39.out)
                clear hbx9
                generalize ((wr.setCell ⟨g7, n * 6, none⟩ (.int .i64 opv)).setCell ⟨g7, n * 6 + 1, none⟩ (.int .i64 tov)) = w9 at *
                refine (HRY.out w9 (Below.refl _ _)).mono ?_
                rintro e w10 ⟨rfl, hB10⟩
                have hby := Blk_same HBY9.out hB10
                have hbxx := Blk_same HXX9.out hB10
                have HB10 := Lib.hid (HBW9.out.trans (hB10.mono HBW9.out.size))
                have hiy := IRow.still HIS.out hB10
                have hix := IRow.still HIX9.out hB10
                cases hrr : rightC { c with is := spoil c.is n opv tov }
                · have u0 : w10.cell? ⟨w2.heap.size, 0, none⟩ = some (.string c.p.1) := hbxx.cell 0
                  have u1 : w10.cell? ⟨w2.heap.size, 1, none⟩ = some (.int .i64 c.p.2) := hbxx.cell 1
                  have u2 : w10.cell? ⟨w2.heap.size, 2, none⟩ = some (.int .i64 c.vs) := hbxx.cell 2
                  have u3 : w10.cell? ⟨w2.heap.size, 3, none⟩ = some (.int .i64 c.slots) := hbxx.cell 3
                  have u4 : w10.cell? ⟨w2.heap.size, 4, none⟩ = some (.slice (some ⟨gz, 0, none⟩) c.is.length rc) := hbxx.cell 4
                  have ul := hbxx.lt
                  have HRX := Lib.hid (Right_code c w10 own2 (.agg #[.string c.p.1, .int .i64 c.p.2, .int .i64 c.vs, .int .i64 c.slots, .slice (some ⟨gz, 0, none⟩) c.is.length rc]) ⟨_, rfl, hix⟩ (by omega))
                  rw [HRC.out] at HRX
                  clear hby hbxx hiy hix hB10
                  go_wp2_with fail
                  refine HRX.out.mono ?_
                  rintro e w11 ⟨rfl, hB11⟩
                  have HB11 := Lib.hid (HB10.out.trans (hB11.mono HB10.out.size))
                  clear HRX hB11 u0 u1 u2 u3 u4 ul
                  go_wp2_with fail
                  go_ret
                  exact ⟨rfl, HB11.out⟩
                · obtain ⟨o1, o2, o3, o4⟩ := HSPR.out hrr
                  have v4 : w10.cell? ⟨w7.heap.size, 4, none⟩ = some (.slice (some ⟨g7, 0, none⟩) c.is.length rc7) := hby.cell 4
                  have vl := hby.lt
                  obtain ⟨gq, cq, aq, lq, cq2, heq, hgq, z0, -⟩ := hiy.get (i := c.is.length - 1) (by rw [HLO.out]; omega)
                  injection heq with heq hx2 hx3
                  clear hx2 hx3
                  injection heq with heq
                  injection heq with heq
                  subst heq
                  have hls := lastOp_get (spoil c.is n opv tov) (by rw [HLO.out]; omega)
                  simp only [HLO.out] at hls
                  rw [← hls, o4] at z0
                  have hidx : ((c.is.length : Int) - 1) = ((c.is.length - 1 : Nat) : Int) := by omega
                  have hidx2 : c.is.length - 1 < c.is.length := by omega
                  have hidx3 : ((c.is.length - 1 : Nat) : Int) < c.is.length := by omega
                  clear hby hbxx hiy hix hB10 hrr hls o4
                  by_cases o8 : opv < 8
                  · go_wp2_with fail
                    go_ret
                    exact ⟨rfl, HB10.out⟩
                  · have o0 : tov = 0 := by omega
                    subst o0
                    go_wp2_with fail
                    go_ret
                    exact ⟨rfl, HB10.out⟩
end Go.Proofs.Ytamiidklcadkmaa
