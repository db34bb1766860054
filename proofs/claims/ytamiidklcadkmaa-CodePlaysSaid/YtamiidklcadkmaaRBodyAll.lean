/- The document's Body, disjunctions, conditions, negations, calls; whole. Printed by gen_rbody.py. -/
import Derived.Test.YtamiidklcadkmaaRBodyE
set_option maxRecDepth 20000
set_option linter.unusedVariables false
set_option linter.unusedSimpArgs false
namespace Go.Proofs.Ytamiidklcadkmaa
open Go.RowKit Go.PM
set_option maxHeartbeats 8000000 in
theorem rbody_semi (n : Nat) (ih : RBodyOk n) (t : Tm) (n0 : Nat) (w : World) (k : Int) (s : ByteArray) (x : Int) (a : Option Addr) (l c : Nat) (cop ca free : Int) (hn0 : n0 ≤ w.heap.size) (hv : TmV w (fun g => g < n0) t (.agg #[.int .i64 k, .string s, .int .i64 x, .slice a l c])) (hf0 : 0 ≤ free) (hf1 : free + 4 * Tm.sz t ≤ 1000000) (hsz : 12 * (Tm.sz t : Int) ≤ 1000000) (hdp : Tm.dp t ≤ ((n + 1 : Nat) : Int)) (k3 : k ≠ 3) (hs : Tm.two t sSemi = true) (ha : Tm.two (targ t 0) sArrow = false) :
    Calls Try.prog 48 #[.agg #[.int .i64 k, .string s, .int .i64 x, .slice a l c], .agg #[.int .i64 cop, .int .i64 ca, .int .i64 0, .string noStr, .int .i64 0, .slice none 0 0], .int .i64 free] w (PcRet n0 w (bd (n + 1) t (In0 cop ca) free)) := by
  obtain ⟨hb0, hb1, hb2, hB0, hz0⟩ := three_new w (.cells #[.int .i64 k, .string s, .int .i64 x, .slice a l c] 24) (.cells #[.int .i64 cop, .int .i64 ca, .int .i64 0, .string noStr, .int .i64 0, .slice none 0 0] 75) (.cells #[.slice none 0 0, .int .i64 0] 95)
  have H0 := Lib.hid hb0
  have H1 := Lib.hid hb1
  have H2 := Lib.hid hb2
  have HB0 := Lib.hid hB0
  have HZ0 := Lib.hid hz0
  have HV := Lib.hid (fun w2 (hB : Below w.heap.size w w2) => TmV.below hv hB)
  obtain ⟨ek, es, ex, -, -, -, hat⟩ := TmV_at hv
  obtain ⟨hl2, -⟩ := at_len hat
  have HL2 := Lib.hid hl2
  have HB := HB0
  clear hb0 hb1 hb2 hB0 hz0 hv hat hl2
  have hb3 : (k == 3) = false := by simp [k3]
  have hna : ∀ ns, ¬ Tm.atom t ns = true := fun ns => by unfold Tm.atom; rw [← ek]; simp [k3]
  obtain ⟨hk4, hlen, hszz⟩ := two_sz hs
  have hnc : Tm.two t sComma = false := two_ne hs (by decide)
  have hnr : Tm.two t sArrow = false := two_ne hs (by decide)
  have hd0 := arg_dp hk4 (i := 0) (by omega)
  have hd1 := arg_dp hk4 (i := 1) (by omega)
  have hbd : bd (n + 1) t (In0 cop ca) free = ([In0 4 (((bd n (targ t 0) (In0 cop ca) free).1.length : Int) + 2)] ++ ((bd n (targ t 0) (In0 cop ca) free).1 ++ ([In0 5 (((bd n (targ t 1) (In0 cop ca) (bd n (targ t 0) (In0 cop ca) free).2).1.length : Int) + 1)] ++ (bd n (targ t 1) (In0 cop ca) (bd n (targ t 0) (In0 cop ca) free).2).1)), (bd n (targ t 1) (In0 cop ca) (bd n (targ t 0) (In0 cop ca) free).2).2) := by
    rw [bd, if_neg (hna _), if_neg (hna _), if_neg (hna _), if_neg (by rw [hnc]; decide), if_neg (by unfold Tm.ite; rw [ha, Bool.and_false]; decide), if_neg (by rw [hnr]; decide), if_pos hs]
  rw [hbd]
  obtain rfl : l = 2 := by rw [HL2.out]; exact hlen
  obtain ⟨gt, off, rfl, hgt0, hargs⟩ := args_all (HV.out _ (Below.refl _ _)) (by omega)
  obtain ⟨a0, l0, c0, hA0⟩ := hargs 0 (by omega)
  obtain ⟨a1, l1, c1, hA1⟩ := hargs 1 (by omega)
  simp only [Nat.zero_mul, Nat.one_mul, Nat.add_zero] at hA0 hA1
  have HA0 := Lib.hid hA0
  have HA1 := Lib.hid hA1
  have hX := bd_le n (targ t 0) (In0 cop ca) free
  have hY := bd_le n (targ t 1) (In0 cop ca) (bd n (targ t 0) (In0 cop ca) free).2
  clear hbd hargs hA0 hA1 hna ek es ex
  generalize targ t 0 = t0 at *
  generalize targ t 1 = t1 at *
  generalize hXX : bd n t0 (In0 cop ca) free = X at *
  generalize hYY : bd n t1 (In0 cop ca) X.2 = Y at *
  have EX := Lib.hid hXX
  have EY := Lib.hid hYY
  obtain ⟨hX1, hX2, hX3⟩ := hX
  obtain ⟨hY1, hY2, hY3⟩ := hY
  have p0 := sz_pos t0
  have p1 := sz_pos t1
  clear hXX hYY
  have h1 := hnc
  have h2 := hs
  have h3 := ha
  have h4 := hnr
  clear hnc hs ha hnr
  go_enter Try.func48, Try.ntmps48
  go_wp2_with fail
  have hq := rtwo_any t sComma _ _ _ (HV.out _ HB.out)
  rw [h1] at hq
  refine hq.mono ?_
  rintro e w4 ⟨rfl, hB⟩
  have HB4 := Lib.hid (HB.out.trans (hB.mono HB.out.size))
  have hb0 := Blk_same H0.out hB
  have hb1 := Blk_same H1.out hB
  have hb2 := Blk_same H2.out hB
  have H04 := Lib.hid hb0
  have H14 := Lib.hid hb1
  have H24 := Lib.hid hb2
  have z0 : w4.cell? ⟨w.heap.size, 0, none⟩ = some (.int .i64 k) := hb0.cell 0
  have z1 : w4.cell? ⟨w.heap.size, 1, none⟩ = some (.string s) := hb0.cell 1
  have z2 : w4.cell? ⟨w.heap.size, 2, none⟩ = some (.int .i64 x) := hb0.cell 2
  have z3 : w4.cell? ⟨w.heap.size, 3, none⟩ = some (.slice (some ⟨gt, off, none⟩) 2 c) := hb0.cell 3
  have lz := hb0.lt
  clear hq hB hb0 hb1 hb2 H0 H1 H2 HB
  go_wp2_with fail
  have hq := rtwo_any t sSemi _ _ _ (HV.out _ HB4.out)
  rw [h2] at hq
  refine hq.mono ?_
  rintro e w5 ⟨rfl, hB⟩
  have HB5 := Lib.hid (HB4.out.trans (hB.mono HB4.out.size))
  have hb0 := Blk_same H04.out hB
  have hb1 := Blk_same H14.out hB
  have hb2 := Blk_same H24.out hB
  have H05 := Lib.hid hb0
  have H15 := Lib.hid hb1
  have H25 := Lib.hid hb2
  have z0 : w5.cell? ⟨w.heap.size, 0, none⟩ = some (.int .i64 k) := hb0.cell 0
  have z1 : w5.cell? ⟨w.heap.size, 1, none⟩ = some (.string s) := hb0.cell 1
  have z2 : w5.cell? ⟨w.heap.size, 2, none⟩ = some (.int .i64 x) := hb0.cell 2
  have z3 : w5.cell? ⟨w.heap.size, 3, none⟩ = some (.slice (some ⟨gt, off, none⟩) 2 c) := hb0.cell 3
  have lz := hb0.lt
  clear hq hB hb0 hb1 hb2 H04 H14 H24 HB4
  have hgt5 : gt < w5.heap.size := by have := HB5.out.size; omega
  obtain ⟨x0, x1, x2, x3, -⟩ := HA0.out _ HB5.out
  go_wp2_with fail
  clear x0 x1 x2 x3 hgt5 z0 z1 z2 z3 lz
  have hB := HB5.out
  obtain ⟨-, -, -, -, ht⟩ := HA0.out _ hB
  have hq := rtwo_any t0 sArrow _ _ _ ht
  rw [h3] at hq
  refine hq.mono ?_
  rintro e w6 ⟨rfl, hB⟩
  have HB6 := Lib.hid (HB5.out.trans (hB.mono HB5.out.size))
  have H06 := Lib.hid (Blk_same H05.out hB)
  have H16 := Lib.hid (Blk_same H15.out hB)
  have H26 := Lib.hid (Blk_same H25.out hB)
  have hb0 := H06.out
  have z0 : w6.cell? ⟨w.heap.size, 0, none⟩ = some (.int .i64 k) := hb0.cell 0
  have z1 : w6.cell? ⟨w.heap.size, 1, none⟩ = some (.string s) := hb0.cell 1
  have z2 : w6.cell? ⟨w.heap.size, 2, none⟩ = some (.int .i64 x) := hb0.cell 2
  have z3 : w6.cell? ⟨w.heap.size, 3, none⟩ = some (.slice (some ⟨gt, off, none⟩) 2 c) := hb0.cell 3
  have lz := hb0.lt
  clear hq hB hb0 ht H05 H15 H25 HB5
  go_wp2_with fail
  have hq := rtwo_any t sArrow _ _ _ (HV.out _ HB6.out)
  rw [h4] at hq
  refine hq.mono ?_
  rintro e w7 ⟨rfl, hB⟩
  have HB7 := Lib.hid (HB6.out.trans (hB.mono HB6.out.size))
  have hb0 := Blk_same H06.out hB
  have hb1 := Blk_same H16.out hB
  have hb2 := Blk_same H26.out hB
  have H07 := Lib.hid hb0
  have H17 := Lib.hid hb1
  have H27 := Lib.hid hb2
  have z0 : w7.cell? ⟨w.heap.size, 0, none⟩ = some (.int .i64 k) := hb0.cell 0
  have z1 : w7.cell? ⟨w.heap.size, 1, none⟩ = some (.string s) := hb0.cell 1
  have z2 : w7.cell? ⟨w.heap.size, 2, none⟩ = some (.int .i64 x) := hb0.cell 2
  have z3 : w7.cell? ⟨w.heap.size, 3, none⟩ = some (.slice (some ⟨gt, off, none⟩) 2 c) := hb0.cell 3
  have lz := hb0.lt
  clear hq hB hb0 hb1 hb2 H06 H16 H26 HB6
  go_wp2_with fail
  have hq := rtwo_any t sSemi _ _ _ (HV.out _ HB7.out)
  rw [h2] at hq
  refine hq.mono ?_
  rintro e w8 ⟨rfl, hB⟩
  have HB8 := Lib.hid (HB7.out.trans (hB.mono HB7.out.size))
  have hb0 := Blk_same H07.out hB
  have hb1 := Blk_same H17.out hB
  have hb2 := Blk_same H27.out hB
  have H08 := Lib.hid hb0
  have H18 := Lib.hid hb1
  have H28 := Lib.hid hb2
  have z0 : w8.cell? ⟨w.heap.size, 0, none⟩ = some (.int .i64 k) := hb0.cell 0
  have z1 : w8.cell? ⟨w.heap.size, 1, none⟩ = some (.string s) := hb0.cell 1
  have z2 : w8.cell? ⟨w.heap.size, 2, none⟩ = some (.int .i64 x) := hb0.cell 2
  have z3 : w8.cell? ⟨w.heap.size, 3, none⟩ = some (.slice (some ⟨gt, off, none⟩) 2 c) := hb0.cell 3
  have lz := hb0.lt
  clear hq hB hb0 hb1 hb2 H07 H17 H27 HB7
  clear h1 h2 h3 h4
  have hb0 := H08.out
  have hb1 := H18.out
  have hgt : gt < w8.heap.size := by have := HB8.out.size; omega
  obtain ⟨x0, x1, x2, x3, ht⟩ := HA0.out _ HB8.out
  have HF : Hid (FactsB [(⟨w.heap.size, 3, none⟩, .slice (some ⟨gt, off, none⟩) 2 c), (⟨gt, off, none⟩, .int .i64 (Tm.k t0)), (⟨gt, off + 1, none⟩, .string (Tm.s t0)), (⟨gt, off + 2, none⟩, .int .i64 (Tm.x t0)), (⟨gt, off + 3, none⟩, .slice a0 l0 c0), (⟨w.heap.size + 1, 0, none⟩, .int .i64 cop), (⟨w.heap.size + 1, 1, none⟩, .int .i64 ca), (⟨w.heap.size + 1, 2, none⟩, .int .i64 0), (⟨w.heap.size + 1, 3, none⟩, .string noStr), (⟨w.heap.size + 1, 4, none⟩, .int .i64 0), (⟨w.heap.size + 1, 5, none⟩, .slice none 0 0)] w8.drew) := Lib.hid ⟨⟨hb0.cell 3, hb0.lt⟩, ⟨x0, hgt⟩, ⟨x1, hgt⟩, ⟨x2, hgt⟩, ⟨x3, hgt⟩, ⟨hb1.cell 0, hb1.lt⟩, ⟨hb1.cell 1, hb1.lt⟩, ⟨hb1.cell 2, hb1.lt⟩, ⟨hb1.cell 3, hb1.lt⟩, ⟨hb1.cell 4, hb1.lt⟩, ⟨hb1.cell 5, hb1.lt⟩, trivial⟩
  have HT := Lib.hid (fun w9 (hB : Below w8.drew.heap.size w8.drew w9) => (ih t0 n0 w9 _ _ _ _ _ _ cop ca free (by have h1 := hB.size; have h2 := HB8.out.size; have h3 : w8.drew.heap.size = w8.heap.size := rfl; omega) (TmV.below (w := w8.drew) (ht.carry (w' := w8.drew) (Nat.le_refl _) fun g hg hc => ⟨rfl, hc⟩) hB) hf0 (by omega) (by omega) (by omega)))
  rw [EX.out] at HT
  clear hb0 hb1 hgt x0 x1 x2 x3 ht z0 z1 z2 z3 lz
  go_wp2_with fail
  refine wp_region_plan5 [.early 0 [1, 2, 3, 6, 8], .early 1 [2, 3, 6, 8], .early 2 [3, 6, 8], .early 3 [6, 8], .early 4 [6, 8], .early 5 [6, 8], .block [6, 7], .big 8] 8 (Facts _) (by kernel_rfl) (by kernel_rfl) (fun _ _ _ d _ h => by cases d <;> exact h) (FactsB.facts HF.out) ?_
  have HBD := Lib.hid HB8.out.drew
  have H0D := Lib.hid H08.out.drew
  have H1D := Lib.hid H18.out.drew
  have H2D := Lib.hid H28.out.drew
  clear H08 H18 H28 HB8
  generalize w8.drew = wd at *
  iterate 6
    apply plan5_early
    case hi => rfl
    case h =>
      intro w9 hf
      simp only [Facts] at hf
      obtain ⟨z0, z1, z2, z3, z4, z5, z6, z7, z8, z9, z10, _⟩ := hf
      still_step
      exact wpStill_nil rfl
  refine plan5_new [(6, PoPiece n0 X), (7, PoBox wd.heap.size)] rfl (fun w9 hB => FactsB.facts (FactsB.below hB HF.out)) ⟨PoPiece.stable n0 X, PoBox.stable _, trivial⟩ ?_ ?_
  · refine obl_cons [] rfl (by kernel_rfl) (fun vs w9 _ hR hP => ?_) (obl_cons [] rfl (by kernel_rfl) (fun vs w9 _ hR hP => ?_) obl_nil)
    · simp only [putD]
      go_wp2_with fail
      refine (HT.out w9 hR).mono ?_
      rintro e w10 ⟨pv, rfl, hr, hB⟩
      go_wp2_with fail
      exact ⟨_, rfl, (), hB, pv, rfl, hr⟩
    · simp only [putD]
      go_wp2_with fail
      exact ⟨_, rfl, (), (Below.refl _ _).alloc (Nat.le_refl _) _, PoBox.new _ w9 (Below.size hR)⟩
  intro vs w9 hB hP
  obtain ⟨⟨pvba, hv1, hr1⟩, ⟨ba, hv2, hbm, hb⟩, _⟩ := hP
  refine plan5_after [(6, 128), (7, 9)] [] (by kernel_rfl) ?_
  simp only [putD, hv1, hv2]
  clear hv1 hv2
  have hwd := HBD.out.size
  have hB9 := HBD.out.trans (hB.mono HBD.out.size)
  obtain ⟨k1, k2, k3⟩ := box_set (w := w) (X := X) hb hB9 (by omega) hn0 hr1
  have hb0 := (Blk_same H0D.out hB)
  have hb1 := (Blk_same H1D.out hB)
  have hb2 := (Blk_same H2D.out hB)
  have hl0 := H0D.out.lt
  have hl1 := H1D.out.lt
  have hl2 := H2D.out.lt
  have HB80 := Lib.hid k1
  have HXba := Lib.hid k2
  have HRba := Lib.hid k3
  have H080 := Lib.hid (Blk.put_oth hb0 (b := ba) (by omega) [pvba, .int .i64 X.2])
  have H180 := Lib.hid (Blk.put_oth hb1 (b := ba) (by omega) [pvba, .int .i64 X.2])
  have H280 := Lib.hid (Blk.put_oth hb2 (b := ba) (by omega) [pvba, .int .i64 X.2])
  have hbq0 : w.heap.size + 1 + 1 < ba := by omega
  have f0 := hb.free 0
  have f1 := hb.free 1
  have lb := hb.lt
  have d0 : w9.cell? ⟨ba, 0, none⟩ = some (.slice none 0 0) := hb.cell 0
  have d1 : w9.cell? ⟨ba, 1, none⟩ = some (.int .i64 0) := hb.cell 1
  obtain ⟨paba, pcba, rfl⟩ := hr1.shape
  clear k1 k2 k3 hb0 hb1 hb2 hl0 hl1 hl2 hwd hB9 hB hr1 H0D H1D H2D HBD HF HT hb hbm
  refine plan5_big rfl ?_
  go_wp2_with fail
  refine ⟨fun h => absurd rfl h, plan5_nil ?_⟩
  simp only [putCells, Nat.reduceAdd] at HB80 HXba HRba H080 H180 H280
  generalize (w9.setCell ⟨ba, 0, none⟩ (.slice paba X.1.length pcba)).setCell ⟨ba, 1, none⟩ (.int .i64 X.2) = w80 at *
  clear f0 f1 lb d0 d1
  have hb0 := H080.out
  have hb1 := H180.out
  have hbx := HXba.out
  have hgt : gt < w80.heap.size := by have := HB80.out.size; omega
  obtain ⟨x0, x1, x2, x3, ht⟩ := HA1.out _ HB80.out
  have HF : Hid (FactsB [(⟨w.heap.size, 3, none⟩, .slice (some ⟨gt, off, none⟩) 2 c), (⟨gt, off + 4, none⟩, .int .i64 (Tm.k t1)), (⟨gt, off + 4 + 1, none⟩, .string (Tm.s t1)), (⟨gt, off + 4 + 2, none⟩, .int .i64 (Tm.x t1)), (⟨gt, off + 4 + 3, none⟩, .slice a1 l1 c1), (⟨w.heap.size + 1, 0, none⟩, .int .i64 cop), (⟨w.heap.size + 1, 1, none⟩, .int .i64 ca), (⟨w.heap.size + 1, 2, none⟩, .int .i64 0), (⟨w.heap.size + 1, 3, none⟩, .string noStr), (⟨w.heap.size + 1, 4, none⟩, .int .i64 0), (⟨w.heap.size + 1, 5, none⟩, .slice none 0 0), (⟨ba, 1, none⟩, .int .i64 X.2)] w80.drew) := Lib.hid ⟨⟨hb0.cell 3, hb0.lt⟩, ⟨x0, hgt⟩, ⟨x1, hgt⟩, ⟨x2, hgt⟩, ⟨x3, hgt⟩, ⟨hb1.cell 0, hb1.lt⟩, ⟨hb1.cell 1, hb1.lt⟩, ⟨hb1.cell 2, hb1.lt⟩, ⟨hb1.cell 3, hb1.lt⟩, ⟨hb1.cell 4, hb1.lt⟩, ⟨hb1.cell 5, hb1.lt⟩, ⟨hbx.cell 1, hbx.lt⟩, trivial⟩
  have HT := Lib.hid (fun w9 (hB : Below w80.drew.heap.size w80.drew w9) => (ih t1 n0 w9 _ _ _ _ _ _ cop ca X.2 (by have h1 := hB.size; have h2 := HB80.out.size; have h3 : w80.drew.heap.size = w80.heap.size := rfl; omega) (TmV.below (w := w80.drew) (ht.carry (w' := w80.drew) (Nat.le_refl _) fun g hg hc => ⟨rfl, hc⟩) hB) (by omega) (by omega) (by omega) (by omega)))
  rw [EY.out] at HT
  clear hb0 hb1 hbx hgt x0 x1 x2 x3 ht
  go_wp2_with fail
  refine wp_region_plan5 [.early 0 [1, 2, 3, 7, 9], .early 1 [2, 3, 7, 9], .early 2 [3, 7, 9], .early 3 [7, 9], .early 4 [7, 9], .early 5 [6, 7, 9], .early 6 [7, 9], .block [7, 8], .big 9] 9 (Facts _) (by kernel_rfl) (by kernel_rfl) (fun _ _ _ d _ h => by cases d <;> exact h) (FactsB.facts HF.out) ?_
  have HBD := Lib.hid HB80.out.drew
  have H0D := Lib.hid H080.out.drew
  have H1D := Lib.hid H180.out.drew
  have H2D := Lib.hid H280.out.drew
  have HXbaD := Lib.hid HXba.out.drew
  have HRbaD := Lib.hid ((HRba.out).carry (w' := w80.drew) (Nat.le_refl _) (fun _ _ _ => rfl) fun _ _ hc => ⟨rfl, hc⟩)
  clear H080 H180 H280 HB80 HXba HRba
  generalize w80.drew = wd at *
  iterate 7
    apply plan5_early
    case hi => rfl
    case h =>
      intro w9 hf
      simp only [Facts] at hf
      obtain ⟨z0, z1, z2, z3, z4, z5, z6, z7, z8, z9, z10, z11, _⟩ := hf
      still_step
      exact wpStill_nil rfl
  refine plan5_new [(7, PoPiece n0 Y), (8, PoBox wd.heap.size)] rfl (fun w9 hB => FactsB.facts (FactsB.below hB HF.out)) ⟨PoPiece.stable n0 Y, PoBox.stable _, trivial⟩ ?_ ?_
  · refine obl_cons [] rfl (by kernel_rfl) (fun vs w9 _ hR hP => ?_) (obl_cons [] rfl (by kernel_rfl) (fun vs w9 _ hR hP => ?_) obl_nil)
    · simp only [putD]
      go_wp2_with fail
      refine (HT.out w9 hR).mono ?_
      rintro e w10 ⟨pv, rfl, hr, hB⟩
      go_wp2_with fail
      exact ⟨_, rfl, (), hB, pv, rfl, hr⟩
    · simp only [putD]
      go_wp2_with fail
      exact ⟨_, rfl, (), (Below.refl _ _).alloc (Nat.le_refl _) _, PoBox.new _ w9 (Below.size hR)⟩
  intro vs w9 hB hP
  obtain ⟨⟨pvbb, hv1, hr1⟩, ⟨bb, hv2, hbm, hb⟩, _⟩ := hP
  refine plan5_after [(7, 136), (8, 10)] [] (by kernel_rfl) ?_
  simp only [putD, hv1, hv2]
  clear hv1 hv2
  have hwd := HBD.out.size
  have hB9 := HBD.out.trans (hB.mono HBD.out.size)
  obtain ⟨k1, k2, k3⟩ := box_set (w := w) (X := Y) hb hB9 (by omega) hn0 hr1
  have hb0 := (Blk_same H0D.out hB)
  have hb1 := (Blk_same H1D.out hB)
  have hb2 := (Blk_same H2D.out hB)
  have hl0 := H0D.out.lt
  have hl1 := H1D.out.lt
  have hl2 := H2D.out.lt
  have HB81 := Lib.hid k1
  have HXbb := Lib.hid k2
  have HRbb := Lib.hid k3
  have H081 := Lib.hid (Blk.put_oth hb0 (b := bb) (by omega) [pvbb, .int .i64 Y.2])
  have H181 := Lib.hid (Blk.put_oth hb1 (b := bb) (by omega) [pvbb, .int .i64 Y.2])
  have H281 := Lib.hid (Blk.put_oth hb2 (b := bb) (by omega) [pvbb, .int .i64 Y.2])
  have hbq0 : w.heap.size + 1 + 1 < bb := by omega
  have hbx := Blk_same HXbaD.out hB
  have hlx := HXbaD.out.lt
  have hrx := HRbaD.out.below hB
  have HXba := Lib.hid (Blk.put_oth hbx (b := bb) (by omega) [pvbb, .int .i64 Y.2])
  have HRba := Lib.hid (hrx.put hb (by decide) (by omega) [pvbb, .int .i64 Y.2])
  clear hbx hlx hrx HXbaD HRbaD
  have f0 := hb.free 0
  have f1 := hb.free 1
  have lb := hb.lt
  have d0 : w9.cell? ⟨bb, 0, none⟩ = some (.slice none 0 0) := hb.cell 0
  have d1 : w9.cell? ⟨bb, 1, none⟩ = some (.int .i64 0) := hb.cell 1
  obtain ⟨pabb, pcbb, rfl⟩ := hr1.shape
  clear k1 k2 k3 hb0 hb1 hb2 hl0 hl1 hl2 hwd hB9 hB hr1 H0D H1D H2D HBD HF HT hb hbm
  refine plan5_big rfl ?_
  go_wp2_with fail
  refine ⟨fun h => absurd rfl h, plan5_nil ?_⟩
  simp only [putCells, Nat.reduceAdd] at HB81 HXbb HRbb H081 H181 H281 HXba HRba
  generalize (w9.setCell ⟨bb, 0, none⟩ (.slice pabb Y.1.length pcbb)).setCell ⟨bb, 1, none⟩ (.int .i64 Y.2) = w81 at *
  clear f0 f1 lb d0 d1
  have HF : Hid (FactsB [(⟨ba, 0, none⟩, .slice paba X.1.length pcba), (⟨bb, 0, none⟩, .slice pabb Y.1.length pcbb), (⟨bb, 1, none⟩, .int .i64 Y.2)] w81.drew) := Lib.hid ⟨⟨HXba.out.cell 0, HXba.out.lt⟩, ⟨HXbb.out.cell 0, HXbb.out.lt⟩, ⟨HXbb.out.cell 1, HXbb.out.lt⟩, trivial⟩
  go_wp2_with fail
  refine wp_region_plan5 [.early 0 [1, 2, 3, 4, 11, 14, 15, 18, 19], .early 1 [2, 3, 4, 11, 14, 15, 18, 19], .early 2 [3, 4, 11, 14, 15, 18, 19], .early 3 [4, 11, 14, 15, 18, 19], .early 5 [6, 14, 15, 18, 19], .early 6 [14, 15, 18, 19], .early 7 [8, 9, 10, 11, 14, 15, 18, 19], .early 8 [9, 10, 11, 14, 15, 18, 19], .early 9 [10, 11, 14, 15, 18, 19], .early 10 [11, 14, 15, 18, 19], .early 12 [13, 14, 15, 18, 19], .early 13 [14, 15, 18, 19], .early 16 [17, 18, 19], .early 17 [18, 19], .big 4, .big 11, .big 14, .big 15, .early 18 [19], .big 19] 19 (Facts _) (by kernel_rfl) (by kernel_rfl) (fun _ _ _ d _ h => by cases d <;> exact h) (FactsB.facts HF.out) ?_
  have HBD := Lib.hid HB81.out.drew
  have H2D := Lib.hid H281.out.drew
  have HRDba := Lib.hid ((HRba.out).carry (w' := w81.drew) (Nat.le_refl _) (fun _ _ _ => rfl) fun _ _ hc => ⟨rfl, hc⟩)
  have HRDbb := Lib.hid ((HRbb.out).carry (w' := w81.drew) (Nat.le_refl _) (fun _ _ _ => rfl) fun _ _ hc => ⟨rfl, hc⟩)
  clear H281 HB81 HRba HXba HRbb HXbb
  generalize w81.drew = wd0 at *
  iterate 14
    apply plan5_early
    case hi => rfl
    case h =>
      intro w9 hf
      simp only [Facts] at hf
      obtain ⟨z0, z1, z2, _⟩ := hf
      still_step
      exact wpStill_nil rfl
  refine plan5_big rfl ?_
  go_wp2_with fail
  refine (one_any (fun g => g < n0) 4 ((X.1.length : Int) + 2) _).mono ?_
  rintro e wd1 ⟨vo0, rfl, hr, hB⟩
  have HRo0 := Lib.hid hr
  have HF' := Lib.hid (FactsB.below hB HF.out)
  have HB' := Lib.hid (HBD.out.trans (hB.mono HBD.out.size))
  have H2' := Lib.hid (Blk_same H2D.out hB)
  have HRDba' := Lib.hid (HRDba.out.below hB)
  have HRDbb' := Lib.hid (HRDbb.out.below hB)
  obtain ⟨ao0, co0, rfl⟩ := hr.shape
  clear hr hB HF HBD H2D HRDba HRDbb
  have HF := HF'
  have HBD := HB'
  have H2D := H2'
  have HRDba := HRDba'
  have HRDbb := HRDbb'
  clear HF' HB' H2' HRDba' HRDbb'
  go_wp2_with fail
  refine ⟨fun _ => FactsB.facts HF.out, ?_⟩
  refine plan5_big rfl ?_
  go_wp2_with fail
  refine (one_any (fun g => g < n0) 5 ((Y.1.length : Int) + 1) _).mono ?_
  rintro e wd2 ⟨vo1, rfl, hr, hB⟩
  have HRo1 := Lib.hid hr
  have HF' := Lib.hid (FactsB.below hB HF.out)
  have HB' := Lib.hid (HBD.out.trans (hB.mono HBD.out.size))
  have H2' := Lib.hid (Blk_same H2D.out hB)
  have HRDba' := Lib.hid (HRDba.out.below hB)
  have HRDbb' := Lib.hid (HRDbb.out.below hB)
  have HRo0' := Lib.hid (HRo0.out.below hB)
  obtain ⟨ao1, co1, rfl⟩ := hr.shape
  clear hr hB HF HBD H2D HRDba HRDbb HRo0
  have HF := HF'
  have HBD := HB'
  have H2D := H2'
  have HRDba := HRDba'
  have HRDbb := HRDbb'
  have HRo0 := HRo0'
  clear HF' HB' H2' HRDba' HRDbb' HRo0'
  go_wp2_with fail
  refine ⟨fun _ => FactsB.facts HF.out, ?_⟩
  have HPC := Lib.hid (pcs_new (n := 4) (c := 4) (T := 36) (vs := [.slice ao0 [In0 4 ((X.1.length : Int) + 2)].length co0, .slice paba X.1.length pcba, .slice ao1 [In0 5 ((Y.1.length : Int) + 1)].length co1, .slice pabb Y.1.length pcbb]) (ps := [[In0 4 ((X.1.length : Int) + 2)], X.1, [In0 5 ((Y.1.length : Int) + 1)], Y.1]) ⟨HRo0.out, HRDba.out, HRo1.out, HRDbb.out, trivial⟩ rfl)
  have hfl : [[In0 4 ((X.1.length : Int) + 2)], X.1, [In0 5 ((Y.1.length : Int) + 1)], Y.1].flatten = [In0 4 ((X.1.length : Int) + 2)] ++ (X.1 ++ ([In0 5 ((Y.1.length : Int) + 1)] ++ Y.1)) := by simp 
  have hlenf : [[In0 4 ((X.1.length : Int) + 2)], X.1, [In0 5 ((Y.1.length : Int) + 1)], Y.1].flatten.length ≤ 1000000 := by rw [hfl]; simp only [List.length_append, List.length_cons, List.length_nil]; omega
  refine plan5_big rfl ?_
  go_wp2_with fail
  have hBq : Below wd2.heap.size wd2 (wd2.alloc (.cells #[.slice ao0 [In0 4 ((X.1.length : Int) + 2)].length co0, .slice paba X.1.length pcba, .slice ao1 [In0 5 ((Y.1.length : Int) + 1)].length co1, .slice pabb Y.1.length pcbb] 36)) := (Below.refl _ _).alloc (Nat.le_refl _) _
  have HF' := Lib.hid (FactsB.below hBq HF.out)
  have HB' := Lib.hid (HBD.out.trans (hBq.mono HBD.out.size))
  have H2' := Lib.hid (Blk_same H2D.out hBq)
  clear hBq HF HBD H2D
  refine ⟨fun _ => FactsB.facts HF'.out, ?_⟩
  refine plan5_big rfl ?_
  go_wp2_with fail
  refine (join_any [[In0 4 ((X.1.length : Int) + 2)], X.1, [In0 5 ((Y.1.length : Int) + 1)], Y.1] _ _ _ HPC.out hlenf (by show 4 ≤ 1000; decide)).mono ?_
  rintro e wj ⟨vj, rfl, hrj, hB⟩
  rw [hfl] at hrj
  have HF := Lib.hid (FactsB.below hB HF'.out)
  have HRJ := Lib.hid hrj
  have HBJ := Lib.hid (HB'.out.trans (hB.mono HB'.out.size))
  have hb2 := Blk_same H2'.out hB
  have H2J := Lib.hid hb2
  obtain ⟨aj, lj, cj, rfl⟩ : ∃ aj lj cj, vj = Value.slice aj lj cj := by
    obtain ⟨a', c', h'⟩ := hrj.shape
    exact ⟨_, _, _, h'⟩
  have f0 := hb2.free 0
  have f1 := hb2.free 1
  have l2 := hb2.lt
  have d0 : wj.cell? ⟨w.heap.size + 1 + 1, 0, none⟩ = some (.slice none 0 0) := hb2.cell 0
  have d1 : wj.cell? ⟨w.heap.size + 1 + 1, 1, none⟩ = some (.int .i64 0) := hb2.cell 1
  clear hb2 hB hrj HF' HB' H2' HPC hfl hlenf
  go_wp2_with fail
  refine ⟨fun _ => FactsB.facts HF.out, ?_⟩
  iterate 1
    apply plan5_early
    case hi => rfl
    case h =>
      intro w9 hf
      simp only [Facts] at hf
      obtain ⟨z0, z1, z2, _⟩ := hf
      still_step
      exact wpStill_nil rfl
  refine plan5_big rfl ?_
  go_wp2_with fail
  refine ⟨fun h => absurd rfl h, plan5_nil ?_⟩
  go_wp2_with fail
  have hend := Blk.putCells (cs := [.slice none 0 0, .int .i64 0]) (vs := [.slice aj lj cj, .int .i64 Y.2]) H2J.out rfl
  have hp := pc_end (f := Y.2) HRJ.out H2J.out HBJ.out (b := w.heap.size + 1 + 1) (by omega) hn0
  simp only [putCells, Nat.reduceAdd] at hend hp
  refine bodyPost_ret (results_cell_row rfl _ _ (w.heap.size + 1 + 1) 95 _ _ _ rfl hend.at_ Try.underlying95 rfl (by kernel_rfl)) rfl ?_
  exact hp
set_option maxHeartbeats 8000000 in
theorem rbody_ite (n : Nat) (ih : RBodyOk n) (t : Tm) (n0 : Nat) (w : World) (k : Int) (s : ByteArray) (x : Int) (a : Option Addr) (l c : Nat) (cop ca free : Int) (hn0 : n0 ≤ w.heap.size) (hv : TmV w (fun g => g < n0) t (.agg #[.int .i64 k, .string s, .int .i64 x, .slice a l c])) (hf0 : 0 ≤ free) (hf1 : free + 4 * Tm.sz t ≤ 1000000) (hsz : 12 * (Tm.sz t : Int) ≤ 1000000) (hdp : Tm.dp t ≤ ((n + 1 : Nat) : Int)) (k3 : k ≠ 3) (hs : Tm.two t sSemi = true) (ha : Tm.two (targ t 0) sArrow = true) :
    Calls Try.prog 48 #[.agg #[.int .i64 k, .string s, .int .i64 x, .slice a l c], .agg #[.int .i64 cop, .int .i64 ca, .int .i64 0, .string noStr, .int .i64 0, .slice none 0 0], .int .i64 free] w (PcRet n0 w (bd (n + 1) t (In0 cop ca) free)) := by
  obtain ⟨hb0, hb1, hb2, hB0, hz0⟩ := three_new w (.cells #[.int .i64 k, .string s, .int .i64 x, .slice a l c] 24) (.cells #[.int .i64 cop, .int .i64 ca, .int .i64 0, .string noStr, .int .i64 0, .slice none 0 0] 75) (.cells #[.slice none 0 0, .int .i64 0] 95)
  have H0 := Lib.hid hb0
  have H1 := Lib.hid hb1
  have H2 := Lib.hid hb2
  have HB0 := Lib.hid hB0
  have HZ0 := Lib.hid hz0
  have HV := Lib.hid (fun w2 (hB : Below w.heap.size w w2) => TmV.below hv hB)
  obtain ⟨ek, es, ex, -, -, -, hat⟩ := TmV_at hv
  obtain ⟨hl2, -⟩ := at_len hat
  have HL2 := Lib.hid hl2
  have HB := HB0
  clear hb0 hb1 hb2 hB0 hz0 hv hat hl2
  have hb3 : (k == 3) = false := by simp [k3]
  have hna : ∀ ns, ¬ Tm.atom t ns = true := fun ns => by unfold Tm.atom; rw [← ek]; simp [k3]
  obtain ⟨hk4, hlen, hszz⟩ := two_sz hs
  obtain ⟨hk40, hlen0, hszz0⟩ := two_sz ha
  have hnc : Tm.two t sComma = false := two_ne hs (by decide)
  have hd00 := arg_dp hk40 (i := 0) (by omega)
  have hd01 := arg_dp hk40 (i := 1) (by omega)
  have hd0 := arg_dp hk4 (i := 0) (by omega)
  have hd1 := arg_dp hk4 (i := 1) (by omega)
  have hbd : bd (n + 1) t (In0 cop ca) free = (eitherP (bd n (targ (targ t 0) 0) (In0 7 (free + 1)) (free + 2)).1 (bd n (targ (targ t 0) 1) (In0 cop ca) (bd n (targ (targ t 0) 0) (In0 7 (free + 1)) (free + 2)).2).1 (bd n (targ t 1) (In0 cop ca) (bd n (targ (targ t 0) 1) (In0 cop ca) (bd n (targ (targ t 0) 0) (In0 7 (free + 1)) (free + 2)).2).2).1 free, (bd n (targ t 1) (In0 cop ca) (bd n (targ (targ t 0) 1) (In0 cop ca) (bd n (targ (targ t 0) 0) (In0 7 (free + 1)) (free + 2)).2).2).2) := by
    rw [bd, if_neg (hna _), if_neg (hna _), if_neg (hna _), if_neg (by rw [hnc]; decide), if_pos (by unfold Tm.ite; rw [hs, ha]; rfl)]
  rw [hbd]
  obtain rfl : l = 2 := by rw [HL2.out]; exact hlen
  obtain ⟨gt, off, rfl, hgt0, hargs⟩ := args_all (HV.out _ (Below.refl _ _)) (by omega)
  obtain ⟨a0, l0, c0, hA0⟩ := hargs 0 (by omega)
  obtain ⟨a1, l1, c1, hA1⟩ := hargs 1 (by omega)
  simp only [Nat.zero_mul, Nat.one_mul, Nat.add_zero] at hA0 hA1
  have HA0 := Lib.hid hA0
  have HA1 := Lib.hid hA1
  obtain ⟨-, -, -, -, htw⟩ := hA0 _ (Below.refl _ _)
  obtain ⟨gu, ofu, hea, hgu0, hargu⟩ := args_all htw (by omega)
  subst hea
  obtain ⟨a2, l2, c2, hA2⟩ := hargu 0 (by omega)
  obtain ⟨a3, l3, c3, hA3⟩ := hargu 1 (by omega)
  simp only [Nat.zero_mul, Nat.one_mul, Nat.add_zero] at hA2 hA3
  have HA2 := Lib.hid hA2
  have HA3 := Lib.hid hA3
  have HL0 : Hid (l0 = 2) := Lib.hid (by rw [(at_len (TmV_at htw).2.2.2.2.2.2).1]; exact hlen0)
  have p0 := sz_pos (targ (targ t 0) 0)
  have p1 := sz_pos (targ (targ t 0) 1)
  have p2 := sz_pos (targ t 1)
  have HCE := Lib.hid (fun w9 (hB : Below w.heap.size w w9) => reither_any n ih (targ (targ t 0) 0) (targ (targ t 0) 1) (targ t 1) n0 w9 _ _ _ _ _ _ _ _ _ _ _ _ _ _ _ _ _ _ cop ca free (by have := hB.size; omega) (hA2 w9 hB).2.2.2.2 (hA3 w9 hB).2.2.2.2 (hA1 w9 hB).2.2.2.2 hf0 (by omega) (by omega) (by omega) (by omega) (by omega) (by omega) (by omega) (by omega) (by omega) (by omega) _ _ _ rfl rfl rfl)
  clear hargu hA2 hA3 htw
  clear hbd hargs hA0 hA1 hna ek es ex
  generalize eitherP (bd n (targ (targ t 0) 0) (In0 7 (free + 1)) (free + 2)).1 (bd n (targ (targ t 0) 1) (In0 cop ca) (bd n (targ (targ t 0) 0) (In0 7 (free + 1)) (free + 2)).2).1 (bd n (targ t 1) (In0 cop ca) (bd n (targ (targ t 0) 1) (In0 cop ca) (bd n (targ (targ t 0) 0) (In0 7 (free + 1)) (free + 2)).2).2).1 free = PC at *
  generalize (bd n (targ t 1) (In0 cop ca) (bd n (targ (targ t 0) 1) (In0 cop ca) (bd n (targ (targ t 0) 0) (In0 7 (free + 1)) (free + 2)).2).2).2 = PF at *
  generalize targ (targ t 0) 0 = t2 at *
  generalize targ (targ t 0) 1 = t3 at *
  generalize targ t 0 = t0 at *
  generalize targ t 1 = t1 at *
  obtain rfl : l0 = 2 := HL0.out
  have h1 := hnc
  have h2 := hs
  have h3 := ha
  clear hnc hs ha hk4 hk40 hlen hlen0
  go_enter Try.func48, Try.ntmps48
  go_wp2_with fail
  have hq := rtwo_any t sComma _ _ _ (HV.out _ HB.out)
  rw [h1] at hq
  refine hq.mono ?_
  rintro e w4 ⟨rfl, hB⟩
  have HB4 := Lib.hid (HB.out.trans (hB.mono HB.out.size))
  have hb0 := Blk_same H0.out hB
  have hb1 := Blk_same H1.out hB
  have hb2 := Blk_same H2.out hB
  have H04 := Lib.hid hb0
  have H14 := Lib.hid hb1
  have H24 := Lib.hid hb2
  have z0 : w4.cell? ⟨w.heap.size, 0, none⟩ = some (.int .i64 k) := hb0.cell 0
  have z1 : w4.cell? ⟨w.heap.size, 1, none⟩ = some (.string s) := hb0.cell 1
  have z2 : w4.cell? ⟨w.heap.size, 2, none⟩ = some (.int .i64 x) := hb0.cell 2
  have z3 : w4.cell? ⟨w.heap.size, 3, none⟩ = some (.slice (some ⟨gt, off, none⟩) 2 c) := hb0.cell 3
  have lz := hb0.lt
  clear hq hB hb0 hb1 hb2 H0 H1 H2 HB
  go_wp2_with fail
  have hq := rtwo_any t sSemi _ _ _ (HV.out _ HB4.out)
  rw [h2] at hq
  refine hq.mono ?_
  rintro e w5 ⟨rfl, hB⟩
  have HB5 := Lib.hid (HB4.out.trans (hB.mono HB4.out.size))
  have hb0 := Blk_same H04.out hB
  have hb1 := Blk_same H14.out hB
  have hb2 := Blk_same H24.out hB
  have H05 := Lib.hid hb0
  have H15 := Lib.hid hb1
  have H25 := Lib.hid hb2
  have z0 : w5.cell? ⟨w.heap.size, 0, none⟩ = some (.int .i64 k) := hb0.cell 0
  have z1 : w5.cell? ⟨w.heap.size, 1, none⟩ = some (.string s) := hb0.cell 1
  have z2 : w5.cell? ⟨w.heap.size, 2, none⟩ = some (.int .i64 x) := hb0.cell 2
  have z3 : w5.cell? ⟨w.heap.size, 3, none⟩ = some (.slice (some ⟨gt, off, none⟩) 2 c) := hb0.cell 3
  have lz := hb0.lt
  clear hq hB hb0 hb1 hb2 H04 H14 H24 HB4
  have hgt5 : gt < w5.heap.size := by have := HB5.out.size; omega
  obtain ⟨x0, x1, x2, x3, -⟩ := HA0.out _ HB5.out
  go_wp2_with fail
  clear x0 x1 x2 x3 hgt5 z0 z1 z2 z3 lz
  have hB := HB5.out
  obtain ⟨-, -, -, -, ht⟩ := HA0.out _ hB
  have hq := rtwo_any t0 sArrow _ _ _ ht
  rw [h3] at hq
  refine hq.mono ?_
  rintro e w6 ⟨rfl, hB⟩
  have HB6 := Lib.hid (HB5.out.trans (hB.mono HB5.out.size))
  have H06 := Lib.hid (Blk_same H05.out hB)
  have H16 := Lib.hid (Blk_same H15.out hB)
  have H26 := Lib.hid (Blk_same H25.out hB)
  have hb0 := H06.out
  have z0 : w6.cell? ⟨w.heap.size, 0, none⟩ = some (.int .i64 k) := hb0.cell 0
  have z1 : w6.cell? ⟨w.heap.size, 1, none⟩ = some (.string s) := hb0.cell 1
  have z2 : w6.cell? ⟨w.heap.size, 2, none⟩ = some (.int .i64 x) := hb0.cell 2
  have z3 : w6.cell? ⟨w.heap.size, 3, none⟩ = some (.slice (some ⟨gt, off, none⟩) 2 c) := hb0.cell 3
  have lz := hb0.lt
  clear hq hB hb0 ht H05 H15 H25 HB5
  clear h1 h2 h3
  have hb0 := H06.out
  have hb1 := H16.out
  have hgt : gt < w6.heap.size := by have := HB6.out.size; omega
  have hgu : gu < w6.heap.size := by have := HB6.out.size; omega
  obtain ⟨x0, x1, x2, x3, -⟩ := HA0.out _ HB6.out
  obtain ⟨y0, y1, y2, y3, -⟩ := HA1.out _ HB6.out
  obtain ⟨u0, u1, u2, u3, -⟩ := HA2.out _ HB6.out
  obtain ⟨v0, v1, v2, v3, -⟩ := HA3.out _ HB6.out
  have HF : Hid (FactsB [(⟨w.heap.size, 3, none⟩, .slice (some ⟨gt, off, none⟩) 2 c), (⟨gt, off, none⟩, .int .i64 (Tm.k t0)), (⟨gt, off + 1, none⟩, .string (Tm.s t0)), (⟨gt, off + 2, none⟩, .int .i64 (Tm.x t0)), (⟨gt, off + 3, none⟩, .slice (some ⟨gu, ofu, none⟩) 2 c0), (⟨gu, ofu, none⟩, .int .i64 (Tm.k t2)), (⟨gu, ofu + 1, none⟩, .string (Tm.s t2)), (⟨gu, ofu + 2, none⟩, .int .i64 (Tm.x t2)), (⟨gu, ofu + 3, none⟩, .slice a2 l2 c2), (⟨gu, ofu + 4, none⟩, .int .i64 (Tm.k t3)), (⟨gu, ofu + 4 + 1, none⟩, .string (Tm.s t3)), (⟨gu, ofu + 4 + 2, none⟩, .int .i64 (Tm.x t3)), (⟨gu, ofu + 4 + 3, none⟩, .slice a3 l3 c3), (⟨gt, off + 4, none⟩, .int .i64 (Tm.k t1)), (⟨gt, off + 4 + 1, none⟩, .string (Tm.s t1)), (⟨gt, off + 4 + 2, none⟩, .int .i64 (Tm.x t1)), (⟨gt, off + 4 + 3, none⟩, .slice a1 l1 c1), (⟨w.heap.size + 1, 0, none⟩, .int .i64 cop), (⟨w.heap.size + 1, 1, none⟩, .int .i64 ca), (⟨w.heap.size + 1, 2, none⟩, .int .i64 0), (⟨w.heap.size + 1, 3, none⟩, .string noStr), (⟨w.heap.size + 1, 4, none⟩, .int .i64 0), (⟨w.heap.size + 1, 5, none⟩, .slice none 0 0)] w6.drew) := Lib.hid ⟨⟨hb0.cell 3, hb0.lt⟩, ⟨x0, hgt⟩, ⟨x1, hgt⟩, ⟨x2, hgt⟩, ⟨x3, hgt⟩, ⟨u0, hgu⟩, ⟨u1, hgu⟩, ⟨u2, hgu⟩, ⟨u3, hgu⟩, ⟨v0, hgu⟩, ⟨v1, hgu⟩, ⟨v2, hgu⟩, ⟨v3, hgu⟩, ⟨y0, hgt⟩, ⟨y1, hgt⟩, ⟨y2, hgt⟩, ⟨y3, hgt⟩, ⟨hb1.cell 0, hb1.lt⟩, ⟨hb1.cell 1, hb1.lt⟩, ⟨hb1.cell 2, hb1.lt⟩, ⟨hb1.cell 3, hb1.lt⟩, ⟨hb1.cell 4, hb1.lt⟩, ⟨hb1.cell 5, hb1.lt⟩, trivial⟩
  clear hb0 hb1 hgt hgu x0 x1 x2 x3 y0 y1 y2 y3 u0 u1 u2 u3 v0 v1 v2 v3 z0 z1 z2 z3 lz
  go_wp2_with fail
  refine wp_region_plan5 [.early 0 [1, 2, 3, 4, 5, 6, 20, 21], .early 1 [2, 3, 4, 5, 6, 20, 21], .early 2 [3, 4, 5, 6, 20, 21], .early 3 [4, 5, 6, 20, 21], .early 4 [5, 6, 20, 21], .early 5 [6, 20, 21], .early 6 [20, 21], .early 7 [8, 9, 10, 11, 12, 13, 20, 21], .early 8 [9, 10, 11, 12, 13, 20, 21], .early 9 [10, 11, 12, 13, 20, 21], .early 10 [11, 12, 13, 20, 21], .early 11 [12, 13, 20, 21], .early 12 [13, 20, 21], .early 13 [20, 21], .early 14 [15, 16, 17, 20, 21], .early 15 [16, 17, 20, 21], .early 16 [17, 20, 21], .early 17 [20, 21], .early 18 [20, 21], .early 19 [20, 21], .big 20, .big 21] 21 (Facts _) (by kernel_rfl) (by kernel_rfl) (fun _ _ _ d _ h => by cases d <;> exact h) (FactsB.facts HF.out) ?_
  have HBD := Lib.hid HB6.out.drew
  have H2D := Lib.hid H26.out.drew
  clear H06 H16 H26 HB6
  generalize w6.drew = wd at *
  iterate 20
    apply plan5_early
    case hi => rfl
    case h =>
      intro w9 hf
      simp only [Facts] at hf
      obtain ⟨z0, z1, z2, z3, z4, z5, z6, z7, z8, z9, z10, z11, z12, z13, z14, z15, z16, z17, z18, z19, z20, z21, z22, _⟩ := hf
      still_step
      exact wpStill_nil rfl
  refine plan5_big rfl ?_
  go_wp2_with fail
  refine (HCE.out _ HBD.out).mono ?_
  rintro e wj ⟨vj, rfl, hrj, hB⟩
  have HF2 := Lib.hid (FactsB.below hB HF.out)
  have HRJ := Lib.hid hrj
  have HBJ := Lib.hid (HBD.out.trans (hB.mono HBD.out.size))
  have hb2 := Blk_same H2D.out hB
  have H2J := Lib.hid hb2
  obtain ⟨aj, lj, cj, rfl⟩ : ∃ aj lj cj, vj = Value.slice aj lj cj := by
    obtain ⟨a', c', h'⟩ := hrj.shape
    exact ⟨_, _, _, h'⟩
  have f0 := hb2.free 0
  have f1 := hb2.free 1
  have l2 := hb2.lt
  have d0 : wj.cell? ⟨w.heap.size + 1 + 1, 0, none⟩ = some (.slice none 0 0) := hb2.cell 0
  have d1 : wj.cell? ⟨w.heap.size + 1 + 1, 1, none⟩ = some (.int .i64 0) := hb2.cell 1
  clear hb2 hB hrj HF HBD H2D
  go_wp2_with fail
  refine ⟨fun _ => FactsB.facts HF2.out, ?_⟩
  refine plan5_big rfl ?_
  go_wp2_with fail
  refine ⟨fun h => absurd rfl h, plan5_nil ?_⟩
  go_wp2_with fail
  have hend := Blk.putCells (cs := [.slice none 0 0, .int .i64 0]) (vs := [.slice aj lj cj, .int .i64 PF]) H2J.out rfl
  have hp := pc_end (f := PF) HRJ.out H2J.out HBJ.out (b := w.heap.size + 1 + 1) (by omega) hn0
  simp only [putCells, Nat.reduceAdd] at hend hp
  refine bodyPost_ret (results_cell_row rfl _ _ (w.heap.size + 1 + 1) 95 _ _ _ rfl hend.at_ Try.underlying95 rfl (by kernel_rfl)) rfl ?_
  exact hp
set_option maxHeartbeats 8000000 in
theorem rbody_arrow (n : Nat) (ih : RBodyOk n) (t : Tm) (n0 : Nat) (w : World) (k : Int) (s : ByteArray) (x : Int) (a : Option Addr) (l c : Nat) (cop ca free : Int) (hn0 : n0 ≤ w.heap.size) (hv : TmV w (fun g => g < n0) t (.agg #[.int .i64 k, .string s, .int .i64 x, .slice a l c])) (hf0 : 0 ≤ free) (hf1 : free + 4 * Tm.sz t ≤ 1000000) (hsz : 12 * (Tm.sz t : Int) ≤ 1000000) (hdp : Tm.dp t ≤ ((n + 1 : Nat) : Int)) (k3 : k ≠ 3) (hr : Tm.two t sArrow = true) :
    Calls Try.prog 48 #[.agg #[.int .i64 k, .string s, .int .i64 x, .slice a l c], .agg #[.int .i64 cop, .int .i64 ca, .int .i64 0, .string noStr, .int .i64 0, .slice none 0 0], .int .i64 free] w (PcRet n0 w (bd (n + 1) t (In0 cop ca) free)) := by
  obtain ⟨hb0, hb1, hb2, hB0, hz0⟩ := three_new w (.cells #[.int .i64 k, .string s, .int .i64 x, .slice a l c] 24) (.cells #[.int .i64 cop, .int .i64 ca, .int .i64 0, .string noStr, .int .i64 0, .slice none 0 0] 75) (.cells #[.slice none 0 0, .int .i64 0] 95)
  have H0 := Lib.hid hb0
  have H1 := Lib.hid hb1
  have H2 := Lib.hid hb2
  have HB0 := Lib.hid hB0
  have HZ0 := Lib.hid hz0
  have HV := Lib.hid (fun w2 (hB : Below w.heap.size w w2) => TmV.below hv hB)
  obtain ⟨ek, es, ex, -, -, -, hat⟩ := TmV_at hv
  obtain ⟨hl2, -⟩ := at_len hat
  have HL2 := Lib.hid hl2
  have HB := HB0
  clear hb0 hb1 hb2 hB0 hz0 hv hat hl2
  have hb3 : (k == 3) = false := by simp [k3]
  have hna : ∀ ns, ¬ Tm.atom t ns = true := fun ns => by unfold Tm.atom; rw [← ek]; simp [k3]
  obtain ⟨hk4, hlen, hszz⟩ := two_sz hr
  have hnc : Tm.two t sComma = false := two_ne hr (by decide)
  have hns : Tm.two t sSemi = false := two_ne hr (by decide)
  have hd0 := arg_dp hk4 (i := 0) (by omega)
  have hd1 := arg_dp hk4 (i := 1) (by omega)
  have hbd : bd (n + 1) t (In0 cop ca) free = (eitherP (bd n (targ t 0) (In0 7 (free + 1)) (free + 2)).1 (bd n (targ t 1) (In0 cop ca) (bd n (targ t 0) (In0 7 (free + 1)) (free + 2)).2).1 (bd n failT (In0 cop ca) (bd n (targ t 1) (In0 cop ca) (bd n (targ t 0) (In0 7 (free + 1)) (free + 2)).2).2).1 free, (bd n failT (In0 cop ca) (bd n (targ t 1) (In0 cop ca) (bd n (targ t 0) (In0 7 (free + 1)) (free + 2)).2).2).2) := by
    rw [bd, if_neg (hna _), if_neg (hna _), if_neg (hna _), if_neg (by rw [hnc]; decide), if_neg (by unfold Tm.ite; rw [hns]; simp), if_pos hr]
  rw [hbd]
  obtain rfl : l = 2 := by rw [HL2.out]; exact hlen
  obtain ⟨gt, off, rfl, hgt0, hargs⟩ := args_all (HV.out _ (Below.refl _ _)) (by omega)
  obtain ⟨a0, l0, c0, hA0⟩ := hargs 0 (by omega)
  obtain ⟨a1, l1, c1, hA1⟩ := hargs 1 (by omega)
  simp only [Nat.zero_mul, Nat.one_mul, Nat.add_zero] at hA0 hA1
  have HA0 := Lib.hid hA0
  have HA1 := Lib.hid hA1
  have p0 := sz_pos (targ t 0)
  have p1 := sz_pos (targ t 1)
  have p2 := dp_pos (targ t 0)
  have hfd : Tm.dp failT = 1 := by unfold failT Tm.dp; rw [if_neg (by decide)]
  have hfs := failT_sz
  have HCE := Lib.hid (fun w9 (hB : Below w.heap.size w w9) => reither_any n ih (targ t 0) (targ t 1) failT n0 w9 _ _ _ _ _ _ _ _ _ _ _ _ 3 sFail 0 none 0 0 cop ca free (by have := hB.size; omega) (hA0 w9 hB).2.2.2.2 (hA1 w9 hB).2.2.2.2 (atomV w9 _ sFail (by decide)) hf0 (by omega) (by omega) (by omega) (by omega) (by omega) (by omega) (by omega) (by omega) (by omega) (by omega) _ _ _ rfl rfl rfl)
  clear hbd hargs hA0 hA1 hna ek es ex
  generalize eitherP (bd n (targ t 0) (In0 7 (free + 1)) (free + 2)).1 (bd n (targ t 1) (In0 cop ca) (bd n (targ t 0) (In0 7 (free + 1)) (free + 2)).2).1 (bd n failT (In0 cop ca) (bd n (targ t 1) (In0 cop ca) (bd n (targ t 0) (In0 7 (free + 1)) (free + 2)).2).2).1 free = PC at *
  generalize (bd n failT (In0 cop ca) (bd n (targ t 1) (In0 cop ca) (bd n (targ t 0) (In0 7 (free + 1)) (free + 2)).2).2).2 = PF at *
  generalize targ t 0 = t0 at *
  generalize targ t 1 = t1 at *
  have h1 := hnc
  have h2 := hns
  have h3 := hr
  clear hnc hns hr hfd hfs
  go_enter Try.func48, Try.ntmps48
  go_wp2_with fail
  have hq := rtwo_any t sComma _ _ _ (HV.out _ HB.out)
  rw [h1] at hq
  refine hq.mono ?_
  rintro e w4 ⟨rfl, hB⟩
  have HB4 := Lib.hid (HB.out.trans (hB.mono HB.out.size))
  have hb0 := Blk_same H0.out hB
  have hb1 := Blk_same H1.out hB
  have hb2 := Blk_same H2.out hB
  have H04 := Lib.hid hb0
  have H14 := Lib.hid hb1
  have H24 := Lib.hid hb2
  have z0 : w4.cell? ⟨w.heap.size, 0, none⟩ = some (.int .i64 k) := hb0.cell 0
  have z1 : w4.cell? ⟨w.heap.size, 1, none⟩ = some (.string s) := hb0.cell 1
  have z2 : w4.cell? ⟨w.heap.size, 2, none⟩ = some (.int .i64 x) := hb0.cell 2
  have z3 : w4.cell? ⟨w.heap.size, 3, none⟩ = some (.slice (some ⟨gt, off, none⟩) 2 c) := hb0.cell 3
  have lz := hb0.lt
  clear hq hB hb0 hb1 hb2 H0 H1 H2 HB
  go_wp2_with fail
  have hq := rtwo_any t sSemi _ _ _ (HV.out _ HB4.out)
  rw [h2] at hq
  refine hq.mono ?_
  rintro e w5 ⟨rfl, hB⟩
  have HB5 := Lib.hid (HB4.out.trans (hB.mono HB4.out.size))
  have hb0 := Blk_same H04.out hB
  have hb1 := Blk_same H14.out hB
  have hb2 := Blk_same H24.out hB
  have H05 := Lib.hid hb0
  have H15 := Lib.hid hb1
  have H25 := Lib.hid hb2
  have z0 : w5.cell? ⟨w.heap.size, 0, none⟩ = some (.int .i64 k) := hb0.cell 0
  have z1 : w5.cell? ⟨w.heap.size, 1, none⟩ = some (.string s) := hb0.cell 1
  have z2 : w5.cell? ⟨w.heap.size, 2, none⟩ = some (.int .i64 x) := hb0.cell 2
  have z3 : w5.cell? ⟨w.heap.size, 3, none⟩ = some (.slice (some ⟨gt, off, none⟩) 2 c) := hb0.cell 3
  have lz := hb0.lt
  clear hq hB hb0 hb1 hb2 H04 H14 H24 HB4
  go_wp2_with fail
  have hq := rtwo_any t sArrow _ _ _ (HV.out _ HB5.out)
  rw [h3] at hq
  refine hq.mono ?_
  rintro e w6 ⟨rfl, hB⟩
  have HB6 := Lib.hid (HB5.out.trans (hB.mono HB5.out.size))
  have hb0 := Blk_same H05.out hB
  have hb1 := Blk_same H15.out hB
  have hb2 := Blk_same H25.out hB
  have H06 := Lib.hid hb0
  have H16 := Lib.hid hb1
  have H26 := Lib.hid hb2
  have z0 : w6.cell? ⟨w.heap.size, 0, none⟩ = some (.int .i64 k) := hb0.cell 0
  have z1 : w6.cell? ⟨w.heap.size, 1, none⟩ = some (.string s) := hb0.cell 1
  have z2 : w6.cell? ⟨w.heap.size, 2, none⟩ = some (.int .i64 x) := hb0.cell 2
  have z3 : w6.cell? ⟨w.heap.size, 3, none⟩ = some (.slice (some ⟨gt, off, none⟩) 2 c) := hb0.cell 3
  have lz := hb0.lt
  clear hq hB hb0 hb1 hb2 H05 H15 H25 HB5
  clear h1 h2 h3
  have hb0 := H06.out
  have hb1 := H16.out
  have hgt : gt < w6.heap.size := by have := HB6.out.size; omega
  obtain ⟨x0, x1, x2, x3, -⟩ := HA0.out _ HB6.out
  obtain ⟨y0, y1, y2, y3, -⟩ := HA1.out _ HB6.out
  have HF : Hid (FactsB [(⟨w.heap.size, 3, none⟩, .slice (some ⟨gt, off, none⟩) 2 c), (⟨gt, off, none⟩, .int .i64 (Tm.k t0)), (⟨gt, off + 1, none⟩, .string (Tm.s t0)), (⟨gt, off + 2, none⟩, .int .i64 (Tm.x t0)), (⟨gt, off + 3, none⟩, .slice a0 l0 c0), (⟨gt, off + 4, none⟩, .int .i64 (Tm.k t1)), (⟨gt, off + 4 + 1, none⟩, .string (Tm.s t1)), (⟨gt, off + 4 + 2, none⟩, .int .i64 (Tm.x t1)), (⟨gt, off + 4 + 3, none⟩, .slice a1 l1 c1), (⟨w.heap.size + 1, 0, none⟩, .int .i64 cop), (⟨w.heap.size + 1, 1, none⟩, .int .i64 ca), (⟨w.heap.size + 1, 2, none⟩, .int .i64 0), (⟨w.heap.size + 1, 3, none⟩, .string noStr), (⟨w.heap.size + 1, 4, none⟩, .int .i64 0), (⟨w.heap.size + 1, 5, none⟩, .slice none 0 0)] w6.drew) := Lib.hid ⟨⟨hb0.cell 3, hb0.lt⟩, ⟨x0, hgt⟩, ⟨x1, hgt⟩, ⟨x2, hgt⟩, ⟨x3, hgt⟩, ⟨y0, hgt⟩, ⟨y1, hgt⟩, ⟨y2, hgt⟩, ⟨y3, hgt⟩, ⟨hb1.cell 0, hb1.lt⟩, ⟨hb1.cell 1, hb1.lt⟩, ⟨hb1.cell 2, hb1.lt⟩, ⟨hb1.cell 3, hb1.lt⟩, ⟨hb1.cell 4, hb1.lt⟩, ⟨hb1.cell 5, hb1.lt⟩, trivial⟩
  clear hb0 hb1 hgt x0 x1 x2 x3 y0 y1 y2 y3 z0 z1 z2 z3 lz
  go_wp2_with fail
  refine wp_region_plan5 [.early 0 [1, 2, 3, 11, 12], .early 1 [2, 3, 11, 12], .early 2 [3, 11, 12], .early 3 [11, 12], .early 4 [5, 6, 7, 11, 12], .early 5 [6, 7, 11, 12], .early 6 [7, 11, 12], .early 7 [11, 12], .early 9 [11, 12], .early 10 [11, 12], .big 8, .big 11, .big 12] 12 (Facts _) (by kernel_rfl) (by kernel_rfl) (fun _ _ _ d _ h => by cases d <;> exact h) (FactsB.facts HF.out) ?_
  have HBD0 := Lib.hid HB6.out.drew
  have H2D0 := Lib.hid H26.out.drew
  clear H06 H16 H26 HB6
  generalize w6.drew = wd at *
  iterate 10
    apply plan5_early
    case hi => rfl
    case h =>
      intro w9 hf
      simp only [Facts] at hf
      obtain ⟨z0, z1, z2, z3, z4, z5, z6, z7, z8, z9, z10, z11, z12, z13, z14, _⟩ := hf
      still_step
      exact wpStill_nil rfl
  refine plan5_big rfl ?_
  go_wp2_with fail
  refine (A_any _ _).mono ?_
  rintro e wf ⟨rfl, hB⟩
  have HF1 := Lib.hid (FactsB.below hB HF.out)
  have HBD := Lib.hid (HBD0.out.trans (hB.mono HBD0.out.size))
  have H2D := Lib.hid (Blk_same H2D0.out hB)
  clear hB HF HBD0 H2D0
  have HF := HF1
  clear HF1
  go_wp2_with fail
  refine ⟨fun _ => FactsB.facts HF.out, ?_⟩
  refine plan5_big rfl ?_
  go_wp2_with fail
  refine (HCE.out _ HBD.out).mono ?_
  rintro e wj ⟨vj, rfl, hrj, hB⟩
  have HF2 := Lib.hid (FactsB.below hB HF.out)
  have HRJ := Lib.hid hrj
  have HBJ := Lib.hid (HBD.out.trans (hB.mono HBD.out.size))
  have hb2 := Blk_same H2D.out hB
  have H2J := Lib.hid hb2
  obtain ⟨aj, lj, cj, rfl⟩ : ∃ aj lj cj, vj = Value.slice aj lj cj := by
    obtain ⟨a', c', h'⟩ := hrj.shape
    exact ⟨_, _, _, h'⟩
  have f0 := hb2.free 0
  have f1 := hb2.free 1
  have l2 := hb2.lt
  have d0 : wj.cell? ⟨w.heap.size + 1 + 1, 0, none⟩ = some (.slice none 0 0) := hb2.cell 0
  have d1 : wj.cell? ⟨w.heap.size + 1 + 1, 1, none⟩ = some (.int .i64 0) := hb2.cell 1
  clear hb2 hB hrj HF HBD H2D
  go_wp2_with fail
  refine ⟨fun _ => FactsB.facts HF2.out, ?_⟩
  refine plan5_big rfl ?_
  go_wp2_with fail
  refine ⟨fun h => absurd rfl h, plan5_nil ?_⟩
  go_wp2_with fail
  have hend := Blk.putCells (cs := [.slice none 0 0, .int .i64 0]) (vs := [.slice aj lj cj, .int .i64 PF]) H2J.out rfl
  have hp := pc_end (f := PF) HRJ.out H2J.out HBJ.out (b := w.heap.size + 1 + 1) (by omega) hn0
  simp only [putCells, Nat.reduceAdd] at hend hp
  refine bodyPost_ret (results_cell_row rfl _ _ (w.heap.size + 1 + 1) 95 _ _ _ rfl hend.at_ Try.underlying95 rfl (by kernel_rfl)) rfl ?_
  exact hp
set_option maxHeartbeats 8000000 in
theorem rbody_not (n : Nat) (ih : RBodyOk n) (t : Tm) (n0 : Nat) (w : World) (k : Int) (s : ByteArray) (x : Int) (a : Option Addr) (l c : Nat) (cop ca free : Int) (hn0 : n0 ≤ w.heap.size) (hv : TmV w (fun g => g < n0) t (.agg #[.int .i64 k, .string s, .int .i64 x, .slice a l c])) (hf0 : 0 ≤ free) (hf1 : free + 4 * Tm.sz t ≤ 1000000) (hsz : 12 * (Tm.sz t : Int) ≤ 1000000) (hdp : Tm.dp t ≤ ((n + 1 : Nat) : Int)) (k3 : k ≠ 3) (ho : Tm.one1 t sNot = true) :
    Calls Try.prog 48 #[.agg #[.int .i64 k, .string s, .int .i64 x, .slice a l c], .agg #[.int .i64 cop, .int .i64 ca, .int .i64 0, .string noStr, .int .i64 0, .slice none 0 0], .int .i64 free] w (PcRet n0 w (bd (n + 1) t (In0 cop ca) free)) := by
  obtain ⟨hb0, hb1, hb2, hB0, hz0⟩ := three_new w (.cells #[.int .i64 k, .string s, .int .i64 x, .slice a l c] 24) (.cells #[.int .i64 cop, .int .i64 ca, .int .i64 0, .string noStr, .int .i64 0, .slice none 0 0] 75) (.cells #[.slice none 0 0, .int .i64 0] 95)
  have H0 := Lib.hid hb0
  have H1 := Lib.hid hb1
  have H2 := Lib.hid hb2
  have HB0 := Lib.hid hB0
  have HZ0 := Lib.hid hz0
  have HV := Lib.hid (fun w2 (hB : Below w.heap.size w w2) => TmV.below hv hB)
  obtain ⟨ek, es, ex, -, -, -, hat⟩ := TmV_at hv
  obtain ⟨hl2, -⟩ := at_len hat
  have HL2 := Lib.hid hl2
  have HB := HB0
  clear hb0 hb1 hb2 hB0 hz0 hv hat hl2
  have hb3 : (k == 3) = false := by simp [k3]
  have hna : ∀ ns, ¬ Tm.atom t ns = true := fun ns => by unfold Tm.atom; rw [← ek]; simp [k3]
  obtain ⟨hk4, hlen, hszz⟩ := one_sz ho
  have hno : ∀ nm, Tm.two t nm = false := fun nm => by unfold Tm.two; rw [hlen]; simp
  have hss : t.s = sNot := by
    unfold Tm.one1 at ho
    rw [Bool.and_eq_true, Bool.and_eq_true, decide_eq_true_iff, decide_eq_true_iff, decide_eq_true_iff] at ho
    exact ho.2.1
  have hd0 := arg_dp hk4 (i := 0) (by omega)
  have hbd : bd (n + 1) t (In0 cop ca) free = ([In0 6 free, In0 4 (((bd n (targ t 0) (In0 7 (free + 1)) (free + 2)).1.length : Int) + 4), In0 6 (free + 1)] ++ ((bd n (targ t 0) (In0 7 (free + 1)) (free + 2)).1 ++ [In0 7 free, In0 8 0]), (bd n (targ t 0) (In0 7 (free + 1)) (free + 2)).2) := by
    rw [bd, if_neg (hna _), if_neg (hna _), if_neg (hna _), if_neg (by rw [hno]; decide), if_neg (by unfold Tm.ite; rw [hno]; simp), if_neg (by rw [hno]; decide), if_neg (by rw [hno]; decide), if_pos ho]
  rw [hbd]
  obtain rfl : l = 1 := by rw [HL2.out]; exact hlen
  obtain ⟨gt, off, rfl, hgt0, hargs⟩ := args_all (HV.out _ (Below.refl _ _)) (by omega)
  obtain ⟨a0, l0, c0, hA0⟩ := hargs 0 (by omega)
  simp only [Nat.zero_mul, Nat.add_zero] at hA0
  have HA0 := Lib.hid hA0
  obtain rfl : k = 4 := by rw [ek]; exact hk4
  obtain rfl : s = ⟨#[92, 43]⟩ := by rw [es]; exact hss
  have hX := bd_le n (targ t 0) (In0 7 (free + 1)) (free + 2)
  have p0 := sz_pos (targ t 0)
  have HC := Lib.hid (fun w9 (hB : Below w.heap.size w w9) => ih (targ t 0) n0 w9 _ _ _ _ _ _ 7 (free + 1) (free + 2) (by have := hB.size; omega) (hA0 w9 hB).2.2.2.2 (by omega) (by omega) (by omega) (by omega))
  clear hbd hargs hA0 hna ek es ex hss ho hk4
  generalize bd n (targ t 0) (In0 7 (free + 1)) (free + 2) = X at *
  generalize targ t 0 = t0 at *
  obtain ⟨hX1, hX2, hX3⟩ := hX
  have h1 := hno sComma
  have h2 := hno sSemi
  have h3 := hno sArrow
  clear hno
  go_enter Try.func48, Try.ntmps48
  go_wp2_with fail
  have hq := rtwo_any t sComma _ _ _ (HV.out _ HB.out)
  rw [h1] at hq
  refine hq.mono ?_
  rintro e w4 ⟨rfl, hB⟩
  have HB4 := Lib.hid (HB.out.trans (hB.mono HB.out.size))
  have hb0 := Blk_same H0.out hB
  have hb1 := Blk_same H1.out hB
  have hb2 := Blk_same H2.out hB
  have H04 := Lib.hid hb0
  have H14 := Lib.hid hb1
  have H24 := Lib.hid hb2
  have z0 : w4.cell? ⟨w.heap.size, 0, none⟩ = some (.int .i64 4) := hb0.cell 0
  have z1 : w4.cell? ⟨w.heap.size, 1, none⟩ = some (.string ⟨#[92, 43]⟩) := hb0.cell 1
  have z2 : w4.cell? ⟨w.heap.size, 2, none⟩ = some (.int .i64 x) := hb0.cell 2
  have z3 : w4.cell? ⟨w.heap.size, 3, none⟩ = some (.slice (some ⟨gt, off, none⟩) 1 c) := hb0.cell 3
  have lz := hb0.lt
  clear hq hB hb0 hb1 hb2 H0 H1 H2 HB
  go_wp2_with fail
  have hq := rtwo_any t sSemi _ _ _ (HV.out _ HB4.out)
  rw [h2] at hq
  refine hq.mono ?_
  rintro e w5 ⟨rfl, hB⟩
  have HB5 := Lib.hid (HB4.out.trans (hB.mono HB4.out.size))
  have hb0 := Blk_same H04.out hB
  have hb1 := Blk_same H14.out hB
  have hb2 := Blk_same H24.out hB
  have H05 := Lib.hid hb0
  have H15 := Lib.hid hb1
  have H25 := Lib.hid hb2
  have z0 : w5.cell? ⟨w.heap.size, 0, none⟩ = some (.int .i64 4) := hb0.cell 0
  have z1 : w5.cell? ⟨w.heap.size, 1, none⟩ = some (.string ⟨#[92, 43]⟩) := hb0.cell 1
  have z2 : w5.cell? ⟨w.heap.size, 2, none⟩ = some (.int .i64 x) := hb0.cell 2
  have z3 : w5.cell? ⟨w.heap.size, 3, none⟩ = some (.slice (some ⟨gt, off, none⟩) 1 c) := hb0.cell 3
  have lz := hb0.lt
  clear hq hB hb0 hb1 hb2 H04 H14 H24 HB4
  go_wp2_with fail
  have hq := rtwo_any t sArrow _ _ _ (HV.out _ HB5.out)
  rw [h3] at hq
  refine hq.mono ?_
  rintro e w6 ⟨rfl, hB⟩
  have HB6 := Lib.hid (HB5.out.trans (hB.mono HB5.out.size))
  have hb0 := Blk_same H05.out hB
  have hb1 := Blk_same H15.out hB
  have hb2 := Blk_same H25.out hB
  have H06 := Lib.hid hb0
  have H16 := Lib.hid hb1
  have H26 := Lib.hid hb2
  have z0 : w6.cell? ⟨w.heap.size, 0, none⟩ = some (.int .i64 4) := hb0.cell 0
  have z1 : w6.cell? ⟨w.heap.size, 1, none⟩ = some (.string ⟨#[92, 43]⟩) := hb0.cell 1
  have z2 : w6.cell? ⟨w.heap.size, 2, none⟩ = some (.int .i64 x) := hb0.cell 2
  have z3 : w6.cell? ⟨w.heap.size, 3, none⟩ = some (.slice (some ⟨gt, off, none⟩) 1 c) := hb0.cell 3
  have lz := hb0.lt
  clear hq hB hb0 hb1 hb2 H05 H15 H25 HB5
  go_wp2_with fail
  have hq := rtwo_any t sSemi _ _ _ (HV.out _ HB6.out)
  rw [h2] at hq
  refine hq.mono ?_
  rintro e w7 ⟨rfl, hB⟩
  have HB7 := Lib.hid (HB6.out.trans (hB.mono HB6.out.size))
  have hb0 := Blk_same H06.out hB
  have hb1 := Blk_same H16.out hB
  have hb2 := Blk_same H26.out hB
  have H07 := Lib.hid hb0
  have H17 := Lib.hid hb1
  have H27 := Lib.hid hb2
  have z0 : w7.cell? ⟨w.heap.size, 0, none⟩ = some (.int .i64 4) := hb0.cell 0
  have z1 : w7.cell? ⟨w.heap.size, 1, none⟩ = some (.string ⟨#[92, 43]⟩) := hb0.cell 1
  have z2 : w7.cell? ⟨w.heap.size, 2, none⟩ = some (.int .i64 x) := hb0.cell 2
  have z3 : w7.cell? ⟨w.heap.size, 3, none⟩ = some (.slice (some ⟨gt, off, none⟩) 1 c) := hb0.cell 3
  have lz := hb0.lt
  clear hq hB hb0 hb1 hb2 H06 H16 H26 HB6
  clear h1 h2 h3
  have hgt : gt < w7.heap.size := by have := HB7.out.size; omega
  obtain ⟨x0, x1, x2, x3, -⟩ := HA0.out _ HB7.out
  go_wp2_with fail
  clear x0 x1 x2 x3 hgt z0 z1 z2 z3 lz
  refine (HC.out _ HB7.out).mono ?_
  rintro e w8 ⟨pv1, rfl, hr, hB⟩
  have hB1 := HB7.out.trans (hB.mono HB7.out.size)
  have HB8 := Lib.hid (hB1.alloc hB1.size (.cells #[pv1, .int .i64 X.2] 95))
  have H28 := Lib.hid ((Blk_same H27.out hB).alloc (.cells #[pv1, .int .i64 X.2] 95))
  have HXba := Lib.hid (Blk.new (own := fun _ => 0) (k := 0) w8 (.cells #[pv1, .int .i64 X.2] 95) rfl)
  have HRba := Lib.hid (hr.below ((Below.refl _ _).alloc (Nat.le_refl _) (.cells #[pv1, .int .i64 X.2] 95)))
  obtain ⟨paba, pcba, rfl⟩ := hr.shape
  clear hB1 hB hr H07 H17 H27 HB7 HC
  go_wp2_with fail
  generalize w8.heap.size = ba at *
  generalize (w8.alloc (.cells #[.slice paba X.1.length pcba, .int .i64 X.2] 95)) = w81 at *
  have HB81 := HB8
  have H281 := H28
  clear HB8 H28
  have HF : Hid (FactsB [(⟨ba, 0, none⟩, .slice paba X.1.length pcba), (⟨ba, 1, none⟩, .int .i64 X.2)] w81.drew) := Lib.hid ⟨⟨HXba.out.cell 0, HXba.out.lt⟩, ⟨HXba.out.cell 1, HXba.out.lt⟩, trivial⟩
  go_wp2_with fail
  refine wp_region_plan5 [.early 0 [1, 6, 9, 13, 14, 15, 16, 19, 20], .early 2 [3, 4, 5, 6, 9, 13, 14, 15, 16, 19, 20], .early 3 [4, 5, 6, 9, 13, 14, 15, 16, 19, 20], .early 4 [5, 6, 9, 13, 14, 15, 16, 19, 20], .early 5 [6, 9, 13, 14, 15, 16, 19, 20], .early 7 [8, 9, 13, 14, 15, 16, 19, 20], .early 8 [9, 13, 14, 15, 16, 19, 20], .early 10 [11, 15, 16, 19, 20], .early 11 [15, 16, 19, 20], .early 12 [13, 14, 15, 16, 19, 20], .early 17 [18, 19, 20], .early 18 [19, 20], .big 1, .big 6, .big 9, .big 13, .big 14, .big 15, .big 16, .early 19 [20], .big 20] 20 (Facts _) (by kernel_rfl) (by kernel_rfl) (fun _ _ _ d _ h => by cases d <;> exact h) (FactsB.facts HF.out) ?_
  have HBD := Lib.hid HB81.out.drew
  have H2D := Lib.hid H281.out.drew
  have HRDba := Lib.hid ((HRba.out).carry (w' := w81.drew) (Nat.le_refl _) (fun _ _ _ => rfl) fun _ _ hc => ⟨rfl, hc⟩)
  clear H281 HB81 HRba HXba
  generalize w81.drew = wd0 at *
  iterate 12
    apply plan5_early
    case hi => rfl
    case h =>
      intro w9 hf
      simp only [Facts] at hf
      obtain ⟨z0, z1, _⟩ := hf
      still_step
      exact wpStill_nil rfl
  refine plan5_big rfl ?_
  go_wp2_with fail
  refine (one_any (fun g => g < n0) 6 (free) _).mono ?_
  rintro e wd1 ⟨vo0, rfl, hr, hB⟩
  have HRo0 := Lib.hid hr
  have HF' := Lib.hid (FactsB.below hB HF.out)
  have HB' := Lib.hid (HBD.out.trans (hB.mono HBD.out.size))
  have H2' := Lib.hid (Blk_same H2D.out hB)
  have HRDba' := Lib.hid (HRDba.out.below hB)
  obtain ⟨ao0, co0, rfl⟩ := hr.shape
  clear hr hB HF HBD H2D HRDba
  have HF := HF'
  have HBD := HB'
  have H2D := H2'
  have HRDba := HRDba'
  clear HF' HB' H2' HRDba'
  go_wp2_with fail
  refine ⟨fun _ => FactsB.facts HF.out, ?_⟩
  refine plan5_big rfl ?_
  go_wp2_with fail
  refine (one_any (fun g => g < n0) 4 ((X.1.length : Int) + 4) _).mono ?_
  rintro e wd2 ⟨vo1, rfl, hr, hB⟩
  have HRo1 := Lib.hid hr
  have HF' := Lib.hid (FactsB.below hB HF.out)
  have HB' := Lib.hid (HBD.out.trans (hB.mono HBD.out.size))
  have H2' := Lib.hid (Blk_same H2D.out hB)
  have HRDba' := Lib.hid (HRDba.out.below hB)
  have HRo0' := Lib.hid (HRo0.out.below hB)
  obtain ⟨ao1, co1, rfl⟩ := hr.shape
  clear hr hB HF HBD H2D HRDba HRo0
  have HF := HF'
  have HBD := HB'
  have H2D := H2'
  have HRDba := HRDba'
  have HRo0 := HRo0'
  clear HF' HB' H2' HRDba' HRo0'
  go_wp2_with fail
  refine ⟨fun _ => FactsB.facts HF.out, ?_⟩
  refine plan5_big rfl ?_
  go_wp2_with fail
  refine (one_any (fun g => g < n0) 6 (free + 1) _).mono ?_
  rintro e wd3 ⟨vo2, rfl, hr, hB⟩
  have HRo2 := Lib.hid hr
  have HF' := Lib.hid (FactsB.below hB HF.out)
  have HB' := Lib.hid (HBD.out.trans (hB.mono HBD.out.size))
  have H2' := Lib.hid (Blk_same H2D.out hB)
  have HRDba' := Lib.hid (HRDba.out.below hB)
  have HRo0' := Lib.hid (HRo0.out.below hB)
  have HRo1' := Lib.hid (HRo1.out.below hB)
  obtain ⟨ao2, co2, rfl⟩ := hr.shape
  clear hr hB HF HBD H2D HRDba HRo0 HRo1
  have HF := HF'
  have HBD := HB'
  have H2D := H2'
  have HRDba := HRDba'
  have HRo0 := HRo0'
  have HRo1 := HRo1'
  clear HF' HB' H2' HRDba' HRo0' HRo1'
  go_wp2_with fail
  refine ⟨fun _ => FactsB.facts HF.out, ?_⟩
  refine plan5_big rfl ?_
  go_wp2_with fail
  refine (one_any (fun g => g < n0) 7 (free) _).mono ?_
  rintro e wd4 ⟨vo3, rfl, hr, hB⟩
  have HRo3 := Lib.hid hr
  have HF' := Lib.hid (FactsB.below hB HF.out)
  have HB' := Lib.hid (HBD.out.trans (hB.mono HBD.out.size))
  have H2' := Lib.hid (Blk_same H2D.out hB)
  have HRDba' := Lib.hid (HRDba.out.below hB)
  have HRo0' := Lib.hid (HRo0.out.below hB)
  have HRo1' := Lib.hid (HRo1.out.below hB)
  have HRo2' := Lib.hid (HRo2.out.below hB)
  obtain ⟨ao3, co3, rfl⟩ := hr.shape
  clear hr hB HF HBD H2D HRDba HRo0 HRo1 HRo2
  have HF := HF'
  have HBD := HB'
  have H2D := H2'
  have HRDba := HRDba'
  have HRo0 := HRo0'
  have HRo1 := HRo1'
  have HRo2 := HRo2'
  clear HF' HB' H2' HRDba' HRo0' HRo1' HRo2'
  go_wp2_with fail
  refine ⟨fun _ => FactsB.facts HF.out, ?_⟩
  refine plan5_big rfl ?_
  go_wp2_with fail
  refine (one_any (fun g => g < n0) 8 (0) _).mono ?_
  rintro e wd5 ⟨vo4, rfl, hr, hB⟩
  have HRo4 := Lib.hid hr
  have HF' := Lib.hid (FactsB.below hB HF.out)
  have HB' := Lib.hid (HBD.out.trans (hB.mono HBD.out.size))
  have H2' := Lib.hid (Blk_same H2D.out hB)
  have HRDba' := Lib.hid (HRDba.out.below hB)
  have HRo0' := Lib.hid (HRo0.out.below hB)
  have HRo1' := Lib.hid (HRo1.out.below hB)
  have HRo2' := Lib.hid (HRo2.out.below hB)
  have HRo3' := Lib.hid (HRo3.out.below hB)
  obtain ⟨ao4, co4, rfl⟩ := hr.shape
  clear hr hB HF HBD H2D HRDba HRo0 HRo1 HRo2 HRo3
  have HF := HF'
  have HBD := HB'
  have H2D := H2'
  have HRDba := HRDba'
  have HRo0 := HRo0'
  have HRo1 := HRo1'
  have HRo2 := HRo2'
  have HRo3 := HRo3'
  clear HF' HB' H2' HRDba' HRo0' HRo1' HRo2' HRo3'
  go_wp2_with fail
  refine ⟨fun _ => FactsB.facts HF.out, ?_⟩
  have HPC := Lib.hid (pcs_new (n := 6) (c := 6) (T := 36) (vs := [.slice ao0 [In0 6 (free)].length co0, .slice ao1 [In0 4 ((X.1.length : Int) + 4)].length co1, .slice ao2 [In0 6 (free + 1)].length co2, .slice paba X.1.length pcba, .slice ao3 [In0 7 (free)].length co3, .slice ao4 [In0 8 (0)].length co4]) (ps := [[In0 6 (free)], [In0 4 ((X.1.length : Int) + 4)], [In0 6 (free + 1)], X.1, [In0 7 (free)], [In0 8 (0)]]) ⟨HRo0.out, HRo1.out, HRo2.out, HRDba.out, HRo3.out, HRo4.out, trivial⟩ rfl)
  have hfl : [[In0 6 (free)], [In0 4 ((X.1.length : Int) + 4)], [In0 6 (free + 1)], X.1, [In0 7 (free)], [In0 8 (0)]].flatten = [In0 6 free, In0 4 ((X.1.length : Int) + 4), In0 6 (free + 1)] ++ (X.1 ++ [In0 7 free, In0 8 0]) := by simp 
  have hlenf : [[In0 6 (free)], [In0 4 ((X.1.length : Int) + 4)], [In0 6 (free + 1)], X.1, [In0 7 (free)], [In0 8 (0)]].flatten.length ≤ 1000000 := by rw [hfl]; simp only [List.length_append, List.length_cons, List.length_nil]; omega
  refine plan5_big rfl ?_
  go_wp2_with fail
  have hBq : Below wd5.heap.size wd5 (wd5.alloc (.cells #[.slice ao0 [In0 6 (free)].length co0, .slice ao1 [In0 4 ((X.1.length : Int) + 4)].length co1, .slice ao2 [In0 6 (free + 1)].length co2, .slice paba X.1.length pcba, .slice ao3 [In0 7 (free)].length co3, .slice ao4 [In0 8 (0)].length co4] 36)) := (Below.refl _ _).alloc (Nat.le_refl _) _
  have HF' := Lib.hid (FactsB.below hBq HF.out)
  have HB' := Lib.hid (HBD.out.trans (hBq.mono HBD.out.size))
  have H2' := Lib.hid (Blk_same H2D.out hBq)
  clear hBq HF HBD H2D
  refine ⟨fun _ => FactsB.facts HF'.out, ?_⟩
  refine plan5_big rfl ?_
  go_wp2_with fail
  refine (join_any [[In0 6 (free)], [In0 4 ((X.1.length : Int) + 4)], [In0 6 (free + 1)], X.1, [In0 7 (free)], [In0 8 (0)]] _ _ _ HPC.out hlenf (by show 6 ≤ 1000; decide)).mono ?_
  rintro e wj ⟨vj, rfl, hrj, hB⟩
  rw [hfl] at hrj
  have HF := Lib.hid (FactsB.below hB HF'.out)
  have HRJ := Lib.hid hrj
  have HBJ := Lib.hid (HB'.out.trans (hB.mono HB'.out.size))
  have hb2 := Blk_same H2'.out hB
  have H2J := Lib.hid hb2
  obtain ⟨aj, lj, cj, rfl⟩ : ∃ aj lj cj, vj = Value.slice aj lj cj := by
    obtain ⟨a', c', h'⟩ := hrj.shape
    exact ⟨_, _, _, h'⟩
  have f0 := hb2.free 0
  have f1 := hb2.free 1
  have l2 := hb2.lt
  have d0 : wj.cell? ⟨w.heap.size + 1 + 1, 0, none⟩ = some (.slice none 0 0) := hb2.cell 0
  have d1 : wj.cell? ⟨w.heap.size + 1 + 1, 1, none⟩ = some (.int .i64 0) := hb2.cell 1
  clear hb2 hB hrj HF' HB' H2' HPC hfl hlenf
  go_wp2_with fail
  refine ⟨fun _ => FactsB.facts HF.out, ?_⟩
  iterate 1
    apply plan5_early
    case hi => rfl
    case h =>
      intro w9 hf
      simp only [Facts] at hf
      obtain ⟨z0, z1, _⟩ := hf
      still_step
      exact wpStill_nil rfl
  refine plan5_big rfl ?_
  go_wp2_with fail
  refine ⟨fun h => absurd rfl h, plan5_nil ?_⟩
  go_wp2_with fail
  have hend := Blk.putCells (cs := [.slice none 0 0, .int .i64 0]) (vs := [.slice aj lj cj, .int .i64 X.2]) H2J.out rfl
  have hp := pc_end (f := X.2) HRJ.out H2J.out HBJ.out (b := w.heap.size + 1 + 1) (by omega) hn0
  simp only [putCells, Nat.reduceAdd] at hend hp
  refine bodyPost_ret (results_cell_row rfl _ _ (w.heap.size + 1 + 1) 95 _ _ _ rfl hend.at_ Try.underlying95 rfl (by kernel_rfl)) rfl ?_
  exact hp
set_option maxHeartbeats 8000000 in
theorem rbody_else (n : Nat) (ih : RBodyOk n) (t : Tm) (n0 : Nat) (w : World) (k : Int) (s : ByteArray) (x : Int) (a : Option Addr) (l c : Nat) (cop ca free : Int) (hn0 : n0 ≤ w.heap.size) (hv : TmV w (fun g => g < n0) t (.agg #[.int .i64 k, .string s, .int .i64 x, .slice a l c])) (hf0 : 0 ≤ free) (hf1 : free + 4 * Tm.sz t ≤ 1000000) (hsz : 12 * (Tm.sz t : Int) ≤ 1000000) (hdp : Tm.dp t ≤ ((n + 1 : Nat) : Int)) (k3 : k ≠ 3) (h1 : Tm.two t sComma = false) (h2 : Tm.two t sSemi = false) (h3 : Tm.two t sArrow = false) (ho : Tm.one1 t sNot = false) :
    Calls Try.prog 48 #[.agg #[.int .i64 k, .string s, .int .i64 x, .slice a l c], .agg #[.int .i64 cop, .int .i64 ca, .int .i64 0, .string noStr, .int .i64 0, .slice none 0 0], .int .i64 free] w (PcRet n0 w (bd (n + 1) t (In0 cop ca) free)) := by
  obtain ⟨hb0, hb1, hb2, hB0, hz0⟩ := three_new w (.cells #[.int .i64 k, .string s, .int .i64 x, .slice a l c] 24) (.cells #[.int .i64 cop, .int .i64 ca, .int .i64 0, .string noStr, .int .i64 0, .slice none 0 0] 75) (.cells #[.slice none 0 0, .int .i64 0] 95)
  have H0 := Lib.hid hb0
  have H1 := Lib.hid hb1
  have H2 := Lib.hid hb2
  have HB0 := Lib.hid hB0
  have HZ0 := Lib.hid hz0
  have HV := Lib.hid (fun w2 (hB : Below w.heap.size w w2) => TmV.below hv hB)
  obtain ⟨ek, es, ex, -, -, -, hat⟩ := TmV_at hv
  obtain ⟨hl2, -⟩ := at_len hat
  have HL2 := Lib.hid hl2
  have HB := HB0
  clear hb0 hb1 hb2 hB0 hz0 hv hat hl2
  have hb3 : (k == 3) = false := by simp [k3]
  have hna : ∀ ns, ¬ Tm.atom t ns = true := fun ns => by unfold Tm.atom; rw [← ek]; simp [k3]
  have hbd : bd (n + 1) t (In0 cop ca) free = ([⟨2, 0, t⟩], free) := by
    rw [bd, if_neg (hna _), if_neg (hna _), if_neg (hna _), if_neg (by rw [h1]; decide), if_neg (by unfold Tm.ite; rw [h2]; simp), if_neg (by rw [h3]; decide), if_neg (by rw [h2]; decide), if_neg (by rw [ho]; decide)]
  rw [hbd]
  have hcase : ((k == 4) = false ∨ (k = 4 ∧ (s.toList == [92, 43]) = false) ∨ (k = 4 ∧ s = ⟨#[92, 43]⟩ ∧ ((l : Int) == 1) = false)) := by
    by_cases k4 : k = 4
    · by_cases e : s = ⟨#[92, 43]⟩
      · right; right
        refine ⟨k4, e, ?_⟩
        rw [beq_eq_false_iff_ne]
        intro hl
        unfold Tm.one1 at ho
        rw [← ek, ← es, k4, e, decide_eq_true (show t.ls.length = 1 by rw [← HL2.out]; omega)] at ho
        exact absurd ho (by decide)
      · right; left
        exact ⟨k4, str_ne' #[92, 43] e⟩
    · left
      simp [k4]
  clear hbd hna ek es ex ho k3
  rcases hcase with q1 | ⟨q1, q2⟩ | ⟨q1, q2, q3⟩
  · go_enter Try.func48, Try.ntmps48
    go_wp2_with fail
    have hq := rtwo_any t sComma _ _ _ (HV.out _ HB.out)
    rw [h1] at hq
    refine hq.mono ?_
    rintro e w4 ⟨rfl, hB⟩
    have HB4 := Lib.hid (HB.out.trans (hB.mono HB.out.size))
    have hb0 := Blk_same H0.out hB
    have hb1 := Blk_same H1.out hB
    have hb2 := Blk_same H2.out hB
    have H04 := Lib.hid hb0
    have H14 := Lib.hid hb1
    have H24 := Lib.hid hb2
    have z0 : w4.cell? ⟨w.heap.size, 0, none⟩ = some (.int .i64 k) := hb0.cell 0
    have z1 : w4.cell? ⟨w.heap.size, 1, none⟩ = some (.string s) := hb0.cell 1
    have z2 : w4.cell? ⟨w.heap.size, 2, none⟩ = some (.int .i64 x) := hb0.cell 2
    have z3 : w4.cell? ⟨w.heap.size, 3, none⟩ = some (.slice a l c) := hb0.cell 3
    have lz := hb0.lt
    clear hq hB hb0 hb1 hb2 H0 H1 H2 HB
    go_wp2_with fail
    have hq := rtwo_any t sSemi _ _ _ (HV.out _ HB4.out)
    rw [h2] at hq
    refine hq.mono ?_
    rintro e w5 ⟨rfl, hB⟩
    have HB5 := Lib.hid (HB4.out.trans (hB.mono HB4.out.size))
    have hb0 := Blk_same H04.out hB
    have hb1 := Blk_same H14.out hB
    have hb2 := Blk_same H24.out hB
    have H05 := Lib.hid hb0
    have H15 := Lib.hid hb1
    have H25 := Lib.hid hb2
    have z0 : w5.cell? ⟨w.heap.size, 0, none⟩ = some (.int .i64 k) := hb0.cell 0
    have z1 : w5.cell? ⟨w.heap.size, 1, none⟩ = some (.string s) := hb0.cell 1
    have z2 : w5.cell? ⟨w.heap.size, 2, none⟩ = some (.int .i64 x) := hb0.cell 2
    have z3 : w5.cell? ⟨w.heap.size, 3, none⟩ = some (.slice a l c) := hb0.cell 3
    have lz := hb0.lt
    clear hq hB hb0 hb1 hb2 H04 H14 H24 HB4
    go_wp2_with fail
    have hq := rtwo_any t sArrow _ _ _ (HV.out _ HB5.out)
    rw [h3] at hq
    refine hq.mono ?_
    rintro e w6 ⟨rfl, hB⟩
    have HB6 := Lib.hid (HB5.out.trans (hB.mono HB5.out.size))
    have hb0 := Blk_same H05.out hB
    have hb1 := Blk_same H15.out hB
    have hb2 := Blk_same H25.out hB
    have H06 := Lib.hid hb0
    have H16 := Lib.hid hb1
    have H26 := Lib.hid hb2
    have z0 : w6.cell? ⟨w.heap.size, 0, none⟩ = some (.int .i64 k) := hb0.cell 0
    have z1 : w6.cell? ⟨w.heap.size, 1, none⟩ = some (.string s) := hb0.cell 1
    have z2 : w6.cell? ⟨w.heap.size, 2, none⟩ = some (.int .i64 x) := hb0.cell 2
    have z3 : w6.cell? ⟨w.heap.size, 3, none⟩ = some (.slice a l c) := hb0.cell 3
    have lz := hb0.lt
    clear hq hB hb0 hb1 hb2 H05 H15 H25 HB5
    go_wp2_with fail
    have hq := rtwo_any t sSemi _ _ _ (HV.out _ HB6.out)
    rw [h2] at hq
    refine hq.mono ?_
    rintro e w7 ⟨rfl, hB⟩
    have HB7 := Lib.hid (HB6.out.trans (hB.mono HB6.out.size))
    have hb0 := Blk_same H06.out hB
    have hb1 := Blk_same H16.out hB
    have hb2 := Blk_same H26.out hB
    have H07 := Lib.hid hb0
    have H17 := Lib.hid hb1
    have H27 := Lib.hid hb2
    have z0 : w7.cell? ⟨w.heap.size, 0, none⟩ = some (.int .i64 k) := hb0.cell 0
    have z1 : w7.cell? ⟨w.heap.size, 1, none⟩ = some (.string s) := hb0.cell 1
    have z2 : w7.cell? ⟨w.heap.size, 2, none⟩ = some (.int .i64 x) := hb0.cell 2
    have z3 : w7.cell? ⟨w.heap.size, 3, none⟩ = some (.slice a l c) := hb0.cell 3
    have lz := hb0.lt
    clear hq hB hb0 hb1 hb2 H06 H16 H26 HB6
    have hb2 := H27.out
    have f0 := hb2.free 0
    have f1 := hb2.free 1
    have l2 := hb2.lt
    have d0 : w7.cell? ⟨w.heap.size + 1 + 1, 0, none⟩ = some (.slice none 0 0) := hb2.cell 0
    have d1 : w7.cell? ⟨w.heap.size + 1 + 1, 1, none⟩ = some (.int .i64 0) := hb2.cell 1
    clear hb2
    go_wp2_with fail
    have hend := (Blk.putCells (cs := [.slice none 0 0, .int .i64 0]) (vs := [.slice (some ⟨w7.heap.size, 0, none⟩) 1 1, .int .i64 free]) H27.out rfl).alloc (.cells #[.int .i64 2, .int .i64 0, .int .i64 k, .string s, .int .i64 x, .slice a l c] 75)
    have hbel := below_put HB7.out (b := w.heap.size + 1 + 1) (by omega) [.slice (some ⟨w7.heap.size, 0, none⟩) 1 1, .int .i64 free]
    have hnew := heap_alloc_new (putCells w7 (w.heap.size + 1 + 1) 0 [.slice (some ⟨w7.heap.size, 0, none⟩) 1 1, .int .i64 free]) (.cells #[.int .i64 2, .int .i64 0, .int .i64 k, .string s, .int .i64 x, .slice a l c] 75)
    rw [put_size] at hnew
    have hbel2 := hbel.alloc hbel.size (.cells #[.int .i64 2, .int .i64 0, .int .i64 k, .string s, .int .i64 x, .slice a l c] 75)
    have hrv := RV.one (i := ⟨2, 0, t⟩) (c := 1) hnew (HV.out _ hbel2)
    simp only [putCells, Nat.reduceAdd] at hend hbel2 hrv
    refine bodyPost_ret (results_cell_row rfl _ _ (w.heap.size + 1 + 1) 95 _ _ _ rfl hend.at_ Try.underlying95 rfl (by kernel_rfl)) rfl ?_
    exact ⟨_, rfl, hrv, hbel2⟩
  · subst q1
    go_enter Try.func48, Try.ntmps48
    go_wp2_with fail
    have hq := rtwo_any t sComma _ _ _ (HV.out _ HB.out)
    rw [h1] at hq
    refine hq.mono ?_
    rintro e w4 ⟨rfl, hB⟩
    have HB4 := Lib.hid (HB.out.trans (hB.mono HB.out.size))
    have hb0 := Blk_same H0.out hB
    have hb1 := Blk_same H1.out hB
    have hb2 := Blk_same H2.out hB
    have H04 := Lib.hid hb0
    have H14 := Lib.hid hb1
    have H24 := Lib.hid hb2
    have z0 : w4.cell? ⟨w.heap.size, 0, none⟩ = some (.int .i64 4) := hb0.cell 0
    have z1 : w4.cell? ⟨w.heap.size, 1, none⟩ = some (.string s) := hb0.cell 1
    have z2 : w4.cell? ⟨w.heap.size, 2, none⟩ = some (.int .i64 x) := hb0.cell 2
    have z3 : w4.cell? ⟨w.heap.size, 3, none⟩ = some (.slice a l c) := hb0.cell 3
    have lz := hb0.lt
    clear hq hB hb0 hb1 hb2 H0 H1 H2 HB
    go_wp2_with fail
    have hq := rtwo_any t sSemi _ _ _ (HV.out _ HB4.out)
    rw [h2] at hq
    refine hq.mono ?_
    rintro e w5 ⟨rfl, hB⟩
    have HB5 := Lib.hid (HB4.out.trans (hB.mono HB4.out.size))
    have hb0 := Blk_same H04.out hB
    have hb1 := Blk_same H14.out hB
    have hb2 := Blk_same H24.out hB
    have H05 := Lib.hid hb0
    have H15 := Lib.hid hb1
    have H25 := Lib.hid hb2
    have z0 : w5.cell? ⟨w.heap.size, 0, none⟩ = some (.int .i64 4) := hb0.cell 0
    have z1 : w5.cell? ⟨w.heap.size, 1, none⟩ = some (.string s) := hb0.cell 1
    have z2 : w5.cell? ⟨w.heap.size, 2, none⟩ = some (.int .i64 x) := hb0.cell 2
    have z3 : w5.cell? ⟨w.heap.size, 3, none⟩ = some (.slice a l c) := hb0.cell 3
    have lz := hb0.lt
    clear hq hB hb0 hb1 hb2 H04 H14 H24 HB4
    go_wp2_with fail
    have hq := rtwo_any t sArrow _ _ _ (HV.out _ HB5.out)
    rw [h3] at hq
    refine hq.mono ?_
    rintro e w6 ⟨rfl, hB⟩
    have HB6 := Lib.hid (HB5.out.trans (hB.mono HB5.out.size))
    have hb0 := Blk_same H05.out hB
    have hb1 := Blk_same H15.out hB
    have hb2 := Blk_same H25.out hB
    have H06 := Lib.hid hb0
    have H16 := Lib.hid hb1
    have H26 := Lib.hid hb2
    have z0 : w6.cell? ⟨w.heap.size, 0, none⟩ = some (.int .i64 4) := hb0.cell 0
    have z1 : w6.cell? ⟨w.heap.size, 1, none⟩ = some (.string s) := hb0.cell 1
    have z2 : w6.cell? ⟨w.heap.size, 2, none⟩ = some (.int .i64 x) := hb0.cell 2
    have z3 : w6.cell? ⟨w.heap.size, 3, none⟩ = some (.slice a l c) := hb0.cell 3
    have lz := hb0.lt
    clear hq hB hb0 hb1 hb2 H05 H15 H25 HB5
    go_wp2_with fail
    have hq := rtwo_any t sSemi _ _ _ (HV.out _ HB6.out)
    rw [h2] at hq
    refine hq.mono ?_
    rintro e w7 ⟨rfl, hB⟩
    have HB7 := Lib.hid (HB6.out.trans (hB.mono HB6.out.size))
    have hb0 := Blk_same H06.out hB
    have hb1 := Blk_same H16.out hB
    have hb2 := Blk_same H26.out hB
    have H07 := Lib.hid hb0
    have H17 := Lib.hid hb1
    have H27 := Lib.hid hb2
    have z0 : w7.cell? ⟨w.heap.size, 0, none⟩ = some (.int .i64 4) := hb0.cell 0
    have z1 : w7.cell? ⟨w.heap.size, 1, none⟩ = some (.string s) := hb0.cell 1
    have z2 : w7.cell? ⟨w.heap.size, 2, none⟩ = some (.int .i64 x) := hb0.cell 2
    have z3 : w7.cell? ⟨w.heap.size, 3, none⟩ = some (.slice a l c) := hb0.cell 3
    have lz := hb0.lt
    clear hq hB hb0 hb1 hb2 H06 H16 H26 HB6
    have hb2 := H27.out
    have f0 := hb2.free 0
    have f1 := hb2.free 1
    have l2 := hb2.lt
    have d0 : w7.cell? ⟨w.heap.size + 1 + 1, 0, none⟩ = some (.slice none 0 0) := hb2.cell 0
    have d1 : w7.cell? ⟨w.heap.size + 1 + 1, 1, none⟩ = some (.int .i64 0) := hb2.cell 1
    clear hb2
    go_wp2_with fail
    have hend := (Blk.putCells (cs := [.slice none 0 0, .int .i64 0]) (vs := [.slice (some ⟨w7.heap.size, 0, none⟩) 1 1, .int .i64 free]) H27.out rfl).alloc (.cells #[.int .i64 2, .int .i64 0, .int .i64 4, .string s, .int .i64 x, .slice a l c] 75)
    have hbel := below_put HB7.out (b := w.heap.size + 1 + 1) (by omega) [.slice (some ⟨w7.heap.size, 0, none⟩) 1 1, .int .i64 free]
    have hnew := heap_alloc_new (putCells w7 (w.heap.size + 1 + 1) 0 [.slice (some ⟨w7.heap.size, 0, none⟩) 1 1, .int .i64 free]) (.cells #[.int .i64 2, .int .i64 0, .int .i64 4, .string s, .int .i64 x, .slice a l c] 75)
    rw [put_size] at hnew
    have hbel2 := hbel.alloc hbel.size (.cells #[.int .i64 2, .int .i64 0, .int .i64 4, .string s, .int .i64 x, .slice a l c] 75)
    have hrv := RV.one (i := ⟨2, 0, t⟩) (c := 1) hnew (HV.out _ hbel2)
    simp only [putCells, Nat.reduceAdd] at hend hbel2 hrv
    refine bodyPost_ret (results_cell_row rfl _ _ (w.heap.size + 1 + 1) 95 _ _ _ rfl hend.at_ Try.underlying95 rfl (by kernel_rfl)) rfl ?_
    exact ⟨_, rfl, hrv, hbel2⟩
  · subst q1
    subst q2
    go_enter Try.func48, Try.ntmps48
    go_wp2_with fail
    have hq := rtwo_any t sComma _ _ _ (HV.out _ HB.out)
    rw [h1] at hq
    refine hq.mono ?_
    rintro e w4 ⟨rfl, hB⟩
    have HB4 := Lib.hid (HB.out.trans (hB.mono HB.out.size))
    have hb0 := Blk_same H0.out hB
    have hb1 := Blk_same H1.out hB
    have hb2 := Blk_same H2.out hB
    have H04 := Lib.hid hb0
    have H14 := Lib.hid hb1
    have H24 := Lib.hid hb2
    have z0 : w4.cell? ⟨w.heap.size, 0, none⟩ = some (.int .i64 4) := hb0.cell 0
    have z1 : w4.cell? ⟨w.heap.size, 1, none⟩ = some (.string ⟨#[92, 43]⟩) := hb0.cell 1
    have z2 : w4.cell? ⟨w.heap.size, 2, none⟩ = some (.int .i64 x) := hb0.cell 2
    have z3 : w4.cell? ⟨w.heap.size, 3, none⟩ = some (.slice a l c) := hb0.cell 3
    have lz := hb0.lt
    clear hq hB hb0 hb1 hb2 H0 H1 H2 HB
    go_wp2_with fail
    have hq := rtwo_any t sSemi _ _ _ (HV.out _ HB4.out)
    rw [h2] at hq
    refine hq.mono ?_
    rintro e w5 ⟨rfl, hB⟩
    have HB5 := Lib.hid (HB4.out.trans (hB.mono HB4.out.size))
    have hb0 := Blk_same H04.out hB
    have hb1 := Blk_same H14.out hB
    have hb2 := Blk_same H24.out hB
    have H05 := Lib.hid hb0
    have H15 := Lib.hid hb1
    have H25 := Lib.hid hb2
    have z0 : w5.cell? ⟨w.heap.size, 0, none⟩ = some (.int .i64 4) := hb0.cell 0
    have z1 : w5.cell? ⟨w.heap.size, 1, none⟩ = some (.string ⟨#[92, 43]⟩) := hb0.cell 1
    have z2 : w5.cell? ⟨w.heap.size, 2, none⟩ = some (.int .i64 x) := hb0.cell 2
    have z3 : w5.cell? ⟨w.heap.size, 3, none⟩ = some (.slice a l c) := hb0.cell 3
    have lz := hb0.lt
    clear hq hB hb0 hb1 hb2 H04 H14 H24 HB4
    go_wp2_with fail
    have hq := rtwo_any t sArrow _ _ _ (HV.out _ HB5.out)
    rw [h3] at hq
    refine hq.mono ?_
    rintro e w6 ⟨rfl, hB⟩
    have HB6 := Lib.hid (HB5.out.trans (hB.mono HB5.out.size))
    have hb0 := Blk_same H05.out hB
    have hb1 := Blk_same H15.out hB
    have hb2 := Blk_same H25.out hB
    have H06 := Lib.hid hb0
    have H16 := Lib.hid hb1
    have H26 := Lib.hid hb2
    have z0 : w6.cell? ⟨w.heap.size, 0, none⟩ = some (.int .i64 4) := hb0.cell 0
    have z1 : w6.cell? ⟨w.heap.size, 1, none⟩ = some (.string ⟨#[92, 43]⟩) := hb0.cell 1
    have z2 : w6.cell? ⟨w.heap.size, 2, none⟩ = some (.int .i64 x) := hb0.cell 2
    have z3 : w6.cell? ⟨w.heap.size, 3, none⟩ = some (.slice a l c) := hb0.cell 3
    have lz := hb0.lt
    clear hq hB hb0 hb1 hb2 H05 H15 H25 HB5
    go_wp2_with fail
    have hq := rtwo_any t sSemi _ _ _ (HV.out _ HB6.out)
    rw [h2] at hq
    refine hq.mono ?_
    rintro e w7 ⟨rfl, hB⟩
    have HB7 := Lib.hid (HB6.out.trans (hB.mono HB6.out.size))
    have hb0 := Blk_same H06.out hB
    have hb1 := Blk_same H16.out hB
    have hb2 := Blk_same H26.out hB
    have H07 := Lib.hid hb0
    have H17 := Lib.hid hb1
    have H27 := Lib.hid hb2
    have z0 : w7.cell? ⟨w.heap.size, 0, none⟩ = some (.int .i64 4) := hb0.cell 0
    have z1 : w7.cell? ⟨w.heap.size, 1, none⟩ = some (.string ⟨#[92, 43]⟩) := hb0.cell 1
    have z2 : w7.cell? ⟨w.heap.size, 2, none⟩ = some (.int .i64 x) := hb0.cell 2
    have z3 : w7.cell? ⟨w.heap.size, 3, none⟩ = some (.slice a l c) := hb0.cell 3
    have lz := hb0.lt
    clear hq hB hb0 hb1 hb2 H06 H16 H26 HB6
    have hb2 := H27.out
    have f0 := hb2.free 0
    have f1 := hb2.free 1
    have l2 := hb2.lt
    have d0 : w7.cell? ⟨w.heap.size + 1 + 1, 0, none⟩ = some (.slice none 0 0) := hb2.cell 0
    have d1 : w7.cell? ⟨w.heap.size + 1 + 1, 1, none⟩ = some (.int .i64 0) := hb2.cell 1
    clear hb2
    go_wp2_with fail
    have hend := (Blk.putCells (cs := [.slice none 0 0, .int .i64 0]) (vs := [.slice (some ⟨w7.heap.size, 0, none⟩) 1 1, .int .i64 free]) H27.out rfl).alloc (.cells #[.int .i64 2, .int .i64 0, .int .i64 4, .string ⟨#[92, 43]⟩, .int .i64 x, .slice a l c] 75)
    have hbel := below_put HB7.out (b := w.heap.size + 1 + 1) (by omega) [.slice (some ⟨w7.heap.size, 0, none⟩) 1 1, .int .i64 free]
    have hnew := heap_alloc_new (putCells w7 (w.heap.size + 1 + 1) 0 [.slice (some ⟨w7.heap.size, 0, none⟩) 1 1, .int .i64 free]) (.cells #[.int .i64 2, .int .i64 0, .int .i64 4, .string ⟨#[92, 43]⟩, .int .i64 x, .slice a l c] 75)
    rw [put_size] at hnew
    have hbel2 := hbel.alloc hbel.size (.cells #[.int .i64 2, .int .i64 0, .int .i64 4, .string ⟨#[92, 43]⟩, .int .i64 x, .slice a l c] 75)
    have hrv := RV.one (i := ⟨2, 0, t⟩) (c := 1) hnew (HV.out _ hbel2)
    simp only [putCells, Nat.reduceAdd] at hend hbel2 hrv
    refine bodyPost_ret (results_cell_row rfl _ _ (w.heap.size + 1 + 1) 95 _ _ _ rfl hend.at_ Try.underlying95 rfl (by kernel_rfl)) rfl ?_
    exact ⟨_, rfl, hrv, hbel2⟩

theorem rbody_all : ∀ n, 1 ≤ n → RBodyOk n
  | 0, h => absurd h (by decide)
  | n + 1, _ => by
    have step : RBodyOk n → RBodyOk (n + 1) := fun ih t n0 w k s x a l c cop ca free hn0 hv hf0 hf1 hsz hdp => by
      by_cases k3 : k = 3
      · exact rbody_atoms n ih t n0 w k s x a l c cop ca free hn0 hv hf0 hf1 hsz hdp k3
      cases hc : Tm.two t sComma
      · cases hs : Tm.two t sSemi
        · cases hr : Tm.two t sArrow
          · cases ho : Tm.one1 t sNot
            · exact rbody_else n ih t n0 w k s x a l c cop ca free hn0 hv hf0 hf1 hsz hdp k3 hc hs hr ho
            · exact rbody_not n ih t n0 w k s x a l c cop ca free hn0 hv hf0 hf1 hsz hdp k3 ho
          · exact rbody_arrow n ih t n0 w k s x a l c cop ca free hn0 hv hf0 hf1 hsz hdp k3 hr
        · cases ha : Tm.two (targ t 0) sArrow
          · exact rbody_semi n ih t n0 w k s x a l c cop ca free hn0 hv hf0 hf1 hsz hdp k3 hs ha
          · exact rbody_ite n ih t n0 w k s x a l c cop ca free hn0 hv hf0 hf1 hsz hdp k3 hs ha
      · exact rbody_comma n ih t n0 w k s x a l c cop ca free hn0 hv hf0 hf1 hsz hdp k3 hc
    by_cases hn : 1 ≤ n
    · exact step (rbody_all n hn)
    · obtain rfl : n = 0 := by omega
      refine step fun t n0 w k s x a l c cop ca free hn0 hv hf0 hf1 hsz hdp => ?_
      have := dp_pos t
      omega
end Go.Proofs.Ytamiidklcadkmaa
