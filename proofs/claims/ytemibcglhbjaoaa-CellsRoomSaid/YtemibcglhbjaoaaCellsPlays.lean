/- CellsPlays: whatever is made, freed, read, written, swapped and added to, an arena answers as the document says. -/
import Derived.Test.YtemibcglhbjaoaaCellsAbs
import Derived.Test.YtemibcglhbjaoaaCellsDoesMake
import Derived.Test.YtemibcglhbjaoaaCellsDoesCell
import Derived.Test.YtemibcglhbjaoaaCellsDoesSizeA
import Derived.Test.YtemibcglhbjaoaaCellsDoesSizeB
import Derived.Test.YtemibcglhbjaoaaArgs
import Derived.Deep.LoopGhost
set_option maxRecDepth 20000
set_option linter.unusedVariables false
set_option linter.unusedSimpArgs false
namespace Go.Proofs.Ytemibcglhbjaoaa
open Go.RowKit Go.PM

section
variable {w : World} {own : Nat → Nat} {k a L : Nat} {V : AV} {v : Value} {A : RA}
theorem asks_any (hS : Arena w own k a V) (hR : RefA w own L v A) (hkL : k ≠ L) (hf : V.faults < 1000000000000000) (hm : V.made < 1000000000000000) (hrf : -1 ≤ A.faults ∧ A.faults < 6000000000000000)
    (hlen2 : A.blocks.length < 4000000000000) (hmost : 0 ≤ A.most ∧ A.most ≤ 65536) (kd b i x y : Int) :
    Calls Try.prog 29 #[.pointer (some ⟨a, 0, none⟩), v, .agg #[.int .i64 kd, .int .i64 b, .int .i64 i, .int .i64 x, .int .i64 y]] w (AsPost k a L (askV V kd b i x y) (askR A kd b i x y) (askOk V A kd b i x y) w own) := by
  by_cases h1 : kd = 1
  · subst h1; exact asks_1 hS hR hkL hf hm hrf hlen2 hmost b i x y
  by_cases h2 : kd = 2
  · subst h2; exact asks_2 hS hR hkL hf hm hrf hlen2 hmost b i x y
  by_cases h3 : kd = 3
  · subst h3; exact asks_3 hS hR hkL hf hm hrf hlen2 hmost b i x y
  by_cases h4 : kd = 4
  · subst h4; exact asks_4 hS hR hkL hf hm hrf hlen2 hmost b i x y
  by_cases h5 : kd = 5
  · subst h5; exact asks_5 hS hR hkL hf hm hrf hlen2 hmost b i x y
  by_cases h6 : kd = 6
  · subst h6; exact asks_6 hS hR hkL hf hm hrf hlen2 hmost b i x y
  by_cases h7 : kd = 7
  · subst h7
    by_cases h0 : A.reachErr b 0 = 0
    · exact asks_7a hS hR hkL hf hm hrf hlen2 hmost b i x y h0
    · exact asks_7b hS hR hkL hf hm hrf hlen2 hmost b i x y h0
  · exact asks_else hS hR hkL hf hm hrf hlen2 hmost kd b i x y (by omega)
/-- Beside the document's own arena. -/
theorem asks_plays (hS : Arena w own k a (abs A)) (hR : RefA w own L v A) (hkL : k ≠ L) (hf : 0 ≤ A.faults ∧ A.faults < 1000000000000000)
    (hlen2 : A.blocks.length < 4000000000000) (hmost : 0 ≤ A.most ∧ A.most ≤ 65536) (kd b i x y : Int) :
    Calls Try.prog 29 #[.pointer (some ⟨a, 0, none⟩), v, .agg #[.int .i64 kd, .int .i64 b, .int .i64 i, .int .i64 x, .int .i64 y]] w (AsPost k a L (abs (askR A kd b i x y)) (askR A kd b i x y) true w own) := by
  have h := asks_any hS hR hkL (show A.faults < 1000000000000000 by omega) (show ((A.blocks.length : Nat) : Int) < 1000000000000000 by omega) (by omega) hlen2 hmost kd b i x y
  rwa [(abs_ask kd b i x y).1, (abs_ask kd b i x y).2] at h
end
def CpInv (w0 : World) (a mb N : Nat) (g : Nat) (iv : Value) (w : World) : Prop :=
  ∃ (own : Nat → Nat) (i : Nat) (A : RA) (sa : Option Addr) (sc : Nat), iv = .int .i64 i ∧ i + g = N ∧ A.blocks.length ≤ i ∧ (0 ≤ A.faults ∧ A.faults ≤ i) ∧ (0 ≤ A.most ∧ A.most ≤ 65536) ∧ Arena w own 1 a (abs A) ∧
    RefA w own 5 (aAgg (.slice sa A.blocks.length sc) A) A ∧
    Blk w own 2 mb (.cells #[.slice sa A.blocks.length sc, .int .i64 A.most, .int .i64 A.faults] 56 (0, 0)) ∧ Ext (fun c => c ≠ 0) w0 w (fun _ => 0) own
set_option maxHeartbeats 4000000 in
theorem cellsPlays_walk (w : World) (most : Int) (hmost : -9223372036854775808 ≤ most ∧ most ≤ 9223372036854775807) (v : Value) (n b off : Nat) (f : Nat → Nat → Int) (hp : Recs Try.prog 51 5 w v n b off f) :
    Calls Try.prog 7 #[.int .i64 most, v] w fun e w' => e = .returned (.bool true) ∧ Below w.heap.size w w' := by
  have hlen := hp.len
  have hidx := hp.idx
  have hsz := hp.size
  go_enter Try.func7, Try.ntmps7
  go_wp2_with fail
  refine (New_any most 1 (fun _ => 0) w).mono ?_
  rintro e w1 ⟨rfl, hB, hA⟩
  have h01 : Ext (fun c => c ≠ 0) w w1 (fun _ => 0) (ow (fun _ => 0) w.heap.size 1) := Ext.of_below hB _ _
  generalize ow (fun _ => 0) w.heap.size 1 = own1 at *
  generalize w.heap.size + 1 = a at *
  have H := Lib.hid h01
  clear h01 hB
  go_wp2_with fail
  refine (alive_any w1).mono ?_
  rintro e w2 ⟨rfl, hB⟩
  have h12 : Ext (fun c => c ≠ 0) w1 w2 own1 (ow own1 w1.heap.size 2) := Ext.of_below hB _ _
  have hA2 := hA.ext (M := fun _ => False) (Ext.of_below hB _ 2) (by simp)
  have H2 := Lib.hid (H.out.trans h12)
  generalize ow own1 w1.heap.size 2 = own2 at *
  clear h12 hB hA H
  go_wp2_with fail
  refine (aNew_any most w2 own2 5).mono ?_
  rintro e w3 ⟨v', rfl, hR, hB⟩
  obtain ⟨sa, sc, rfl⟩ := hR.agg
  have hE3 : ∀ M, Ext M w2 w3 own2 (ow own2 w2.heap.size 5) := fun M => Ext.of_below hB _ _
  have hA3 := hA2.ext (hE3 (fun _ => False)) (by simp)
  have hX : ∀ M, Ext M w3 (w3.alloc (.cells #[.slice sa (RA.fresh most).blocks.length sc, .int .i64 (RA.fresh most).most, .int .i64 (RA.fresh most).faults] 56)) (ow own2 w2.heap.size 5) (ow (ow own2 w2.heap.size 5) w3.heap.size 2) := fun M => (Ext.refl.ow 2).alloc _
  have hinv : CpInv w a w3.heap.size n n (.int .i64 0) (w3.alloc (.cells #[.slice sa (RA.fresh most).blocks.length sc, .int .i64 (RA.fresh most).most, .int .i64 (RA.fresh most).faults] 56)) :=
    ⟨_, 0, RA.fresh most, sa, sc, rfl, by omega, by simp [RA.fresh], by simp [RA.fresh], by simp only [RA.fresh]; omega, hA3.ext (hX (fun _ => False)) (by simp), hR.ext (hX (fun _ => False)) (by simp),
      Blk.new w3 _ (ow_ge (Nat.le_refl _)), (H2.out.trans (hE3 _)).trans (hX _)⟩
  have HINV := Lib.hid hinv
  unfold aAgg
  clear hinv hX hA3 hE3 hB hR H2 hA2
  simp only [id_eq]
  go_wp2_with fail
  generalize hmb : w3.heap.size = mb at *
  clear hmb
  go_loopg [27] n (fun g iv wr => CpInv w a mb n g iv wr)
  case atStart => exact HINV.out
  case round =>
    clear HINV
    obtain ⟨own, i, A, sa, sc, rfl, hi, hl, hfl, hmo, hA, hR, hbx, hE⟩ := hrel
    have HE := Lib.hid hE
    clear hE
    by_cases hlt : i < n
    · have hlt2 : (i : Int) < n := by omega
      have c0 := hp.at_ (HE.out.below (by simp)) hlt (show 0 < 5 by omega)
      have c1 := hp.at_ (HE.out.below (by simp)) hlt (show 1 < 5 by omega)
      have c2 := hp.at_ (HE.out.below (by simp)) hlt (show 2 < 5 by omega)
      have c3 := hp.at_ (HE.out.below (by simp)) hlt (show 3 < 5 by omega)
      have c4 := hp.at_ (HE.out.below (by simp)) hlt (show 4 < 5 by omega)
      rw [Nat.add_zero] at c0
      generalize f i 0 = kd at *
      generalize f i 1 = bb at *
      generalize f i 2 = ii at *
      generalize f i 3 = x at *
      generalize f i 4 = y at *
      have hX : ∀ M, Ext M wr (wr.alloc (.cells #[.int .i64 kd, .int .i64 bb, .int .i64 ii, .int .i64 x, .int .i64 y] 53)) own (ow own wr.heap.size 2) := fun M => (Ext.refl.ow 2).alloc _
      have hob : Blk (wr.alloc (.cells #[.int .i64 kd, .int .i64 bb, .int .i64 ii, .int .i64 x, .int .i64 y] 53)) (ow own wr.heap.size 2) 2 wr.heap.size (.cells #[.int .i64 kd, .int .i64 bb, .int .i64 ii, .int .i64 x, .int .i64 y] 53 (0, 0)) := Blk.new wr _ (ow_ge (Nat.le_refl _))
      have hne : mb ≠ wr.heap.size := Nat.ne_of_lt hbx.lt
      have hA' := hA.ext (hX (fun _ => False)) (by simp)
      have hR' := hR.ext (hX (fun _ => False)) (by simp)
      have hbx' := hbx.ext (hX (fun _ => False)) (by simp)
      have HE' := Lib.hid (HE.out.trans (hX _))
      obtain ⟨b0, b1, b2⟩ := three hbx'
      clear hA hR hbx HE hX
      go_wp2_with fail
      clear b0 b1 b2
      generalize hob2 : wr.heap.size = ob at *
      generalize wr.alloc (.cells #[.int .i64 kd, .int .i64 bb, .int .i64 ii, .int .i64 x, .int .i64 y] 53) = wa at *
      generalize ow own ob 2 = own2 at *
      refine (asks_plays hA' hR' (by decide) (by omega) (by omega) hmo kd bb ii x y).mono ?_
      rintro e w4 ⟨v', own4, rfl, hE4, hA4, hR4⟩
      obtain ⟨hst1, hst2, hst3⟩ := Step.ask (A := A) kd bb ii x y
      have HM := Lib.hid (show 0 ≤ (askR A kd bb ii x y).most ∧ (askR A kd bb ii x y).most ≤ 65536 by rw [hst1]; exact hmo)
      clear hst1
      have hbx4 := hbx'.ext hE4 (by simp)
      have HE4 := Lib.hid (HE'.out.trans (hE4.mono (M' := fun c => c ≠ 0) (by simp)))
      generalize askR A kd bb ii x y = A4 at *
      clear hE4 HE' hob hA' hR' hbx' c0 c1 c2 c3 c4
      obtain ⟨sa', sc', rfl⟩ := hR4.agg
      have hX : ∀ M, Ext M w4 (w4.alloc (.cells #[.slice sa' A4.blocks.length sc', .int .i64 A4.most, .int .i64 A4.faults] 56)) own4 own4 := fun M => Ext.refl.alloc _
      have hA5 := hA4.ext (hX (fun _ => False)) (by simp)
      have hR5 := hR4.ext (hX (fun _ => False)) (by simp)
      have hbx5 := hbx4.ext (hX (fun _ => False)) (by simp)
      have HE5 := Lib.hid (HE4.out.trans (hX _))
      have h2 : Ext (fun c => c = 2) (w4.alloc (.cells #[.slice sa' A4.blocks.length sc', .int .i64 A4.most, .int .i64 A4.faults] 56)) (putCells (w4.alloc (.cells #[.slice sa' A4.blocks.length sc', .int .i64 A4.most, .int .i64 A4.faults] 56)) mb 0 [.slice sa' A4.blocks.length sc', .int .i64 A4.most, .int .i64 A4.faults]) own4 own4 := Ext.putCells (fun _ => hbx5.col) _ _ _ Ext.refl
      have hA6 := hA5.ext h2 (by simp)
      have hR6 := hR5.ext h2 (by simp)
      have hbx6 := hbx5.putCells (cs := [.slice sa A.blocks.length sc, .int .i64 A.most, .int .i64 A.faults]) (vs := [.slice sa' A4.blocks.length sc', .int .i64 A4.most, .int .i64 A4.faults]) rfl
      have HE6 := Lib.hid (HE5.out.trans (h2.mono (by simp)))
      obtain ⟨p0, p1, p2⟩ := three hbx5
      obtain ⟨q0, q1, q2⟩ := three_free hbx5
      simp only [putCells, Nat.reduceAdd] at hA6 hR6 hbx6 HE6
      clear h2 hX hA4 hR4 hA5 hR5 hbx4 hbx5 HE4 HE5
      unfold aAgg
      have HA6 := Lib.hid hA6
      have HR6 := Lib.hid hR6
      have HBX6 := Lib.hid hbx6
      clear hA6 hR6 hbx6
      go_wp2_with fail
      generalize (((w4.alloc (.cells #[.slice sa' A4.blocks.length sc', .int .i64 A4.most, .int .i64 A4.faults] 56)).setCell ⟨mb, 0, none⟩ (.slice sa' A4.blocks.length sc')).setCell ⟨mb, 1, none⟩ (.int .i64 A4.most)).setCell ⟨mb, 2, none⟩ (.int .i64 A4.faults) = w5 at *
      clear p0 p1 p2 q0 q1 q2
      refine (Live_any HA6.out).mono ?_
      rintro e w6 ⟨rfl, nd, rfl⟩
      have hN : ∀ M, Ext M w5 (w5.drewN nd) own4 own4 := fun M => Ext.refl.drewN nd
      have HA7 := Lib.hid (HA6.out.ext (hN (fun _ => False)) (by simp))
      have HR7 := Lib.hid (HR6.out.ext (hN (fun _ => False)) (by simp))
      have HBX7 := Lib.hid (HBX6.out.ext (hN (fun _ => False)) (by simp))
      have HE7 := Lib.hid (HE6.out.trans (hN _))
      clear HA6 HR6 HBX6 HE6 hN
      generalize w5.drewN nd = w7 at *
      obtain ⟨p0, p1, p2⟩ := three HBX7.out
      go_wp2_with fail
      refine (aLive_any HR7.out).mono ?_
      rintro e w8 ⟨rfl, hB⟩
      have hN : ∀ M, Ext M w7 w8 own4 (ow own4 w7.heap.size 3) := fun M => Ext.of_below hB _ _
      have HA8 := Lib.hid (HA7.out.ext (hN (fun _ => False)) (by simp))
      have HR8 := Lib.hid (HR7.out.ext (hN (fun _ => False)) (by simp))
      have HBX8 := Lib.hid (HBX7.out.ext (hN (fun _ => False)) (by simp))
      have HE8 := Lib.hid (HE7.out.trans (hN _))
      clear HA7 HR7 HBX7 HE7 hN hB p0 p1 p2
      generalize ow own4 w7.heap.size 3 = own8 at *
      have hen : (abs A4).ents.length = nlive A4.blocks := ents_len A4.blocks 1
      have hli : (abs A4).live = ((mlive A4.blocks : Nat) : Int) := rfl
      rw [hen, hli]
      go_wp2_with fail
      have hD : ∀ M, Ext M w8 w8.drew own8 own8 := fun M => Ext.refl.drew
      have HA9 := Lib.hid (HA8.out.ext (hD (fun _ => False)) (by simp))
      have HR9 := Lib.hid (HR8.out.ext (hD (fun _ => False)) (by simp))
      have HBX9 := Lib.hid (HBX8.out.ext (hD (fun _ => False)) (by simp))
      have HE9 := Lib.hid (HE8.out.trans (hD _))
      have HMD := Lib.hid ((Made_any HA9.out).mono fun e w' (h : e = .returned (.int .i64 (abs A4).made) ∧ w8.drew = w') => (⟨h.1, h.2.symm⟩ : e = .returned (.int .i64 (A4.blocks.length : Nat)) ∧ w' = w8.drew))
      have HFT := Lib.hid ((Faults_any HA9.out).mono fun e w' (h : e = .returned (.int .i64 (abs A4).faults) ∧ w8.drew = w') => (⟨h.1, h.2.symm⟩ : e = .returned (.int .i64 A4.faults) ∧ w' = w8.drew))
      clear HA8 HR8 HBX8 HE8 hD hen hli
      refine wp_region_plan3 [(true, 0, [1, 2, 3, 4, 5, 6, 7, 8, 9, 10, 11, 12, 13, 14, 15, 16, 17, 18, 19, 20, 21, 22, 23, 24, 25, 26]), (true, 1, [2, 3, 4, 5, 6, 7, 8, 9, 10, 11, 12, 13, 14, 15, 16, 17, 18, 19, 20, 21, 22, 23, 24, 25, 26]), (true, 2, [3, 4, 5, 6, 7, 8, 9, 10, 11, 12, 13, 14, 15, 16, 17, 18, 19, 20, 21, 22, 23, 24, 25, 26]), (true, 3, [5, 6, 7, 8, 9, 10, 11, 12, 13, 14, 15, 16, 17, 18, 19, 20, 21, 22, 23, 24, 25, 26]), (true, 4, [5, 6, 7, 8, 9, 10, 11, 12, 13, 14, 15, 16, 17, 18, 19, 20, 21, 22, 23, 24, 25, 26]), (true, 5, [6, 7, 8, 9, 10, 11, 12, 13, 14, 15, 16, 17, 18, 19, 20, 21, 22, 23, 24, 25, 26]), (true, 6, [7, 8, 9, 10, 11, 12, 13, 14, 15, 16, 17, 18, 19, 20, 21, 22, 23, 24, 25, 26]), (true, 7, [8, 9, 10, 11, 12, 13, 14, 15, 16, 17, 18, 19, 20, 21, 22, 23, 24, 25, 26]), (true, 8, [10, 11, 12, 13, 14, 15, 16, 17, 18, 19, 20, 21, 22, 23, 24, 25, 26]), (true, 9, [10, 11, 12, 13, 14, 15, 16, 17, 18, 19, 20, 21, 22, 23, 24, 25, 26]), (true, 10, [11, 12, 13, 14, 15, 16, 17, 18, 19, 20, 21, 22, 23, 24, 25, 26]), (true, 11, [12, 13, 14, 15, 16, 17, 18, 19, 20, 21, 22, 23, 24, 25, 26]), (true, 12, [13, 14, 15, 16, 17, 18, 19, 20, 21, 22, 23, 24, 25, 26]), (true, 13, [14, 18, 19, 20, 21, 22, 23, 24, 25, 26]), (true, 14, [18, 19, 20, 21, 22, 23, 24, 25, 26]), (true, 15, [16, 17, 18, 19, 20, 21, 22, 23, 24, 25, 26]), (true, 16, [17, 18, 19, 20, 21, 22, 23, 24, 25, 26]), (true, 17, [18, 19, 20, 21, 22, 23, 24, 25, 26]), (true, 18, [19, 20, 21, 22, 23, 24, 25, 26]), (true, 19, [20, 21, 22, 23, 24, 25, 26]), (true, 20, [21, 22, 23, 24, 25, 26]), (true, 21, [22, 25, 26]), (true, 22, [25, 26]), (true, 23, [24, 25, 26]), (true, 24, [25, 26]), (true, 25, [26]), (true, 26, [])] (fun w1 => w1 = w8.drew) (by kernel_rfl) (by kernel_rfl) (fun _ _ _ d _ h => by cases d <;> exact h) rfl ?_
      generalize w8.drew = w9 at *
      obtain ⟨p0, p1, p2⟩ := three HBX9.out
      have bs1 : ((nlive A4.blocks : Int) != nlive A4.blocks) = false := by simp
      have bs2 : ((mlive A4.blocks : Int) != mlive A4.blocks) = false := by simp
      have bs3 : ((A4.blocks.length : Int) != A4.blocks.length) = false := by simp
      have bs4 : (A4.faults != A4.faults) = false := by simp
      iterate 14
        apply plan3_early
        case hi => rfl
        case h =>
          rintro w1 rfl
          still_step
          exact wpStill_nil rfl
      apply plan3_early
      case hi => rfl
      case h =>
        rintro w1 rfl
        still_call HMD.out
        exact wpStill_nil rfl
      iterate 7
        apply plan3_early
        case hi => rfl
        case h =>
          rintro w1 rfl
          still_step
          exact wpStill_nil rfl
      apply plan3_early
      case hi => rfl
      case h =>
        rintro w1 rfl
        still_call HFT.out
        exact wpStill_nil rfl
      iterate 4
        apply plan3_early
        case hi => rfl
        case h =>
          rintro w1 rfl
          still_step
          exact wpStill_nil rfl
      refine plan3_nil ?_
      go_wp2_with fail
      go_roundg (n - (i + 1))
      case measure => omega
      case rel => exact ⟨own8, i + 1, A4, sa', sc', by go_num, by omega, by omega, by omega, HM.out, HA9.out, HR9.out, HBX9.out, HE9.out⟩
    · obtain rfl : i = n := by omega
      go_wp2_with fail
      go_ret
      exact ⟨rfl, HE.out.below (by simp)⟩
end Go.Proofs.Ytemibcglhbjaoaa
