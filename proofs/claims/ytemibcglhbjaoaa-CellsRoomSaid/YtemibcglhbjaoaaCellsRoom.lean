/- CellsRoom: an Alloc is refused just for want of live room; what is freed gives its room back. -/
import Derived.Test.YtemibcglhbjaoaaCellsApart
set_option maxRecDepth 20000
set_option linter.unusedVariables false
set_option linter.unusedSimpArgs false
namespace Go.Proofs.Ytemibcglhbjaoaa
open Go.RowKit Go.PM

theorem live_abs {w : World} {own : Nat → Nat} {k a : Nat} {A : RA} (hA : Arena w own k a (abs A)) :
    Calls Try.prog 32 #[.pointer (some ⟨a, 0, none⟩)] w fun e w' => e = .returned (.tuple #[.int .i64 (nlive A.blocks : Nat), .int .i64 (mlive A.blocks : Nat)]) ∧ ∃ n, w' = w.drewN n := by
  have h := Live_any hA
  rw [show (abs A).ents.length = nlive A.blocks from ents_len A.blocks 1] at h
  exact h
theorem nlive_append (l : List (List Int)) (x : List Int) : nlive (l ++ [x]) = nlive l + (if 0 < x.length then 1 else 0) := by
  unfold nlive
  rw [List.filter_append, List.length_append]
  by_cases h : 0 < x.length
  · simp [List.filter_cons, h]
  · have : x.length = 0 := by omega
    simp [List.filter_cons, this]
theorem room_blocks {A : RA} {n : Int} (h : A.allocErr n = 0) : (A.alloc n).blocks = A.blocks ++ [List.replicate n.toNat 0] ∧ (A.alloc n).most = A.most ∧ (A.alloc n).faults = A.faults := by
  unfold RA.alloc
  rw [if_pos h]
  exact ⟨rfl, rfl, rfl⟩
theorem room_new {A : RA} {n : Int} (h : A.allocErr n = 0) : (A.alloc n).blk ((A.blocks.length : Int) + 1) = List.replicate n.toNat 0 := by
  obtain ⟨hb, _, _⟩ := room_blocks h
  rw [RA.blk_in (by rw [hb]; simp)]
  simp [hb]
theorem room_freed {A : RA} {n : Int} (h : A.allocErr n = 0) : ((A.alloc n).put ((A.blocks.length : Int) + 1) []).blocks = A.blocks ++ [[]] := by
  obtain ⟨hb, _, _⟩ := room_blocks h
  have e1 : ((A.blocks.length : Int) + 1 - 1).toNat = A.blocks.length := by omega
  simp [RA.put, hb, e1]
def Rm1 (w0 : World) (a : Nat) (most : Int) (N : Nat) (g : Nat) (iv : Value) (w : World) : Prop :=
  ∃ (own : Nat → Nat) (i : Nat) (A : RA), iv = .int .i64 i ∧ i + g = N ∧ A.blocks.length ≤ i ∧ (0 ≤ A.faults ∧ A.faults ≤ i) ∧ A.most = (RA.fresh most).most ∧ Arena w own 1 a (abs A) ∧ Ext (fun c => c ≠ 0) w0 w (fun _ => 0) own
def Rm2 (w0 : World) (a : Nat) (A : RA) (N : Nat) (g : Nat) (iv : Value) (w : World) : Prop :=
  ∃ (own : Nat → Nat) (i : Nat), iv = .int .i64 i ∧ i + g = N ∧ Arena w own 1 a (abs A) ∧ Ext (fun c => c ≠ 0) w0 w (fun _ => 0) own
set_option maxHeartbeats 8000000 in
theorem cellsRoom_walk (w : World) (most : Int) (hmost : -9223372036854775808 ≤ most ∧ most ≤ 9223372036854775807) (v : Value) (N b0 off : Nat) (f : Nat → Nat → Int) (hp : Recs Try.prog 51 5 w v N b0 off f)
    (n : Int) (hn : -9223372036854775808 ≤ n ∧ n ≤ 9223372036854775807) :
    Calls Try.prog 8 #[.int .i64 most, v, .int .i64 n] w fun e w' => e = .returned (.bool true) ∧ Below w.heap.size w w' := by
  have hlen := hp.len
  have hidx := hp.idx
  have hsz := hp.size
  go_enter Try.func8, Try.ntmps8
  go_wp2_with fail
  refine (New_any most 1 (fun _ => 0) w).mono ?_
  rintro e w1 ⟨rfl, hB, hA⟩
  have h01 : Ext (fun c => c ≠ 0) w w1 (fun _ => 0) (ow (fun _ => 0) w.heap.size 1) := Ext.of_below hB _ _
  generalize ow (fun _ => 0) w.heap.size 1 = own1 at *
  generalize w.heap.size + 1 = a at *
  have H := Lib.hid h01
  clear h01 hB
  go_wp2_with fail
  refine (alive_any w1).mono ?_
  rintro e w2 ⟨rfl, hB⟩
  have h12 : Ext (fun c => c ≠ 0) w1 w2 own1 (ow own1 w1.heap.size 2) := Ext.of_below hB _ _
  have hA2 := hA.ext (M := fun _ => False) (Ext.of_below hB _ 2) (by simp)
  have hinv : Rm1 w a most N N (.int .i64 0) w2 := ⟨_, 0, RA.fresh most, rfl, by omega, by simp [RA.fresh], by simp [RA.fresh], rfl, hA2, H.out.trans h12⟩
  have HINV := Lib.hid hinv
  clear h12 hB hA H hA2 hinv
  go_wp2_with fail
  go_loopg [34] N (fun g iv wr => Rm1 w a most N g iv wr)
  case atStart => exact HINV.out
  case round =>
    clear HINV
    obtain ⟨own, i, A, rfl, hi, hl, hfl, hmo, hA, hE⟩ := hrel
    have HE := Lib.hid hE
    have HMO := Lib.hid hmo
    clear hE hmo
    by_cases hlt : i < N
    · have hlt2 : (i : Int) < N := by omega
      have c0 := hp.at_ (HE.out.below (by simp)) hlt (show 0 < 5 by omega)
      have c1 := hp.at_ (HE.out.below (by simp)) hlt (show 1 < 5 by omega)
      have c2 := hp.at_ (HE.out.below (by simp)) hlt (show 2 < 5 by omega)
      have c3 := hp.at_ (HE.out.below (by simp)) hlt (show 3 < 5 by omega)
      have c4 := hp.at_ (HE.out.below (by simp)) hlt (show 4 < 5 by omega)
      rw [Nat.add_zero] at c0
      generalize f i 0 = kd at *
      generalize f i 1 = bb at *
      generalize f i 2 = ii at *
      generalize f i 3 = x at *
      generalize f i 4 = y at *
      have hX : ∀ M, Ext M wr (wr.alloc (.cells #[.int .i64 kd, .int .i64 bb, .int .i64 ii, .int .i64 x, .int .i64 y] 53)) own (ow own wr.heap.size 2) := fun M => (Ext.refl.ow 2).alloc _
      have hA' := hA.ext (hX (fun _ => False)) (by simp)
      have HE' := Lib.hid (HE.out.trans (hX _))
      clear hA HE hX
      go_wp2_with fail
      generalize wr.alloc (.cells #[.int .i64 kd, .int .i64 bb, .int .i64 ii, .int .i64 x, .int .i64 y] 53) = wa at *
      generalize ow own wr.heap.size 2 = own2 at *
      refine (asks_none hA' (by omega) (by omega) kd bb ii x y).mono ?_
      rintro e w4 ⟨u', ok, own4, rfl, hE4, hA4⟩
      obtain ⟨hst1, hst2, hst3⟩ := Step.ask (A := A) kd bb ii x y
      have HE4 := Lib.hid (HE'.out.trans (hE4.mono (M' := fun c => c ≠ 0) (by simp)))
      have HM4 := Lib.hid (hst1.trans HMO.out)
      generalize askR A kd bb ii x y = A4 at *
      clear hE4 HE' hA' c0 c1 c2 c3 c4 hst1
      go_wp2_with fail
      go_roundg (N - (i + 1))
      case measure => omega
      case rel => exact ⟨own4, i + 1, A4, by go_num, by omega, by omega, by omega, HM4.out, hA4, HE4.out⟩
    · obtain rfl : i = N := by omega
      have HFM := Lib.hid (show (RA.fresh most).most = min (max most 0) 65536 from rfl)
      have hml : 0 ≤ (mlive A.blocks : Int) ∧ (mlive A.blocks : Int) ≤ 65536 := by
        have h2 := hA.ok.most
        have h3 := hA.ok.live
        have e1 : (abs A).live = ((mlive A.blocks : Nat) : Int) := rfl
        omega
      go_wp2_with fail
      refine (live_abs hA).mono ?_
      rintro e w5 ⟨rfl, nd, rfl⟩
      have hN : ∀ M, Ext M wr (wr.drewN nd) own own := fun M => Ext.refl.drewN nd
      have hA5 := hA.ext (hN (fun _ => False)) (by simp)
      have HE5 := Lib.hid (HE.out.trans (hN _))
      clear hN hA HE
      generalize wr.drewN nd = w5 at *
      by_cases h1 : most < 0
      · have HT := Lib.hid (show A.most = 0 by rw [HMO.out, HFM.out]; omega)
        by_cases hn0 : n < 1 ∨ 256 < n
        · have he : A.allocErr n = 1 := by unfold RA.allocErr; rw [if_pos hn0]
          have HAL := Lib.hid (calls_as (r' := .tuple #[.int .i64 0, .int .i64 1]) (V' := abs A) (Alloc_any hA5 (show ((A.blocks.length : Nat) : Int) < 1000000000000000 by omega) n) (by rw [abs_allocErr, he]; rfl) (by rw [abs_alloc, RA.alloc, if_neg (by rw [he]; decide)]))
          clear he
          go_wp2_with fail
          refine HAL.out.mono ?_
          rintro e w6 ⟨rfl, own6, hE6, hA6⟩
          have HE6 := Lib.hid (HE5.out.trans (hE6.mono (M' := fun c => c ≠ 0) (by simp)))
          clear hE6 hA6 HAL HE5 hA5
          rcases hn0 with hn0 | hn0
          all_goals
            go_wp2_with fail
            all_goals
              go_ret
              exact ⟨rfl, HE6.out.below (by simp)⟩
        · by_cases hr : A.most < mlive A.blocks + n
          · have he : A.allocErr n = 21 := by unfold RA.allocErr; rw [if_neg hn0, if_pos hr]
            have HAL := Lib.hid (calls_as (r' := .tuple #[.int .i64 0, .int .i64 21]) (V' := abs A) (Alloc_any hA5 (show ((A.blocks.length : Nat) : Int) < 1000000000000000 by omega) n) (by rw [abs_allocErr, he]; rfl) (by rw [abs_alloc, RA.alloc, if_neg (by rw [he]; decide)]))
            have hn1 : ¬ n < 1 := by omega
            have hn2 : ¬ 256 < n := by omega
            have hr2 : ¬ n ≤ 0 - mlive A.blocks := by have := HT.out; omega
            clear he hr hn0
            go_wp2_with fail
            refine HAL.out.mono ?_
            rintro e w6 ⟨rfl, own6, hE6, hA6⟩
            have HE6 := Lib.hid (HE5.out.trans (hE6.mono (M' := fun c => c ≠ 0) (by simp)))
            have HLV := Lib.hid (live_abs hA6)
            clear hE6 hA6 HAL HE5 hA5
            go_wp2_with fail
            refine HLV.out.mono ?_
            rintro e w7 ⟨rfl, nd, rfl⟩
            have hN : ∀ M, Ext M w6 (w6.drewN nd) own6 own6 := fun M => Ext.refl.drewN nd
            have HE7 := Lib.hid (HE6.out.trans (hN _))
            clear hN
            go_wp2_with fail
            go_ret
            exact ⟨by simp, HE7.out.below (by simp)⟩
          · exfalso
            have := HT.out
            omega
      · by_cases h2 : 65536 < most
        · have HT := Lib.hid (show A.most = 65536 by rw [HMO.out, HFM.out]; omega)
          by_cases hn0 : n < 1 ∨ 256 < n
          · have he : A.allocErr n = 1 := by unfold RA.allocErr; rw [if_pos hn0]
            have HAL := Lib.hid (calls_as (r' := .tuple #[.int .i64 0, .int .i64 1]) (V' := abs A) (Alloc_any hA5 (show ((A.blocks.length : Nat) : Int) < 1000000000000000 by omega) n) (by rw [abs_allocErr, he]; rfl) (by rw [abs_alloc, RA.alloc, if_neg (by rw [he]; decide)]))
            clear he
            go_wp2_with fail
            refine HAL.out.mono ?_
            rintro e w6 ⟨rfl, own6, hE6, hA6⟩
            have HE6 := Lib.hid (HE5.out.trans (hE6.mono (M' := fun c => c ≠ 0) (by simp)))
            clear hE6 hA6 HAL HE5 hA5
            rcases hn0 with hn0 | hn0
            all_goals
              go_wp2_with fail
              all_goals
                go_ret
                exact ⟨rfl, HE6.out.below (by simp)⟩
          · by_cases hr : A.most < mlive A.blocks + n
            · have he : A.allocErr n = 21 := by unfold RA.allocErr; rw [if_neg hn0, if_pos hr]
              have HAL := Lib.hid (calls_as (r' := .tuple #[.int .i64 0, .int .i64 21]) (V' := abs A) (Alloc_any hA5 (show ((A.blocks.length : Nat) : Int) < 1000000000000000 by omega) n) (by rw [abs_allocErr, he]; rfl) (by rw [abs_alloc, RA.alloc, if_neg (by rw [he]; decide)]))
              have hn1 : ¬ n < 1 := by omega
              have hn2 : ¬ 256 < n := by omega
              have hr2 : ¬ n ≤ 65536 - mlive A.blocks := by have := HT.out; omega
              clear he hr hn0
              go_wp2_with fail
              refine HAL.out.mono ?_
              rintro e w6 ⟨rfl, own6, hE6, hA6⟩
              have HE6 := Lib.hid (HE5.out.trans (hE6.mono (M' := fun c => c ≠ 0) (by simp)))
              have HLV := Lib.hid (live_abs hA6)
              clear hE6 hA6 HAL HE5 hA5
              go_wp2_with fail
              refine HLV.out.mono ?_
              rintro e w7 ⟨rfl, nd, rfl⟩
              have hN : ∀ M, Ext M w6 (w6.drewN nd) own6 own6 := fun M => Ext.refl.drewN nd
              have HE7 := Lib.hid (HE6.out.trans (hN _))
              clear hN
              go_wp2_with fail
              go_ret
              exact ⟨by simp, HE7.out.below (by simp)⟩
            · have he : A.allocErr n = 0 := by unfold RA.allocErr; rw [if_neg hn0, if_neg hr]
              have HAL := Lib.hid (calls_as (r' := .tuple #[.int .i64 ((A.blocks.length : Int) + 1), .int .i64 0]) (V' := abs (A.alloc n)) (Alloc_any hA5 (show ((A.blocks.length : Nat) : Int) < 1000000000000000 by omega) n) (by rw [abs_allocErr, he]; rfl) (abs_alloc n))
              have hn1 : ¬ n < 1 := by omega
              have hn2 : ¬ 256 < n := by omega
              have hr2 : n ≤ 65536 - mlive A.blocks := by have := HT.out; omega
              obtain ⟨rb1, rb2, rb3⟩ := room_blocks he
              have rnew := room_new he
              have rfr := room_freed he
              have his := RA.is_of rnew (by intro h0; have := congrArg List.length h0; rw [List.length_replicate] at this; simp at this; omega)
              have HFE := Lib.hid (show (A.alloc n).freeErr ((A.blocks.length : Int) + 1) = 0 by rw [RA.freeErr, if_pos his])
              have HFR := Lib.hid (show (A.alloc n).free ((A.blocks.length : Int) + 1) = (A.alloc n).put ((A.blocks.length : Int) + 1) [] by rw [RA.free, if_pos his])
              have hnl : nlive ((A.alloc n).put ((A.blocks.length : Int) + 1) []).blocks = nlive A.blocks := by rw [rfr, nlive_append]; simp
              have hml2 : mlive ((A.alloc n).put ((A.blocks.length : Int) + 1) []).blocks = mlive A.blocks := by rw [rfr, mlive_append]; simp
              have hal2 : ((A.alloc n).put ((A.blocks.length : Int) + 1) []).allocErr n = 0 := by
                unfold RA.allocErr
                rw [if_neg hn0, hml2, if_neg]
                show ¬ (A.alloc n).most < _
                rw [rb2]; exact hr
              have hbl2 : ((A.alloc n).put ((A.blocks.length : Int) + 1) []).blocks.length = A.blocks.length + 1 := by rw [rfr]; simp
              have HAL2 := Lib.hid hal2
              have HNL := Lib.hid hnl
              have HML := Lib.hid hml2
              have HBL := Lib.hid hbl2
              have HF1 := Lib.hid rb3
              have HNEW := Lib.hid rnew
              generalize (A.alloc n).put ((A.blocks.length : Int) + 1) [] = A2 at *
              generalize A.alloc n = A1 at *
              clear he hr hn0 rb1 rb2 rb3 rnew rfr his hnl hml2 hal2 hbl2
              go_wp2_with fail
              refine HAL.out.mono ?_
              rintro e w6 ⟨rfl, own6, hE6, hA6⟩
              have HE6 := Lib.hid (HE5.out.trans (hE6.mono (M' := fun c => c ≠ 0) (by simp)))
              clear hE6 HAL HE5 hA5
              go_wp2_with fail
              go_loopg [17] n.toNat (fun g iv wr => Rm2 w a A1 n.toNat g iv wr)
              case atStart => exact ⟨own6, 0, rfl, by omega, hA6, HE6.out⟩
              case round =>
                clear hA6 HE6
                obtain ⟨own, q, rfl, hq, hA, hE⟩ := hrel
                have HE := Lib.hid hE
                clear hE
                by_cases hlt : q < n.toNat
                · have hlt2 : (q : Int) < n := by omega
                  obtain ⟨l1, l2, l3⟩ := live_load HNEW.out (i := q) (by rw [List.length_replicate]; exact hlt)
                  rw [List.getElem_replicate] at l2
                  have HLD := Lib.hid (calls_as (r' := .tuple #[.int .i64 0, .int .i64 0]) (V' := abs A1) (Load_any hA (show A1.faults < 1000000000000000 by rw [HF1.out]; omega) ((A.blocks.length : Int) + 1) q) (by rw [l2, l3]) l1)
                  clear l1 l2 l3
                  go_wp2_with fail
                  refine HLD.out.mono ?_
                  rintro e w7 ⟨rfl, own7, hE7, hA7⟩
                  have HE7 := Lib.hid (HE.out.trans (hE7.mono (M' := fun c => c ≠ 0) (by simp)))
                  clear hE7 hA HE HLD
                  go_wp2_with fail
                  go_roundg (n.toNat - (q + 1))
                  case measure => omega
                  case rel => exact ⟨own7, q + 1, by go_num, by omega, hA7, HE7.out⟩
                · have hq2 : (q : Int) = n := by omega
                  have HFREE := Lib.hid (calls_as (r' := .int .i64 0) (V' := abs A2) (Free_any hA (show A1.faults < 1000000000000000 by rw [HF1.out]; omega) ((A.blocks.length : Int) + 1)) (by rw [abs_freeErr, HFE.out]) (by rw [abs_free, HFR.out]))
                  go_wp2_with fail
                  refine HFREE.out.mono ?_
                  rintro e w7 ⟨rfl, own7, hE7, hA7⟩
                  have HE7 := Lib.hid (HE.out.trans (hE7.mono (M' := fun c => c ≠ 0) (by simp)))
                  have hlv := live_abs hA7
                  rw [HNL.out, HML.out] at hlv
                  have HLV := Lib.hid hlv
                  clear hE7 hA HE HFREE hlv
                  go_wp2_with fail
                  refine HLV.out.mono ?_
                  rintro e w8 ⟨rfl, nd, rfl⟩
                  have hN : ∀ M, Ext M w7 (w7.drewN nd) own7 own7 := fun M => Ext.refl.drewN nd
                  have HE8 := Lib.hid (HE7.out.trans (hN _))
                  have hA8 := hA7.ext (hN (fun _ => False)) (by simp)
                  have HAG := Lib.hid (calls_as (r' := .tuple #[.int .i64 ((A.blocks.length : Int) + 1 + 1), .int .i64 0]) (V' := (abs A2).alloc n) (Alloc_any hA8 (show ((A2.blocks.length : Nat) : Int) < 1000000000000000 by rw [HBL.out]; omega) n) (by rw [abs_allocErr, HAL2.out, if_pos rfl]; show Value.tuple #[.int .i64 (((A2.blocks.length : Nat) : Int) + 1), _] = _; rw [HBL.out]; rfl) rfl)
                  clear hN hA7 HE7 HLV hA8
                  generalize w7.drewN nd = w8 at *
                  go_wp2_with fail
                  refine HAG.out.mono ?_
                  rintro e w9 ⟨rfl, own9, hE9, hA9⟩
                  have HE9 := Lib.hid (HE8.out.trans (hE9.mono (M' := fun c => c ≠ 0) (by simp)))
                  clear hE9 hA9 HAG HE8
                  go_wp2_with fail
                  go_ret
                  exact ⟨by simp, HE9.out.below (by simp)⟩
        · have HT := Lib.hid (show A.most = most by rw [HMO.out, HFM.out]; omega)
          by_cases hn0 : n < 1 ∨ 256 < n
          · have he : A.allocErr n = 1 := by unfold RA.allocErr; rw [if_pos hn0]
            have HAL := Lib.hid (calls_as (r' := .tuple #[.int .i64 0, .int .i64 1]) (V' := abs A) (Alloc_any hA5 (show ((A.blocks.length : Nat) : Int) < 1000000000000000 by omega) n) (by rw [abs_allocErr, he]; rfl) (by rw [abs_alloc, RA.alloc, if_neg (by rw [he]; decide)]))
            clear he
            go_wp2_with fail
            refine HAL.out.mono ?_
            rintro e w6 ⟨rfl, own6, hE6, hA6⟩
            have HE6 := Lib.hid (HE5.out.trans (hE6.mono (M' := fun c => c ≠ 0) (by simp)))
            clear hE6 hA6 HAL HE5 hA5
            rcases hn0 with hn0 | hn0
            all_goals
              go_wp2_with fail
              all_goals
                go_ret
                exact ⟨rfl, HE6.out.below (by simp)⟩
          · by_cases hr : A.most < mlive A.blocks + n
            · have he : A.allocErr n = 21 := by unfold RA.allocErr; rw [if_neg hn0, if_pos hr]
              have HAL := Lib.hid (calls_as (r' := .tuple #[.int .i64 0, .int .i64 21]) (V' := abs A) (Alloc_any hA5 (show ((A.blocks.length : Nat) : Int) < 1000000000000000 by omega) n) (by rw [abs_allocErr, he]; rfl) (by rw [abs_alloc, RA.alloc, if_neg (by rw [he]; decide)]))
              have hn1 : ¬ n < 1 := by omega
              have hn2 : ¬ 256 < n := by omega
              have hr2 : ¬ n ≤ most - mlive A.blocks := by have := HT.out; omega
              clear he hr hn0
              go_wp2_with fail
              refine HAL.out.mono ?_
              rintro e w6 ⟨rfl, own6, hE6, hA6⟩
              have HE6 := Lib.hid (HE5.out.trans (hE6.mono (M' := fun c => c ≠ 0) (by simp)))
              have HLV := Lib.hid (live_abs hA6)
              clear hE6 hA6 HAL HE5 hA5
              go_wp2_with fail
              refine HLV.out.mono ?_
              rintro e w7 ⟨rfl, nd, rfl⟩
              have hN : ∀ M, Ext M w6 (w6.drewN nd) own6 own6 := fun M => Ext.refl.drewN nd
              have HE7 := Lib.hid (HE6.out.trans (hN _))
              clear hN
              go_wp2_with fail
              go_ret
              exact ⟨by simp, HE7.out.below (by simp)⟩
            · have he : A.allocErr n = 0 := by unfold RA.allocErr; rw [if_neg hn0, if_neg hr]
              have HAL := Lib.hid (calls_as (r' := .tuple #[.int .i64 ((A.blocks.length : Int) + 1), .int .i64 0]) (V' := abs (A.alloc n)) (Alloc_any hA5 (show ((A.blocks.length : Nat) : Int) < 1000000000000000 by omega) n) (by rw [abs_allocErr, he]; rfl) (abs_alloc n))
              have hn1 : ¬ n < 1 := by omega
              have hn2 : ¬ 256 < n := by omega
              have hr2 : n ≤ most - mlive A.blocks := by have := HT.out; omega
              obtain ⟨rb1, rb2, rb3⟩ := room_blocks he
              have rnew := room_new he
              have rfr := room_freed he
              have his := RA.is_of rnew (by intro h0; have := congrArg List.length h0; rw [List.length_replicate] at this; simp at this; omega)
              have HFE := Lib.hid (show (A.alloc n).freeErr ((A.blocks.length : Int) + 1) = 0 by rw [RA.freeErr, if_pos his])
              have HFR := Lib.hid (show (A.alloc n).free ((A.blocks.length : Int) + 1) = (A.alloc n).put ((A.blocks.length : Int) + 1) [] by rw [RA.free, if_pos his])
              have hnl : nlive ((A.alloc n).put ((A.blocks.length : Int) + 1) []).blocks = nlive A.blocks := by rw [rfr, nlive_append]; simp
              have hml2 : mlive ((A.alloc n).put ((A.blocks.length : Int) + 1) []).blocks = mlive A.blocks := by rw [rfr, mlive_append]; simp
              have hal2 : ((A.alloc n).put ((A.blocks.length : Int) + 1) []).allocErr n = 0 := by
                unfold RA.allocErr
                rw [if_neg hn0, hml2, if_neg]
                show ¬ (A.alloc n).most < _
                rw [rb2]; exact hr
              have hbl2 : ((A.alloc n).put ((A.blocks.length : Int) + 1) []).blocks.length = A.blocks.length + 1 := by rw [rfr]; simp
              have HAL2 := Lib.hid hal2
              have HNL := Lib.hid hnl
              have HML := Lib.hid hml2
              have HBL := Lib.hid hbl2
              have HF1 := Lib.hid rb3
              have HNEW := Lib.hid rnew
              generalize (A.alloc n).put ((A.blocks.length : Int) + 1) [] = A2 at *
              generalize A.alloc n = A1 at *
              clear he hr hn0 rb1 rb2 rb3 rnew rfr his hnl hml2 hal2 hbl2
              go_wp2_with fail
              refine HAL.out.mono ?_
              rintro e w6 ⟨rfl, own6, hE6, hA6⟩
              have HE6 := Lib.hid (HE5.out.trans (hE6.mono (M' := fun c => c ≠ 0) (by simp)))
              clear hE6 HAL HE5 hA5
              go_wp2_with fail
              go_loopg [17] n.toNat (fun g iv wr => Rm2 w a A1 n.toNat g iv wr)
              case atStart => exact ⟨own6, 0, rfl, by omega, hA6, HE6.out⟩
              case round =>
                clear hA6 HE6
                obtain ⟨own, q, rfl, hq, hA, hE⟩ := hrel
                have HE := Lib.hid hE
                clear hE
                by_cases hlt : q < n.toNat
                · have hlt2 : (q : Int) < n := by omega
                  obtain ⟨l1, l2, l3⟩ := live_load HNEW.out (i := q) (by rw [List.length_replicate]; exact hlt)
                  rw [List.getElem_replicate] at l2
                  have HLD := Lib.hid (calls_as (r' := .tuple #[.int .i64 0, .int .i64 0]) (V' := abs A1) (Load_any hA (show A1.faults < 1000000000000000 by rw [HF1.out]; omega) ((A.blocks.length : Int) + 1) q) (by rw [l2, l3]) l1)
                  clear l1 l2 l3
                  go_wp2_with fail
                  refine HLD.out.mono ?_
                  rintro e w7 ⟨rfl, own7, hE7, hA7⟩
                  have HE7 := Lib.hid (HE.out.trans (hE7.mono (M' := fun c => c ≠ 0) (by simp)))
                  clear hE7 hA HE HLD
                  go_wp2_with fail
                  go_roundg (n.toNat - (q + 1))
                  case measure => omega
                  case rel => exact ⟨own7, q + 1, by go_num, by omega, hA7, HE7.out⟩
                · have hq2 : (q : Int) = n := by omega
                  have HFREE := Lib.hid (calls_as (r' := .int .i64 0) (V' := abs A2) (Free_any hA (show A1.faults < 1000000000000000 by rw [HF1.out]; omega) ((A.blocks.length : Int) + 1)) (by rw [abs_freeErr, HFE.out]) (by rw [abs_free, HFR.out]))
                  go_wp2_with fail
                  refine HFREE.out.mono ?_
                  rintro e w7 ⟨rfl, own7, hE7, hA7⟩
                  have HE7 := Lib.hid (HE.out.trans (hE7.mono (M' := fun c => c ≠ 0) (by simp)))
                  have hlv := live_abs hA7
                  rw [HNL.out, HML.out] at hlv
                  have HLV := Lib.hid hlv
                  clear hE7 hA HE HFREE hlv
                  go_wp2_with fail
                  refine HLV.out.mono ?_
                  rintro e w8 ⟨rfl, nd, rfl⟩
                  have hN : ∀ M, Ext M w7 (w7.drewN nd) own7 own7 := fun M => Ext.refl.drewN nd
                  have HE8 := Lib.hid (HE7.out.trans (hN _))
                  have hA8 := hA7.ext (hN (fun _ => False)) (by simp)
                  have HAG := Lib.hid (calls_as (r' := .tuple #[.int .i64 ((A.blocks.length : Int) + 1 + 1), .int .i64 0]) (V' := (abs A2).alloc n) (Alloc_any hA8 (show ((A2.blocks.length : Nat) : Int) < 1000000000000000 by rw [HBL.out]; omega) n) (by rw [abs_allocErr, HAL2.out, if_pos rfl]; show Value.tuple #[.int .i64 (((A2.blocks.length : Nat) : Int) + 1), _] = _; rw [HBL.out]; rfl) rfl)
                  clear hN hA7 HE7 HLV hA8
                  generalize w7.drewN nd = w8 at *
                  go_wp2_with fail
                  refine HAG.out.mono ?_
                  rintro e w9 ⟨rfl, own9, hE9, hA9⟩
                  have HE9 := Lib.hid (HE8.out.trans (hE9.mono (M' := fun c => c ≠ 0) (by simp)))
                  clear hE9 hA9 HAG HE8
                  go_wp2_with fail
                  go_ret
                  exact ⟨by simp, HE9.out.below (by simp)⟩
end Go.Proofs.Ytemibcglhbjaoaa
