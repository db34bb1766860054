/- EpochBounds: never do more blocks of a thread wait than may, and none that waits is freed. -/
import Derived.Test.YtdomehpdjnfkeaaEpochPure
import Derived.Test.YtdomehpdjnfkeaaEpochLaw
import Derived.Test.YtdomehpdjnfkeaaInts
set_option maxRecDepth 20000
set_option linter.unusedVariables false
set_option linter.unusedSimpArgs false
namespace Go.Proofs.Ytdomehpdjnfkeaa
open Go.RowKit Go.PM

theorem run_max (ts : Array TypeId) (ty : TypeId) (a b : Int) (w : World) : (Builtin.max_ ts ty #[.int .i64 a, .int .i64 b]).run Try.prog w = .ok (.int .i64 (max a b)) w := by
  simp only [Builtin.max_, List.foldlM_cons, List.foldlM_nil, Builtin.max2]
  have : (if a < b then b else a) = max a b := by split <;> omega
  simp [← this]
theorem run_min (ts : Array TypeId) (ty : TypeId) (a b : Int) (w : World) : (Builtin.min_ ts ty #[.int .i64 a, .int .i64 b]).run Try.prog w = .ok (.int .i64 (min a b)) w := by
  simp only [Builtin.min_, List.foldlM_cons, List.foldlM_nil, Builtin.min2]
  have : (if b < a then b else a) = min a b := by split <;> omega
  simp [← this]
theorem Ints.take {w : World} {own : Nat → Nat} {k g n c i : Nat} {xs : List Int} (h : Row w own k 3 1 (.slice (some ⟨g, 0, none⟩) n c) n (irow xs)) (hi : i ≤ n) :
    Ints Try.prog 33 w (.slice (some ⟨g, 0, none⟩) i c) g 0 (xs.take i) := by
  obtain ⟨i0, hi0, hz0, hz1, hz2⟩ := parts_intL
  have hl : xs.length = n := by have := h.1; simpa [irow] using this
  have hti : (xs.take i).length = i := by rw [List.length_take]; omega
  refine ⟨fun w' ty => by rw [hti]; exact PM.run_len_slice Try.underlying33 _ _ _ w' ty, fun w' j hj => ?_, fun j hj => ?_, fun hp => ?_⟩
  · rw [PM.run_idx_slice Try.underlying33 hi0 g 0 i c j (by omega) w', hz1, Nat.mul_one]
  · obtain ⟨g', e, _, _, _, hx, hc⟩ := Row.irow_at h (show j < n by omega)
    injection e with e
    injection e with e
    subst e
    rw [Nat.zero_add, hc, List.getElem_take]
  · obtain ⟨g', e, hlt, _⟩ := Row.irow_at h (show 0 < n by omega)
    injection e with e
    injection e with e
    subst e
    exact hlt
theorem e4Y_bound (Y : YV) (V : AV) (kd t b : Int) : (e4Y Y V kd t b).bound = Y.bound := by
  unfold e4Y YV.enter YV.leave YV.retire YV.sweep YV.wait
  repeat' split
  all_goals rfl
def Eb1 (w0 : World) (a y : Nat) (ev : Value) (T : Int) (n : Nat) (g : Nat) (iv : Value) (w : World) : Prop :=
  ∃ (own : Nat → Nat) (i : Nat) (Y : YV) (V : AV) (lv : Value), iv = .int .i64 i ∧ i + g = n ∧ Bd i Y V ∧ Y.bound = T ∧ Arena w own 1 a V ∧ Yard w own 2 y a Y ev lv ∧ Ext (fun c => c ≠ 0) w0 w (fun _ => 0) own
def Eb2 (w0 : World) (a y : Nat) (ev lv wv : Value) (Y : YV) (V : AV) (g : Nat) (sv kv : Value) (w : World) : Prop :=
  ∃ (own : Nat → Nat) (k : Nat), kv = .int .i64 k ∧ k + g = 9 ∧ 1 ≤ k ∧ sv = .int .i64 (sumN Y k : Nat) ∧ Arena w own 1 a V ∧ Yard w own 2 y a Y ev lv ∧ Row w own 3 3 1 wv Y.waiting.length (irow Y.waiting) ∧ Ext (fun c => c ≠ 0) w0 w (fun _ => 0) own
def Eb3 (w0 : World) (a y : Nat) (ev lv wv : Value) (Y : YV) (V : AV) (g : Nat) (jv : Value) (w : World) : Prop :=
  ∃ (own : Nat → Nat) (j : Nat), jv = .int .i64 j ∧ j + g = Y.waiting.length ∧ Arena w own 1 a V ∧ Yard w own 2 y a Y ev lv ∧ Row w own 3 3 1 wv Y.waiting.length (irow Y.waiting) ∧ Ext (fun c => c ≠ 0) w0 w (fun _ => 0) own
def Eb4 (w0 : World) (a y : Nat) (ev : Value) (n : Nat) (V : AV) (g : Nat) (kv : Value) (w : World) : Prop :=
  ∃ (own : Nat → Nat) (k : Nat) (Y : YV) (lv : Value), kv = .int .i64 k ∧ k + g = 9 ∧ 1 ≤ k ∧ Zero k Y ∧ Bd n Y V ∧ Arena w own 1 a V ∧ Yard w own 2 y a Y ev lv ∧ Ext (fun c => c ≠ 0) w0 w (fun _ => 0) own
set_option maxHeartbeats 8000000 in
theorem epochBounds_walk (w : World) (threads : Int) (hth : -9223372036854775808 ≤ threads ∧ threads ≤ 9223372036854775807) (bound : Int) (hbn : -9223372036854775808 ≤ bound ∧ bound ≤ 9223372036854775807) (v : Value) (n b off : Nat) (f : Nat → Nat → Int) (hp : Recs Try.prog 22 3 w v n b off f) :
    Calls Try.prog 4 #[.int .i64 threads, .int .i64 bound, v] w fun e w' => e = .returned (.bool true) ∧ Below w.heap.size w w' := by
  have hlen := hp.len
  have hidx := hp.idx
  have hsz := hp.size
  have hmx := run_max
  have hmn := run_min
  go_enter Try.func4, Try.ntmps4
  go_wp2_with fail
  refine (New_any 3000 1 (fun _ => 0) w).mono ?_
  rintro e w1 ⟨rfl, hB, hA⟩
  have H1 := Lib.hid (Ext.of_below (M := fun c => c ≠ 0) hB (fun _ => 0) 1)
  generalize ow (fun _ => 0) w.heap.size 1 = own1 at *
  generalize w.heap.size + 1 = a at *
  clear hB
  go_wp2_with fail
  refine (alive4_any w1).mono ?_
  rintro e w0 ⟨rfl, hB⟩
  have hA := hA.ext (Ext.of_below (M := fun _ => False) hB own1 4) (by simp)
  have H0 := Lib.hid (H1.out.trans (Ext.of_below hB own1 4))
  generalize ow own1 w1.heap.size 4 = own0 at *
  clear hB H1
  go_wp2_with fail
  refine (YNew_any threads bound a 2 own0 w0).mono ?_
  rintro e w2 ⟨rfl, hB, ev, hY⟩
  have hA2 := hA.ext (Ext.of_below (M := fun _ => False) hB own0 2) (by simp)
  have H2 := Lib.hid (H0.out.trans (Ext.of_below hB own0 2))
  generalize ow own0 w0.heap.size 2 = own2 at *
  generalize w0.heap.size + 1 = y at *
  clear hB H0 hA
  go_wp2_with fail
  clear hmx hmn
  go_loopg [39] n (fun g iv wr => Eb1 w a y ev (min (max bound 0) 64) n g iv wr)
  case atStart => exact ⟨_, 0, _, _, _, rfl, by omega, Bd.fresh threads bound 3000, rfl, hA2, hY, H2.out⟩
  case round =>
    clear hA2 hY H2
    obtain ⟨own, i, Y, V, lv, rfl, hi, hbd, hT, hA, hY, hE⟩ := hrel
    have HE := Lib.hid hE
    have HBD := Lib.hid hbd
    clear hE
    have hfa := hbd.faults
    have hma := hbd.made
    have hno := hbd.now
    have hb64 : Y.bound ≤ 64 := hY.ok.bound.2
    have hfw := hbd.few hb64
    clear hbd
    by_cases hlt : i < n
    · have hlt2 : (i : Int) < n := by omega
      have c0 := hp.at_ (HE.out.below (by simp)) hlt (show 0 < 3 by omega)
      have c1 := hp.at_ (HE.out.below (by simp)) hlt (show 1 < 3 by omega)
      have c2 := hp.at_ (HE.out.below (by simp)) hlt (show 2 < 3 by omega)
      rw [Nat.add_zero] at c0
      generalize f i 0 = kd at *
      generalize f i 1 = t at *
      generalize f i 2 = bb at *
      have hX : ∀ M, Ext M wr (wr.alloc (.cells #[.int .i64 kd, .int .i64 t, .int .i64 bb] 32)) own (ow own wr.heap.size 4) := fun M => (Ext.refl.ow _).alloc _
      have hA' := hA.ext (hX (fun _ => False)) (by simp)
      have hY' := hY.ext (hX (fun _ => False)) (by simp)
      have HE' := Lib.hid (HE.out.trans (hX _))
      clear HE hA hY hX
      generalize ow own wr.heap.size 4 = own4 at *
      by_cases hk : kd = 6
      · have b1 : (kd == 6) = true := by simp [hk]
        clear hk
        go_wp2_with fail
        go_roundg (n - (i + 1))
        case measure => omega
        case rel => exact ⟨own4, i + 1, Y, V, lv, by go_num, by omega, HBD.out.mono (by omega), hT, hA', hY', HE'.out⟩
      · have b1 : (kd == 6) = false := by simp [hk]
        have HD := Lib.hid (does_none hA' hY' (by decide) (by omega) (by omega) (by omega) (by omega) kd t bb hk)
        unfold yd0 ad0 at HD
        clear hk
        go_wp2_with fail
        refine HD.out.mono ?_
        rintro e w4 ⟨r, lv4, own5, rfl, hE4, hA4, hY4⟩
        have HB4 := Lib.hid (HBD.out.step kd t bb)
        have hT4 : (e4Y Y V kd t bb).bound = min (max bound 0) 64 := by rw [e4Y_bound]; exact hT
        have H4 := Lib.hid (HE'.out.trans (hE4.mono (M' := fun c => c ≠ 0) (by intro c h; rcases h with rfl | rfl <;> decide)))
        clear HD hE4 HE' hA' hY' HBD hT hfa hma hno hb64 hfw c0 c1 c2
        generalize e4Y Y V kd t bb = Y4 at *
        generalize e4V Y V kd t bb = V4 at *
        have hfw : Y4.limbo.length ≤ 512 := HB4.out.few hY4.ok.bound.2
        have hwl : Y4.waiting.length = Y4.limbo.length := by unfold YV.waiting; rw [List.length_map]
        go_wp2_with fail
        refine (Waiting_any hY4 (by omega) 3).mono ?_
        rintro e w5 ⟨wv, rfl, hW, hB⟩
        have hA5 := hA4.ext (Ext.of_below (M := fun _ => False) hB own5 3) (by simp)
        have hY5 := hY4.ext (Ext.of_below (M := fun _ => False) hB own5 3) (by simp)
        have H5 := Lib.hid (H4.out.trans (Ext.of_below hB own5 3))
        generalize ow own5 w4.heap.size 3 = own6 at *
        obtain ⟨ra, rc, rfl⟩ := hW.shape
        clear hB hA4 hY4 H4
        go_wp2_with fail
        go_loopg [13, 14] 8 (fun g sv kv wr => Eb2 w a y ev lv4 (.slice ra Y4.waiting.length rc) Y4 V4 g sv kv wr)
        case atStart => exact ⟨own6, 1, rfl, by omega, by omega, by rw [sumN_one HB4.out]; rfl, hA5, hY5, hW, H5.out⟩
        case round =>
          clear hA5 hY5 hW H5
          obtain ⟨own7, k, rfl, hk, hk1, rfl, hA, hY, hW, hE⟩ := hrel
          have HE := Lib.hid hE
          clear hE
          by_cases hk9 : k < 9
          · have hk8 : (k : Int) ≤ 8 := by omega
            have hcn := HB4.out.cnt k
            rw [hT4] at hcn
            have HS := Lib.hid (sumN_succ HB4.out k)
            have hsm : sumN Y4 k ≤ 512 := Nat.le_trans (List.length_filter_le _ _) hfw
            have hgt : ¬ min (max bound 0) 64 < (Y4.limboN k : Int) := by omega
            have hln : Y4.limboN k ≤ 512 := Nat.le_trans (List.length_filter_le _ _) hfw
            have HL := Lib.hid hcn
            clear hcn
            go_wp2_with fail
            refine (Limbo_any hY (by omega) k).mono ?_
            rintro e w6 ⟨rfl, hB⟩
            have hA6 := hA.ext (Ext.of_below (M := fun _ => False) hB own7 4) (by simp)
            have hY6 := hY.ext (Ext.of_below (M := fun _ => False) hB own7 4) (by simp)
            have hW6 := hW.ext (Ext.of_below (M := fun _ => False) hB own7 4) (by simp)
            have H6 := Lib.hid (HE.out.trans (Ext.of_below hB own7 4))
            clear hB hA hY hW HE
            generalize ow own7 wr.heap.size 4 = own8 at *
            go_wp2_with fail
            refine (Limbo_any hY6 (by omega) k).mono ?_
            rintro e w7 ⟨rfl, hB⟩
            have hA7 := hA6.ext (Ext.of_below (M := fun _ => False) hB own8 4) (by simp)
            have hY7 := hY6.ext (Ext.of_below (M := fun _ => False) hB own8 4) (by simp)
            have hW7 := hW6.ext (Ext.of_below (M := fun _ => False) hB own8 4) (by simp)
            have H7 := Lib.hid (H6.out.trans (Ext.of_below hB own8 4))
            clear hB hA6 hY6 hW6 H6
            go_wp2_with fail
            go_roundg (9 - (k + 1))
            case measure => omega
            case rel => exact ⟨_, k + 1, by go_num, by omega, by omega, by rw [HS.out]; go_num, hA7, hY7, hW7, H7.out⟩
          · obtain rfl : k = 9 := by omega
            have hs9 : sumN Y4 9 = Y4.waiting.length := by rw [hwl]; exact sumN_nine HB4.out
            rw [hs9] at *
            go_wp2_with fail
            go_loopg [74] Y4.waiting.length (fun g jv wr => Eb3 w a y ev lv4 (.slice ra Y4.waiting.length rc) Y4 V4 g jv wr)
            case atStart => exact ⟨own7, 0, rfl, by omega, hA, hY, hW, HE.out⟩
            case round =>
              clear hA hY hW HE
              obtain ⟨own7, j, rfl, hj, hA, hY, hW, hE⟩ := hrel
              have HE := Lib.hid hE
              clear hE
              by_cases hjl : j < Y4.waiting.length
              · have hjl2 : (j : Int) < Y4.waiting.length := by omega
                obtain ⟨gl, rfl, hg, _, _, hx, hc⟩ := Row.irow_at hW hjl
                have HI := Lib.hid (Ints.take hW (show j ≤ Y4.waiting.length by omega))
                have hjc : j ≤ rc := by
                  obtain ⟨_, _, _, hv, _, hle, _⟩ := hW.cells (by omega)
                  injection hv with _ _ hv
                  omega
                have hjc2 : (j : Int) ≤ rc := by omega
                have hno : (Y4.waiting.take j).contains Y4.waiting[j] = false := by
                  simp only [List.contains_eq_mem, decide_eq_false_iff_not]
                  intro hm
                  obtain ⟨q, hq, e⟩ := List.mem_iff_getElem.1 hm
                  rw [List.length_take] at hq
                  rw [List.getElem_take] at e
                  have hnd : Y4.waiting.Nodup := HB4.out.nodup
                  exact List.pairwise_iff_getElem.1 hnd q j (by omega) hjl (by omega) e
                have hlv : ∃ xs, V4.find Y4.waiting[j] = some xs := by
                  obtain ⟨p, hp, e⟩ := List.mem_map.1 (List.getElem_mem hjl : Y4.waiting[j] ∈ Y4.limbo.map (·.1))
                  rw [← e]
                  exact HB4.out.live p hp
                have hfe : V4.freeErr Y4.waiting[j] = 0 := by obtain ⟨xs, hx⟩ := hlv; unfold AV.freeErr; rw [hx]
                have htc := touch_ok hfe
                have hf4 := HB4.out.faults
                generalize Y4.waiting[j] = q at *
                go_wp2_with fail
                refine (ar_as (r' := .tuple #[.int .i64 (V4.size q), .int .i64 0]) (V' := V4) (Size_any hA (by omega) q) (by rw [hfe]) htc).mono ?_
                rintro e w6 ⟨rfl, own8, hE6, hA6⟩
                have hY6 := hY.ext hE6 (by decide)
                have hW6 := hW.ext hE6 (by decide)
                have H6 := Lib.hid (HE.out.trans (hE6.mono (M' := fun c => c ≠ 0) (by simp)))
                have HI6 := Lib.hid (Ints.take hW6 (show j ≤ Y4.waiting.length by omega))
                clear hE6 hA hY hW HE HI
                go_wp2_with fail
                refine (Has_any HI6.out (by rw [List.length_take]; omega) q).mono ?_
                rintro e w7 ⟨rfl, rfl⟩
                rw [hno]
                go_wp2_with fail
                go_roundg (Y4.waiting.length - (j + 1))
                case measure => omega
                case rel => exact ⟨own8, j + 1, by go_num, by omega, hA6, hY6, hW6, H6.out⟩
              · obtain rfl : j = Y4.waiting.length := by omega
                go_wp2_with fail
                go_roundg (n - (i + 1))
                case measure => omega
                case rel => exact ⟨own7, i + 1, Y4, V4, lv4, by go_num, by omega, HB4.out, hT4, hA, hY, HE.out⟩
    · obtain rfl : i = n := by omega
      go_wp2_with fail
      go_loopg [19] 8 (fun g kv wr => Eb4 w a y ev i V g kv wr)
      case atStart => exact ⟨own, 1, Y, lv, rfl, by omega, by omega, (fun j hj => by rw [show j = 0 by omega]; exact HBD.out.zero), HBD.out, hA, hY, HE.out⟩
      case round =>
        clear hA hY HE HBD hT hno hb64 hfw
        obtain ⟨own, k, Y, lv, rfl, hk, hk1, hz, hbd, hA, hY, hE⟩ := hrel
        have HE := Lib.hid hE
        have HBD := Lib.hid hbd
        clear hE hbd
        by_cases hk9 : k < 9
        · have hk8 : (k : Int) ≤ 8 := by omega
          go_wp2_with fail
          refine (Leave_any hY k).mono ?_
          rintro e w3 ⟨rfl, hE3, hY3⟩
          have hA3 := hA.ext hE3 (by decide)
          have H3 := Lib.hid (HE.out.trans (hE3.mono (M' := fun c => c ≠ 0) (by simp)))
          clear hE3 hA hY HE
          go_wp2_with fail
          go_roundg (9 - (k + 1))
          case measure => omega
          case rel => exact ⟨_, k + 1, _, _, by go_num, by omega, by omega, hz.leave hk1, HBD.out.leave k, hA3, hY3, H3.out⟩
        · obtain rfl : k = 9 := by omega
          have hfw := HBD.out.few hY.ok.bound.2
          have hln := HBD.out.len
          have hkp := hz.kept hln Y.limbo
          have hfa2 := HBD.out.faults
          have hwl : Y.waiting.length = Y.limbo.length := by unfold YV.waiting; rw [List.length_map]
          go_wp2_with fail
          refine (Waiting_any hY (by omega) 3).mono ?_
          rintro e w3 ⟨wv, rfl, hW, hB⟩
          rw [hwl] at hW
          obtain ⟨ra, rc, rfl⟩ := hW.shape
          have hA3 := hA.ext (Ext.of_below (M := fun _ => False) hB own 3) (by simp)
          have hY3 := hY.ext (Ext.of_below (M := fun _ => False) hB own 3) (by simp)
          have H3 := Lib.hid (HE.out.trans (Ext.of_below hB own 3))
          clear hB hW hA hY HE
          go_wp2_with fail
          refine (sw_as (r' := .int .i64 Y.limbo.length) (Sweep_any hA3 hY3 (by decide) (by omega) (by omega)) rfl rfl (by rw [hkp]; simp)).mono ?_
          rintro e w4 ⟨lv4, own4, rfl, hE4, hA4, hY4⟩
          have H4 := Lib.hid (H3.out.trans (hE4.mono (M' := fun c => c ≠ 0) (by intro c h; rcases h with rfl | rfl <;> decide)))
          have hs0 : Y.sweep.limbo = [] := hkp
          have hw0 : Y.sweep.waiting = [] := by unfold YV.waiting; rw [hs0]; rfl
          have hf4 := (HBD.out.sweep).faults
          generalize dropsV Y V Y.limbo = V4 at *
          generalize Y.sweep = Y4 at *
          clear hE4 hA3 hY3 H3
          go_wp2_with fail
          refine (Waiting_any hY4 (by rw [hs0]; simp) 3).mono ?_
          rintro e w5 ⟨wv2, rfl, hW, hB⟩
          rw [hw0] at hW
          obtain ⟨ra2, rc2, rfl⟩ := hW.shape
          have hA5 := hA4.ext (Ext.of_below (M := fun _ => False) hB own4 3) (by simp)
          have hY5 := hY4.ext (Ext.of_below (M := fun _ => False) hB own4 3) (by simp)
          have H5 := Lib.hid (H4.out.trans (Ext.of_below hB own4 3))
          clear hB hW hA4 hY4 H4
          go_wp2_with fail
          refine (sw_as (r' := .int .i64 0) (Sweep_any hA5 hY5 (by decide) (by rw [hs0]; simp; omega) (by rw [hs0]; simp)) rfl rfl (by rw [hs0]; rfl)).mono ?_
          rintro e w6 ⟨lv6, own6, rfl, hE6, hA6, hY6⟩
          have H6 := Lib.hid (H5.out.trans (hE6.mono (M' := fun c => c ≠ 0) (by intro c h; rcases h with rfl | rfl <;> decide)))
          clear hE6 hA5 hY5 H5 hA6 hY6
          go_wp2_with fail
          go_ret
          exact ⟨by simp, H6.out.below (by simp)⟩
end Go.Proofs.Ytdomehpdjnfkeaa
