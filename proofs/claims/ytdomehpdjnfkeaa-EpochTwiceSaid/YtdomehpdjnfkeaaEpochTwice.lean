/- EpochTwice: a block waits once at most, and is freed once. -/
import Derived.Test.YtdomehpdjnfkeaaEpochLaw
set_option maxRecDepth 20000
set_option linter.unusedVariables false
set_option linter.unusedSimpArgs false
namespace Go.Proofs.Ytdomehpdjnfkeaa
open Go.RowKit Go.PM

def twEnt : Bool → List Int
  | true => [0, 0, 0, 0, 0, 0, 0, 0, 1]
  | false => [0, 0, 0, 0, 0, 0, 0, 0, 0]
def twNow : Bool → Int
  | true => 1
  | false => 0
def twV : Bool → Int → AV
  | true, k => ⟨300, 0, 1, k, []⟩
  | false, _ => ⟨300, 4, 1, 0, [(1, [0, 0, 0, 0])]⟩
def twY (ins : Bool) : Bool → Int → YV
  | true, t => ⟨64, twNow ins + 1, twEnt ins, [(1, t, twNow ins + 1)]⟩
  | false, _ => ⟨64, twNow ins, twEnt ins, []⟩
def badT (t : Int) : Bool := decide (t < 1) || decide (9 ≤ t)
theorem tw_bad (ins wts : Bool) (t0 t : Int) : (twY ins wts t0).bad t = badT t := by
  unfold YV.bad badT
  cases ins <;> cases wts <;> rfl
theorem tw_step_bad (ins els wts : Bool) (k t0 t : Int) (h : badT t = true) : (twY ins wts t0).retireErr (twV els k) t 1 = 1 ∧ retireV (twY ins wts t0) (twV els k) t 1 = twV els k ∧ (twY ins wts t0).retire (twV els k) t 1 = twY ins wts t0 := by
  unfold YV.retireErr retireV YV.retire
  rw [tw_bad, h]
  exact ⟨rfl, rfl, rfl⟩
theorem tw_step_twice (ins els : Bool) (k t0 t : Int) (h : badT t = false) : (twY ins true t0).retireErr (twV els k) t 1 = 42 ∧ retireV (twY ins true t0) (twV els k) t 1 = twV els k ∧ (twY ins true t0).retire (twV els k) t 1 = twY ins true t0 := by
  unfold YV.retireErr retireV YV.retire
  rw [tw_bad, h]
  cases ins <;> cases els <;> exact ⟨rfl, rfl, rfl⟩
theorem tw_step_freed (ins : Bool) (k t0 t : Int) (h : badT t = false) : (twY ins false t0).retireErr (twV true k) t 1 = 20 ∧ retireV (twY ins false t0) (twV true k) t 1 = twV true (k + 1) ∧ (twY ins false t0).retire (twV true k) t 1 = twY ins false t0 := by
  unfold YV.retireErr retireV YV.retire
  rw [tw_bad, h]
  cases ins <;> exact ⟨rfl, rfl, rfl⟩
theorem tw_step_ok (ins : Bool) (k t0 t : Int) (h : badT t = false) : (twY ins false t0).retireErr (twV false k) t 1 = 0 ∧ retireV (twY ins false t0) (twV false k) t 1 = twV false k ∧ (twY ins false t0).retire (twV false k) t 1 = twY ins true t := by
  unfold YV.retireErr retireV YV.retire
  rw [tw_bad, h]
  cases ins <;> exact ⟨rfl, rfl, rfl⟩
def TwInv (w0 : World) (a y : Nat) (ev : Value) (ins els : Bool) (N : Nat) (g : Nat) (wv iv : Value) (w : World) : Prop :=
  ∃ (own : Nat → Nat) (i : Nat) (wts : Bool) (k t0 : Int) (lv : Value), iv = .int .i64 i ∧ i + g = N ∧ wv = .bool wts ∧ (wts = true → els = false) ∧ (0 ≤ k ∧ k ≤ i) ∧ Arena w own 1 a (twV els k) ∧ Yard w own 2 y a (twY ins wts t0) ev lv ∧ Ext (fun c => c ≠ 0) w0 w (fun _ => 0) own
theorem tw_faults (els : Bool) (k : Int) (hk : 0 ≤ k) : (twV els k).faults ≤ k := by cases els <;> simp [twV, hk]
theorem tw_limbo (ins wts : Bool) (t0 : Int) : (twY ins wts t0).limbo.length ≤ 1 := by cases wts <;> simp [twY]
theorem tw_now (ins wts : Bool) (t0 : Int) : (twY ins wts t0).now ≤ 2 := by cases wts <;> cases ins <;> simp [twY, twNow]
set_option maxHeartbeats 8000000 in
theorem epochTwice_walk (w : World) (v : Value) (n b off : Nat) (f : Nat → Nat → Int) (hp : Recs Try.prog 33 1 w v n b off f) (ins els : Bool) :
    Calls Try.prog 6 #[v, .bool ins, .bool els] w fun e w' => e = .returned (.bool true) ∧ Below w.heap.size w w' := by
  have hlen := hp.len
  have hidx : ∀ w' (i : Nat), i < n → (Instr.indexAt 33 v (.int .i64 i)).run Try.prog w' = .ok (.pointer (some ⟨b, off + i, none⟩)) w' := fun w' i hi => by
    have := hp.idx w' i hi
    rwa [Nat.mul_one] at this
  have hsz := hp.size
  go_enter Try.func6, Try.ntmps6
  go_wp2_with fail
  refine (alive4_any w).mono ?_
  rintro e w0 ⟨rfl, hB⟩
  have h00 : Ext (fun c => c ≠ 0) w w0 (fun _ => 0) (ow (fun _ => 0) w.heap.size 3) := Ext.of_below hB _ _
  generalize ow (fun _ => 0) w.heap.size 3 = own0 at *
  have H0 := Lib.hid h00
  clear h00 hB
  go_wp2_with fail
  refine (New_any 300 1 own0 w0).mono ?_
  rintro e w1 ⟨rfl, hB, hA⟩
  have H1 := Lib.hid (H0.out.trans (Ext.of_below hB own0 1))
  generalize ow own0 w0.heap.size 1 = own1 at *
  generalize w0.heap.size + 1 = a at *
  clear hB H0
  go_wp2_with fail
  refine (YNew_any 8 64 a 2 own1 w1).mono ?_
  rintro e w2 ⟨rfl, hB, ev, hY⟩
  have hA2 := hA.ext (Ext.of_below (M := fun _ => False) hB own1 2) (by simp)
  have H2 := Lib.hid (H1.out.trans (Ext.of_below hB own1 2))
  generalize ow own1 w1.heap.size 2 = own2 at *
  generalize w1.heap.size + 1 = y at *
  clear hB H1 hA
  have hY : Yard w2 own2 2 y a (twY false false 0) ev (.slice none 0 0) := hY
  go_wp2_with fail
  refine (ar_as (r' := .tuple #[.int .i64 1, .int .i64 0]) (V' := twV false 0) (Alloc_any hA2 (by decide) 4) (by kernel_rfl) (by kernel_rfl)).mono ?_
  rintro e w3 ⟨rfl, own3, hE3, hA3⟩
  have hY3 := hY.ext hE3 (by decide)
  have H3 := Lib.hid (H2.out.trans (hE3.mono (M' := fun c => c ≠ 0) (by simp)))
  clear hE3 hY hA2 H2
  have start : ∀ (ins : Bool), True := fun _ => trivial
  clear start
  cases ins with
  | true =>
    cases els with
    | true =>
      go_wp2_with fail
      refine (yp_as (Y' := twY true false 0) (r' := 0) (Enter_any hY3 (by decide) 8) (by kernel_rfl) (by kernel_rfl)).mono ?_
      rintro e w4 ⟨rfl, hE4, hY4⟩
      have hA4 := hA3.ext hE4 (by decide)
      have H4 := Lib.hid (H3.out.trans (hE4.mono (M' := fun c => c ≠ 0) (by simp)))
      clear hE4 hA3 hY3 H3
      go_wp2_with fail
      refine (ar_as (r' := .int .i64 0) (V' := twV true 0) (Free_any hA4 (by decide) 1) (by kernel_rfl) (by kernel_rfl)).mono ?_
      rintro e w5 ⟨rfl, own5, hE5, hA5⟩
      have hY5 := hY4.ext hE5 (by decide)
      have H5 := Lib.hid (H4.out.trans (hE5.mono (M' := fun c => c ≠ 0) (by simp)))
      clear hE5 hA4 hY4 H4
      go_wp2_with fail
      go_loopg [11, 49] n (fun g wv iv wr => TwInv w a y ev true true n g wv iv wr)
      case atStart => exact ⟨_, 0, false, 0, 0, _, rfl, by omega, rfl, (by decide), (by decide), hA5, hY5, H5.out⟩
      case round =>
        clear hA5 hY5 H5
        obtain ⟨own, i, wts, k, t0, lv, rfl, hi, rfl, hwe, hk, hA, hY, hE⟩ := hrel
        have HE := Lib.hid hE
        have HWE := Lib.hid hwe
        clear hE hwe
        have h1 := tw_faults true k hk.1
        have h2 := tw_limbo true wts t0
        have h3 := tw_now true wts t0
        by_cases hlt : i < n
        · have hlt2 : (i : Int) < n := by omega
          have c0 := hp.at_ (HE.out.below (by simp)) hlt (show 0 < 1 by omega)
          rw [Nat.mul_one, Nat.add_zero] at c0
          generalize f i 0 = t at *
          by_cases h50 : 50 < i
          · have h502 : (50 : Int) < i := by omega
            cases wts with
            | true =>
              exact absurd (HWE.out rfl) (by decide)
            | false =>
              have hA : Arena wr own 1 a ⟨300, 0, 1, k, []⟩ := hA
              have hY : Yard wr own 2 y a ⟨64, 1, [0, 0, 0, 0, 0, 0, 0, 0, 1], []⟩ ev lv := hY
              clear h1 h2 h3
              go_wp2_with fail
              refine (sw_as (V' := ⟨300, 0, 1, k, []⟩) (Y' := ⟨64, 1, [0, 0, 0, 0, 0, 0, 0, 0, 1], []⟩) (r' := .int .i64 0) (Sweep_any hA hY (by decide) (by show _ + _ < _; first | decide | (simp; omega)) (by show (0 : Nat) ≤ _; omega)) (by kernel_rfl) (by kernel_rfl) (by kernel_rfl)).mono ?_
              rintro e w6 ⟨lv6, own6, rfl, hE6, hA6, hY6⟩
              have HE6 := Lib.hid (HE.out.trans (hE6.mono (M' := fun c => c ≠ 0) (by intro c h; rcases h with rfl | rfl <;> decide)))
              clear hE6 hA hY HE
              go_wp2_with fail
              refine (yp_as (Y' := ⟨64, 1, [0, 0, 0, 0, 0, 0, 0, 0, 0], []⟩) (r' := 0) (Leave_any hY6 8) (by kernel_rfl) (by kernel_rfl)).mono ?_
              rintro e w7 ⟨rfl, hE7, hY7⟩
              have hA7 := hA6.ext hE7 (by decide)
              have HE7 := Lib.hid (HE6.out.trans (hE7.mono (M' := fun c => c ≠ 0) (by simp)))
              clear hE7 hA6 hY6 HE6
              go_wp2_with fail
              refine (sw_as (V' := ⟨300, 0, 1, k, []⟩) (Y' := ⟨64, 1, [0, 0, 0, 0, 0, 0, 0, 0, 0], []⟩) (r' := .int .i64 0) (Sweep_any hA7 hY7 (by decide) (by show _ + _ < _; first | decide | (simp; omega)) (by show (0 : Nat) ≤ _; omega)) (by kernel_rfl) (by kernel_rfl) (by kernel_rfl)).mono ?_
              rintro e w8 ⟨lv8, own8, rfl, hE8, hA8, hY8⟩
              have HE8 := Lib.hid (HE7.out.trans (hE8.mono (M' := fun c => c ≠ 0) (by intro c h; rcases h with rfl | rfl <;> decide)))
              clear hE8 hA7 hY7 HE7
              go_wp2_with fail
              refine (sw_as (V' := ⟨300, 0, 1, k, []⟩) (Y' := ⟨64, 1, [0, 0, 0, 0, 0, 0, 0, 0, 0], []⟩) (r' := .int .i64 0) (Sweep_any hA8 hY8 (by decide) (by show _ + _ < _; first | decide | (simp; omega)) (by decide)) (by kernel_rfl) (by kernel_rfl) (by kernel_rfl)).mono ?_
              rintro e w9 ⟨lv9, own9, rfl, hE9, hA9, hY9⟩
              have HE9 := Lib.hid (HE8.out.trans (hE9.mono (M' := fun c => c ≠ 0) (by intro c h; rcases h with rfl | rfl <;> decide)))
              clear hE9 hA8 hY8 HE8
              go_wp2_with fail
              refine (ar_as (r' := .int .i64 20) (Free_any hA9 (by show _ < _; first | decide | (simp; omega)) 1) (by kernel_rfl) rfl).mono ?_
              rintro e w10 ⟨rfl, own10, hE10, hA10⟩
              have HE10 := Lib.hid (HE9.out.trans (hE10.mono (M' := fun c => c ≠ 0) (by simp)))
              clear hE10 hA9 hY9 HE9 hA10
              go_wp2_with fail
              go_ret
              exact ⟨by simp, HE10.out.below (by simp)⟩
          · have h502 : ¬ (50 : Int) < i := by omega
            cases hbad : badT t with
            | true =>
              obtain ⟨e1, e2, e3⟩ := tw_step_bad true true wts k t0 t hbad
              have HRT := Lib.hid (sw_as (Retire_any hA hY (by decide) (by omega) (by omega) (by omega) t 1) e2 e3 (by rw [e1] : (Value.int .i64 _) = .int .i64 1))
              have hb2 : t < 1 ∨ 8 < t := by unfold badT at hbad; simp at hbad; omega
              clear e1 e2 e3 hA hY h1 h2 h3 hbad
              rcases hb2 with hb2 | hb2
              all_goals
                go_wp2_with fail
                refine HRT.out.mono ?_
                rintro e w6 ⟨lv6, own6, rfl, hE6, hA6, hY6⟩
                have HE6 := Lib.hid (HE.out.trans (hE6.mono (M' := fun c => c ≠ 0) (by intro c h; rcases h with rfl | rfl <;> decide)))
                clear hE6
                go_wp2_with fail
                go_roundg (n - (i + 1))
                case measure => omega
                case rel => exact ⟨own6, i + 1, wts, k, t0, lv6, by go_num, by omega, rfl, (fun h => by first | rfl | exact HWE.out h), by omega, hA6, hY6, HE6.out⟩
            | false =>
              have hb1 : ¬ t < 1 := by unfold badT at hbad; simp at hbad; omega
              have hb2 : ¬ 8 < t := by unfold badT at hbad; simp at hbad; omega
              cases wts with
              | true =>
                exact absurd (HWE.out rfl) (by decide)
                    | false =>
                obtain ⟨e1, e2, e3⟩ := tw_step_freed true k t0 t hbad
                have HRT := Lib.hid (sw_as (Retire_any hA hY (by decide) (by omega) (by omega) (by omega) t 1) e2 e3 (by rw [e1] : (Value.int .i64 _) = .int .i64 20))
                clear e1 e2 e3 hA hY h1 h2 h3 hbad
                go_wp2_with fail
                refine HRT.out.mono ?_
                rintro e w6 ⟨lv6, own6, rfl, hE6, hA6, hY6⟩
                have HE6 := Lib.hid (HE.out.trans (hE6.mono (M' := fun c => c ≠ 0) (by intro c h; rcases h with rfl | rfl <;> decide)))
                clear hE6
                go_wp2_with fail
                go_roundg (n - (i + 1))
                case measure => omega
                case rel => exact ⟨own6, i + 1, false, (k + 1), t0, lv6, by go_num, by omega, rfl, (by decide), by omega, hA6, hY6, HE6.out⟩
        · obtain rfl : i = n := by omega
          cases wts with
          | true =>
            exact absurd (HWE.out rfl) (by decide)
          | false =>
            have hA : Arena wr own 1 a ⟨300, 0, 1, k, []⟩ := hA
            have hY : Yard wr own 2 y a ⟨64, 1, [0, 0, 0, 0, 0, 0, 0, 0, 1], []⟩ ev lv := hY
            clear h1 h2 h3
            go_wp2_with fail
            refine (sw_as (V' := ⟨300, 0, 1, k, []⟩) (Y' := ⟨64, 1, [0, 0, 0, 0, 0, 0, 0, 0, 1], []⟩) (r' := .int .i64 0) (Sweep_any hA hY (by decide) (by show _ + _ < _; first | decide | (simp; omega)) (by show (0 : Nat) ≤ _; omega)) (by kernel_rfl) (by kernel_rfl) (by kernel_rfl)).mono ?_
            rintro e w6 ⟨lv6, own6, rfl, hE6, hA6, hY6⟩
            have HE6 := Lib.hid (HE.out.trans (hE6.mono (M' := fun c => c ≠ 0) (by intro c h; rcases h with rfl | rfl <;> decide)))
            clear hE6 hA hY HE
            go_wp2_with fail
            refine (yp_as (Y' := ⟨64, 1, [0, 0, 0, 0, 0, 0, 0, 0, 0], []⟩) (r' := 0) (Leave_any hY6 8) (by kernel_rfl) (by kernel_rfl)).mono ?_
            rintro e w7 ⟨rfl, hE7, hY7⟩
            have hA7 := hA6.ext hE7 (by decide)
            have HE7 := Lib.hid (HE6.out.trans (hE7.mono (M' := fun c => c ≠ 0) (by simp)))
            clear hE7 hA6 hY6 HE6
            go_wp2_with fail
            refine (sw_as (V' := ⟨300, 0, 1, k, []⟩) (Y' := ⟨64, 1, [0, 0, 0, 0, 0, 0, 0, 0, 0], []⟩) (r' := .int .i64 0) (Sweep_any hA7 hY7 (by decide) (by show _ + _ < _; first | decide | (simp; omega)) (by show (0 : Nat) ≤ _; omega)) (by kernel_rfl) (by kernel_rfl) (by kernel_rfl)).mono ?_
            rintro e w8 ⟨lv8, own8, rfl, hE8, hA8, hY8⟩
            have HE8 := Lib.hid (HE7.out.trans (hE8.mono (M' := fun c => c ≠ 0) (by intro c h; rcases h with rfl | rfl <;> decide)))
            clear hE8 hA7 hY7 HE7
            go_wp2_with fail
            refine (sw_as (V' := ⟨300, 0, 1, k, []⟩) (Y' := ⟨64, 1, [0, 0, 0, 0, 0, 0, 0, 0, 0], []⟩) (r' := .int .i64 0) (Sweep_any hA8 hY8 (by decide) (by show _ + _ < _; first | decide | (simp; omega)) (by decide)) (by kernel_rfl) (by kernel_rfl) (by kernel_rfl)).mono ?_
            rintro e w9 ⟨lv9, own9, rfl, hE9, hA9, hY9⟩
            have HE9 := Lib.hid (HE8.out.trans (hE9.mono (M' := fun c => c ≠ 0) (by intro c h; rcases h with rfl | rfl <;> decide)))
            clear hE9 hA8 hY8 HE8
            go_wp2_with fail
            refine (ar_as (r' := .int .i64 20) (Free_any hA9 (by show _ < _; first | decide | (simp; omega)) 1) (by kernel_rfl) rfl).mono ?_
            rintro e w10 ⟨rfl, own10, hE10, hA10⟩
            have HE10 := Lib.hid (HE9.out.trans (hE10.mono (M' := fun c => c ≠ 0) (by simp)))
            clear hE10 hA9 hY9 HE9 hA10
            go_wp2_with fail
            go_ret
            exact ⟨by simp, HE10.out.below (by simp)⟩
    | false =>
      go_wp2_with fail
      refine (yp_as (Y' := twY true false 0) (r' := 0) (Enter_any hY3 (by decide) 8) (by kernel_rfl) (by kernel_rfl)).mono ?_
      rintro e w4 ⟨rfl, hE4, hY4⟩
      have hA4 := hA3.ext hE4 (by decide)
      have H4 := Lib.hid (H3.out.trans (hE4.mono (M' := fun c => c ≠ 0) (by simp)))
      clear hE4 hA3 hY3 H3
      have hY5 := hY4
      have hA5 := hA4
      have H5 := H4
      clear hY4 hA4 H4
      go_wp2_with fail
      go_loopg [11, 49] n (fun g wv iv wr => TwInv w a y ev true false n g wv iv wr)
      case atStart => exact ⟨_, 0, false, 0, 0, _, rfl, by omega, rfl, (by decide), (by decide), hA5, hY5, H5.out⟩
      case round =>
        clear hA5 hY5 H5
        obtain ⟨own, i, wts, k, t0, lv, rfl, hi, rfl, hwe, hk, hA, hY, hE⟩ := hrel
        have HE := Lib.hid hE
        have HWE := Lib.hid hwe
        clear hE hwe
        have h1 := tw_faults false k hk.1
        have h2 := tw_limbo true wts t0
        have h3 := tw_now true wts t0
        by_cases hlt : i < n
        · have hlt2 : (i : Int) < n := by omega
          have c0 := hp.at_ (HE.out.below (by simp)) hlt (show 0 < 1 by omega)
          rw [Nat.mul_one, Nat.add_zero] at c0
          generalize f i 0 = t at *
          by_cases h50 : 50 < i
          · have h502 : (50 : Int) < i := by omega
            cases wts with
            | true =>
              have hA : Arena wr own 1 a ⟨300, 4, 1, 0, [(1, [0, 0, 0, 0])]⟩ := hA
              have hY : Yard wr own 2 y a ⟨64, 2, [0, 0, 0, 0, 0, 0, 0, 0, 1], [(1, t0, 2)]⟩ ev lv := hY
              clear h1 h2 h3
              go_wp2_with fail
              refine (sw_as (V' := ⟨300, 4, 1, 0, [(1, [0, 0, 0, 0])]⟩) (Y' := ⟨64, 2, [0, 0, 0, 0, 0, 0, 0, 0, 1], [(1, t0, 2)]⟩) (r' := .int .i64 0) (Sweep_any hA hY (by decide) (by show (0 : Int) + ((1 : Nat) : Int) < _; omega) (by show (1 : Nat) ≤ _; omega)) (by kernel_rfl) (by kernel_rfl) (by kernel_rfl)).mono ?_
              rintro e w6 ⟨lv6, own6, rfl, hE6, hA6, hY6⟩
              have HE6 := Lib.hid (HE.out.trans (hE6.mono (M' := fun c => c ≠ 0) (by intro c h; rcases h with rfl | rfl <;> decide)))
              clear hE6 hA hY HE
              go_wp2_with fail
              refine (yp_as (Y' := ⟨64, 2, [0, 0, 0, 0, 0, 0, 0, 0, 0], [(1, t0, 2)]⟩) (r' := 0) (Leave_any hY6 8) (by kernel_rfl) (by kernel_rfl)).mono ?_
              rintro e w7 ⟨rfl, hE7, hY7⟩
              have hA7 := hA6.ext hE7 (by decide)
              have HE7 := Lib.hid (HE6.out.trans (hE7.mono (M' := fun c => c ≠ 0) (by simp)))
              clear hE7 hA6 hY6 HE6
              go_wp2_with fail
              refine (sw_as (V' := ⟨300, 0, 1, 0, []⟩) (Y' := ⟨64, 2, [0, 0, 0, 0, 0, 0, 0, 0, 0], []⟩) (r' := .int .i64 1) (Sweep_any hA7 hY7 (by decide) (by show (0 : Int) + ((1 : Nat) : Int) < _; omega) (by show (1 : Nat) ≤ _; omega)) (by kernel_rfl) (by kernel_rfl) (by kernel_rfl)).mono ?_
              rintro e w8 ⟨lv8, own8, rfl, hE8, hA8, hY8⟩
              have HE8 := Lib.hid (HE7.out.trans (hE8.mono (M' := fun c => c ≠ 0) (by intro c h; rcases h with rfl | rfl <;> decide)))
              clear hE8 hA7 hY7 HE7
              go_wp2_with fail
              refine (sw_as (V' := ⟨300, 0, 1, 0, []⟩) (Y' := ⟨64, 2, [0, 0, 0, 0, 0, 0, 0, 0, 0], []⟩) (r' := .int .i64 0) (Sweep_any hA8 hY8 (by decide) (by show (0 : Int) + ((0 : Nat) : Int) < _; omega) (by decide)) (by kernel_rfl) (by kernel_rfl) (by kernel_rfl)).mono ?_
              rintro e w9 ⟨lv9, own9, rfl, hE9, hA9, hY9⟩
              have HE9 := Lib.hid (HE8.out.trans (hE9.mono (M' := fun c => c ≠ 0) (by intro c h; rcases h with rfl | rfl <;> decide)))
              clear hE9 hA8 hY8 HE8
              go_wp2_with fail
              refine (ar_as (r' := .int .i64 20) (Free_any hA9 (by show _ < _; first | decide | (simp; omega)) 1) (by kernel_rfl) rfl).mono ?_
              rintro e w10 ⟨rfl, own10, hE10, hA10⟩
              have HE10 := Lib.hid (HE9.out.trans (hE10.mono (M' := fun c => c ≠ 0) (by simp)))
              clear hE10 hA9 hY9 HE9 hA10
              go_wp2_with fail
              go_ret
              exact ⟨by simp, HE10.out.below (by simp)⟩
            | false =>
              have hA : Arena wr own 1 a ⟨300, 4, 1, 0, [(1, [0, 0, 0, 0])]⟩ := hA
              have hY : Yard wr own 2 y a ⟨64, 1, [0, 0, 0, 0, 0, 0, 0, 0, 1], []⟩ ev lv := hY
              clear h1 h2 h3
              go_wp2_with fail
              refine (sw_as (V' := ⟨300, 4, 1, 0, [(1, [0, 0, 0, 0])]⟩) (Y' := ⟨64, 1, [0, 0, 0, 0, 0, 0, 0, 0, 1], []⟩) (r' := .int .i64 0) (Sweep_any hA hY (by decide) (by show (0 : Int) + ((0 : Nat) : Int) < _; omega) (by show (0 : Nat) ≤ _; omega)) (by kernel_rfl) (by kernel_rfl) (by kernel_rfl)).mono ?_
              rintro e w6 ⟨lv6, own6, rfl, hE6, hA6, hY6⟩
              have HE6 := Lib.hid (HE.out.trans (hE6.mono (M' := fun c => c ≠ 0) (by intro c h; rcases h with rfl | rfl <;> decide)))
              clear hE6 hA hY HE
              go_wp2_with fail
              refine (yp_as (Y' := ⟨64, 1, [0, 0, 0, 0, 0, 0, 0, 0, 0], []⟩) (r' := 0) (Leave_any hY6 8) (by kernel_rfl) (by kernel_rfl)).mono ?_
              rintro e w7 ⟨rfl, hE7, hY7⟩
              have hA7 := hA6.ext hE7 (by decide)
              have HE7 := Lib.hid (HE6.out.trans (hE7.mono (M' := fun c => c ≠ 0) (by simp)))
              clear hE7 hA6 hY6 HE6
              go_wp2_with fail
              refine (sw_as (V' := ⟨300, 4, 1, 0, [(1, [0, 0, 0, 0])]⟩) (Y' := ⟨64, 1, [0, 0, 0, 0, 0, 0, 0, 0, 0], []⟩) (r' := .int .i64 0) (Sweep_any hA7 hY7 (by decide) (by show (0 : Int) + ((0 : Nat) : Int) < _; omega) (by show (0 : Nat) ≤ _; omega)) (by kernel_rfl) (by kernel_rfl) (by kernel_rfl)).mono ?_
              rintro e w8 ⟨lv8, own8, rfl, hE8, hA8, hY8⟩
              have HE8 := Lib.hid (HE7.out.trans (hE8.mono (M' := fun c => c ≠ 0) (by intro c h; rcases h with rfl | rfl <;> decide)))
              clear hE8 hA7 hY7 HE7
              go_wp2_with fail
              refine (sw_as (V' := ⟨300, 4, 1, 0, [(1, [0, 0, 0, 0])]⟩) (Y' := ⟨64, 1, [0, 0, 0, 0, 0, 0, 0, 0, 0], []⟩) (r' := .int .i64 0) (Sweep_any hA8 hY8 (by decide) (by show (0 : Int) + ((0 : Nat) : Int) < _; omega) (by decide)) (by kernel_rfl) (by kernel_rfl) (by kernel_rfl)).mono ?_
              rintro e w9 ⟨lv9, own9, rfl, hE9, hA9, hY9⟩
              have HE9 := Lib.hid (HE8.out.trans (hE9.mono (M' := fun c => c ≠ 0) (by intro c h; rcases h with rfl | rfl <;> decide)))
              clear hE9 hA8 hY8 HE8
              go_wp2_with fail
              refine (ar_as (r' := .int .i64 0) (Free_any hA9 (by show _ < _; first | decide | (simp; omega)) 1) (by kernel_rfl) rfl).mono ?_
              rintro e w10 ⟨rfl, own10, hE10, hA10⟩
              have HE10 := Lib.hid (HE9.out.trans (hE10.mono (M' := fun c => c ≠ 0) (by simp)))
              clear hE10 hA9 hY9 HE9 hA10
              go_wp2_with fail
              go_ret
              exact ⟨by simp, HE10.out.below (by simp)⟩
          · have h502 : ¬ (50 : Int) < i := by omega
            cases hbad : badT t with
            | true =>
              obtain ⟨e1, e2, e3⟩ := tw_step_bad true false wts k t0 t hbad
              have HRT := Lib.hid (sw_as (Retire_any hA hY (by decide) (by omega) (by omega) (by omega) t 1) e2 e3 (by rw [e1] : (Value.int .i64 _) = .int .i64 1))
              have hb2 : t < 1 ∨ 8 < t := by unfold badT at hbad; simp at hbad; omega
              clear e1 e2 e3 hA hY h1 h2 h3 hbad
              rcases hb2 with hb2 | hb2
              all_goals
                go_wp2_with fail
                refine HRT.out.mono ?_
                rintro e w6 ⟨lv6, own6, rfl, hE6, hA6, hY6⟩
                have HE6 := Lib.hid (HE.out.trans (hE6.mono (M' := fun c => c ≠ 0) (by intro c h; rcases h with rfl | rfl <;> decide)))
                clear hE6
                go_wp2_with fail
                go_roundg (n - (i + 1))
                case measure => omega
                case rel => exact ⟨own6, i + 1, wts, k, t0, lv6, by go_num, by omega, rfl, (fun h => by first | rfl | exact HWE.out h), by omega, hA6, hY6, HE6.out⟩
            | false =>
              have hb1 : ¬ t < 1 := by unfold badT at hbad; simp at hbad; omega
              have hb2 : ¬ 8 < t := by unfold badT at hbad; simp at hbad; omega
              cases wts with
              | true =>
                obtain ⟨e1, e2, e3⟩ := tw_step_twice true false k t0 t hbad
                have HRT := Lib.hid (sw_as (Retire_any hA hY (by decide) (by omega) (by omega) (by omega) t 1) e2 e3 (by rw [e1] : (Value.int .i64 _) = .int .i64 42))
                clear e1 e2 e3 hA hY h1 h2 h3 hbad
                go_wp2_with fail
                refine HRT.out.mono ?_
                rintro e w6 ⟨lv6, own6, rfl, hE6, hA6, hY6⟩
                have HE6 := Lib.hid (HE.out.trans (hE6.mono (M' := fun c => c ≠ 0) (by intro c h; rcases h with rfl | rfl <;> decide)))
                clear hE6
                go_wp2_with fail
                go_roundg (n - (i + 1))
                case measure => omega
                case rel => exact ⟨own6, i + 1, true, k, t0, lv6, by go_num, by omega, rfl, (by decide), by omega, hA6, hY6, HE6.out⟩
                    | false =>
                obtain ⟨e1, e2, e3⟩ := tw_step_ok true k t0 t hbad
                have HRT := Lib.hid (sw_as (Retire_any hA hY (by decide) (by omega) (by omega) (by omega) t 1) e2 e3 (by rw [e1] : (Value.int .i64 _) = .int .i64 0))
                clear e1 e2 e3 hA hY h1 h2 h3 hbad
                go_wp2_with fail
                refine HRT.out.mono ?_
                rintro e w6 ⟨lv6, own6, rfl, hE6, hA6, hY6⟩
                have HE6 := Lib.hid (HE.out.trans (hE6.mono (M' := fun c => c ≠ 0) (by intro c h; rcases h with rfl | rfl <;> decide)))
                clear hE6
                go_wp2_with fail
                go_roundg (n - (i + 1))
                case measure => omega
                case rel => exact ⟨own6, i + 1, true, k, t, lv6, by go_num, by omega, rfl, (by decide), by omega, hA6, hY6, HE6.out⟩
        · obtain rfl : i = n := by omega
          cases wts with
          | true =>
            have hA : Arena wr own 1 a ⟨300, 4, 1, 0, [(1, [0, 0, 0, 0])]⟩ := hA
            have hY : Yard wr own 2 y a ⟨64, 2, [0, 0, 0, 0, 0, 0, 0, 0, 1], [(1, t0, 2)]⟩ ev lv := hY
            clear h1 h2 h3
            go_wp2_with fail
            refine (sw_as (V' := ⟨300, 4, 1, 0, [(1, [0, 0, 0, 0])]⟩) (Y' := ⟨64, 2, [0, 0, 0, 0, 0, 0, 0, 0, 1], [(1, t0, 2)]⟩) (r' := .int .i64 0) (Sweep_any hA hY (by decide) (by show (0 : Int) + ((1 : Nat) : Int) < _; omega) (by show (1 : Nat) ≤ _; omega)) (by kernel_rfl) (by kernel_rfl) (by kernel_rfl)).mono ?_
            rintro e w6 ⟨lv6, own6, rfl, hE6, hA6, hY6⟩
            have HE6 := Lib.hid (HE.out.trans (hE6.mono (M' := fun c => c ≠ 0) (by intro c h; rcases h with rfl | rfl <;> decide)))
            clear hE6 hA hY HE
            go_wp2_with fail
            refine (yp_as (Y' := ⟨64, 2, [0, 0, 0, 0, 0, 0, 0, 0, 0], [(1, t0, 2)]⟩) (r' := 0) (Leave_any hY6 8) (by kernel_rfl) (by kernel_rfl)).mono ?_
            rintro e w7 ⟨rfl, hE7, hY7⟩
            have hA7 := hA6.ext hE7 (by decide)
            have HE7 := Lib.hid (HE6.out.trans (hE7.mono (M' := fun c => c ≠ 0) (by simp)))
            clear hE7 hA6 hY6 HE6
            go_wp2_with fail
            refine (sw_as (V' := ⟨300, 0, 1, 0, []⟩) (Y' := ⟨64, 2, [0, 0, 0, 0, 0, 0, 0, 0, 0], []⟩) (r' := .int .i64 1) (Sweep_any hA7 hY7 (by decide) (by show (0 : Int) + ((1 : Nat) : Int) < _; omega) (by show (1 : Nat) ≤ _; omega)) (by kernel_rfl) (by kernel_rfl) (by kernel_rfl)).mono ?_
            rintro e w8 ⟨lv8, own8, rfl, hE8, hA8, hY8⟩
            have HE8 := Lib.hid (HE7.out.trans (hE8.mono (M' := fun c => c ≠ 0) (by intro c h; rcases h with rfl | rfl <;> decide)))
            clear hE8 hA7 hY7 HE7
            go_wp2_with fail
            refine (sw_as (V' := ⟨300, 0, 1, 0, []⟩) (Y' := ⟨64, 2, [0, 0, 0, 0, 0, 0, 0, 0, 0], []⟩) (r' := .int .i64 0) (Sweep_any hA8 hY8 (by decide) (by show (0 : Int) + ((0 : Nat) : Int) < _; omega) (by decide)) (by kernel_rfl) (by kernel_rfl) (by kernel_rfl)).mono ?_
            rintro e w9 ⟨lv9, own9, rfl, hE9, hA9, hY9⟩
            have HE9 := Lib.hid (HE8.out.trans (hE9.mono (M' := fun c => c ≠ 0) (by intro c h; rcases h with rfl | rfl <;> decide)))
            clear hE9 hA8 hY8 HE8
            go_wp2_with fail
            refine (ar_as (r' := .int .i64 20) (Free_any hA9 (by show _ < _; first | decide | (simp; omega)) 1) (by kernel_rfl) rfl).mono ?_
            rintro e w10 ⟨rfl, own10, hE10, hA10⟩
            have HE10 := Lib.hid (HE9.out.trans (hE10.mono (M' := fun c => c ≠ 0) (by simp)))
            clear hE10 hA9 hY9 HE9 hA10
            go_wp2_with fail
            go_ret
            exact ⟨by simp, HE10.out.below (by simp)⟩
          | false =>
            have hA : Arena wr own 1 a ⟨300, 4, 1, 0, [(1, [0, 0, 0, 0])]⟩ := hA
            have hY : Yard wr own 2 y a ⟨64, 1, [0, 0, 0, 0, 0, 0, 0, 0, 1], []⟩ ev lv := hY
            clear h1 h2 h3
            go_wp2_with fail
            refine (sw_as (V' := ⟨300, 4, 1, 0, [(1, [0, 0, 0, 0])]⟩) (Y' := ⟨64, 1, [0, 0, 0, 0, 0, 0, 0, 0, 1], []⟩) (r' := .int .i64 0) (Sweep_any hA hY (by decide) (by show (0 : Int) + ((0 : Nat) : Int) < _; omega) (by show (0 : Nat) ≤ _; omega)) (by kernel_rfl) (by kernel_rfl) (by kernel_rfl)).mono ?_
            rintro e w6 ⟨lv6, own6, rfl, hE6, hA6, hY6⟩
            have HE6 := Lib.hid (HE.out.trans (hE6.mono (M' := fun c => c ≠ 0) (by intro c h; rcases h with rfl | rfl <;> decide)))
            clear hE6 hA hY HE
            go_wp2_with fail
            refine (yp_as (Y' := ⟨64, 1, [0, 0, 0, 0, 0, 0, 0, 0, 0], []⟩) (r' := 0) (Leave_any hY6 8) (by kernel_rfl) (by kernel_rfl)).mono ?_
            rintro e w7 ⟨rfl, hE7, hY7⟩
            have hA7 := hA6.ext hE7 (by decide)
            have HE7 := Lib.hid (HE6.out.trans (hE7.mono (M' := fun c => c ≠ 0) (by simp)))
            clear hE7 hA6 hY6 HE6
            go_wp2_with fail
            refine (sw_as (V' := ⟨300, 4, 1, 0, [(1, [0, 0, 0, 0])]⟩) (Y' := ⟨64, 1, [0, 0, 0, 0, 0, 0, 0, 0, 0], []⟩) (r' := .int .i64 0) (Sweep_any hA7 hY7 (by decide) (by show (0 : Int) + ((0 : Nat) : Int) < _; omega) (by show (0 : Nat) ≤ _; omega)) (by kernel_rfl) (by kernel_rfl) (by kernel_rfl)).mono ?_
            rintro e w8 ⟨lv8, own8, rfl, hE8, hA8, hY8⟩
            have HE8 := Lib.hid (HE7.out.trans (hE8.mono (M' := fun c => c ≠ 0) (by intro c h; rcases h with rfl | rfl <;> decide)))
            clear hE8 hA7 hY7 HE7
            go_wp2_with fail
            refine (sw_as (V' := ⟨300, 4, 1, 0, [(1, [0, 0, 0, 0])]⟩) (Y' := ⟨64, 1, [0, 0, 0, 0, 0, 0, 0, 0, 0], []⟩) (r' := .int .i64 0) (Sweep_any hA8 hY8 (by decide) (by show (0 : Int) + ((0 : Nat) : Int) < _; omega) (by decide)) (by kernel_rfl) (by kernel_rfl) (by kernel_rfl)).mono ?_
            rintro e w9 ⟨lv9, own9, rfl, hE9, hA9, hY9⟩
            have HE9 := Lib.hid (HE8.out.trans (hE9.mono (M' := fun c => c ≠ 0) (by intro c h; rcases h with rfl | rfl <;> decide)))
            clear hE9 hA8 hY8 HE8
            go_wp2_with fail
            refine (ar_as (r' := .int .i64 0) (Free_any hA9 (by show _ < _; first | decide | (simp; omega)) 1) (by kernel_rfl) rfl).mono ?_
            rintro e w10 ⟨rfl, own10, hE10, hA10⟩
            have HE10 := Lib.hid (HE9.out.trans (hE10.mono (M' := fun c => c ≠ 0) (by simp)))
            clear hE10 hA9 hY9 HE9 hA10
            go_wp2_with fail
            go_ret
            exact ⟨by simp, HE10.out.below (by simp)⟩
  | false =>
    cases els with
    | true =>
      have hY4 := hY3
      have hA4 := hA3
      have H4 := H3
      have w4 := w3
      clear hY3 hA3 H3
      go_wp2_with fail
      refine (ar_as (r' := .int .i64 0) (V' := twV true 0) (Free_any hA4 (by decide) 1) (by kernel_rfl) (by kernel_rfl)).mono ?_
      rintro e w5 ⟨rfl, own5, hE5, hA5⟩
      have hY5 := hY4.ext hE5 (by decide)
      have H5 := Lib.hid (H4.out.trans (hE5.mono (M' := fun c => c ≠ 0) (by simp)))
      clear hE5 hA4 hY4 H4
      go_wp2_with fail
      go_loopg [11, 49] n (fun g wv iv wr => TwInv w a y ev false true n g wv iv wr)
      case atStart => exact ⟨_, 0, false, 0, 0, _, rfl, by omega, rfl, (by decide), (by decide), hA5, hY5, H5.out⟩
      case round =>
        clear hA5 hY5 H5
        obtain ⟨own, i, wts, k, t0, lv, rfl, hi, rfl, hwe, hk, hA, hY, hE⟩ := hrel
        have HE := Lib.hid hE
        have HWE := Lib.hid hwe
        clear hE hwe
        have h1 := tw_faults true k hk.1
        have h2 := tw_limbo false wts t0
        have h3 := tw_now false wts t0
        by_cases hlt : i < n
        · have hlt2 : (i : Int) < n := by omega
          have c0 := hp.at_ (HE.out.below (by simp)) hlt (show 0 < 1 by omega)
          rw [Nat.mul_one, Nat.add_zero] at c0
          generalize f i 0 = t at *
          by_cases h50 : 50 < i
          · have h502 : (50 : Int) < i := by omega
            cases wts with
            | true =>
              exact absurd (HWE.out rfl) (by decide)
            | false =>
              have hA : Arena wr own 1 a ⟨300, 0, 1, k, []⟩ := hA
              have hY : Yard wr own 2 y a ⟨64, 0, [0, 0, 0, 0, 0, 0, 0, 0, 0], []⟩ ev lv := hY
              clear h1 h2 h3
              have hA7 := hA
              have hY7 := hY
              have HE7 := HE
              clear hA hY HE
              go_wp2_with fail
              refine (sw_as (V' := ⟨300, 0, 1, k, []⟩) (Y' := ⟨64, 0, [0, 0, 0, 0, 0, 0, 0, 0, 0], []⟩) (r' := .int .i64 0) (Sweep_any hA7 hY7 (by decide) (by show _ + _ < _; first | decide | (simp; omega)) (by show (0 : Nat) ≤ _; omega)) (by kernel_rfl) (by kernel_rfl) (by kernel_rfl)).mono ?_
              rintro e w8 ⟨lv8, own8, rfl, hE8, hA8, hY8⟩
              have HE8 := Lib.hid (HE7.out.trans (hE8.mono (M' := fun c => c ≠ 0) (by intro c h; rcases h with rfl | rfl <;> decide)))
              clear hE8 hA7 hY7 HE7
              go_wp2_with fail
              refine (sw_as (V' := ⟨300, 0, 1, k, []⟩) (Y' := ⟨64, 0, [0, 0, 0, 0, 0, 0, 0, 0, 0], []⟩) (r' := .int .i64 0) (Sweep_any hA8 hY8 (by decide) (by show _ + _ < _; first | decide | (simp; omega)) (by decide)) (by kernel_rfl) (by kernel_rfl) (by kernel_rfl)).mono ?_
              rintro e w9 ⟨lv9, own9, rfl, hE9, hA9, hY9⟩
              have HE9 := Lib.hid (HE8.out.trans (hE9.mono (M' := fun c => c ≠ 0) (by intro c h; rcases h with rfl | rfl <;> decide)))
              clear hE9 hA8 hY8 HE8
              go_wp2_with fail
              refine (ar_as (r' := .int .i64 20) (Free_any hA9 (by show _ < _; first | decide | (simp; omega)) 1) (by kernel_rfl) rfl).mono ?_
              rintro e w10 ⟨rfl, own10, hE10, hA10⟩
              have HE10 := Lib.hid (HE9.out.trans (hE10.mono (M' := fun c => c ≠ 0) (by simp)))
              clear hE10 hA9 hY9 HE9 hA10
              go_wp2_with fail
              go_ret
              exact ⟨by simp, HE10.out.below (by simp)⟩
          · have h502 : ¬ (50 : Int) < i := by omega
            cases hbad : badT t with
            | true =>
              obtain ⟨e1, e2, e3⟩ := tw_step_bad false true wts k t0 t hbad
              have HRT := Lib.hid (sw_as (Retire_any hA hY (by decide) (by omega) (by omega) (by omega) t 1) e2 e3 (by rw [e1] : (Value.int .i64 _) = .int .i64 1))
              have hb2 : t < 1 ∨ 8 < t := by unfold badT at hbad; simp at hbad; omega
              clear e1 e2 e3 hA hY h1 h2 h3 hbad
              rcases hb2 with hb2 | hb2
              all_goals
                go_wp2_with fail
                refine HRT.out.mono ?_
                rintro e w6 ⟨lv6, own6, rfl, hE6, hA6, hY6⟩
                have HE6 := Lib.hid (HE.out.trans (hE6.mono (M' := fun c => c ≠ 0) (by intro c h; rcases h with rfl | rfl <;> decide)))
                clear hE6
                go_wp2_with fail
                go_roundg (n - (i + 1))
                case measure => omega
                case rel => exact ⟨own6, i + 1, wts, k, t0, lv6, by go_num, by omega, rfl, (fun h => by first | rfl | exact HWE.out h), by omega, hA6, hY6, HE6.out⟩
            | false =>
              have hb1 : ¬ t < 1 := by unfold badT at hbad; simp at hbad; omega
              have hb2 : ¬ 8 < t := by unfold badT at hbad; simp at hbad; omega
              cases wts with
              | true =>
                exact absurd (HWE.out rfl) (by decide)
                    | false =>
                obtain ⟨e1, e2, e3⟩ := tw_step_freed false k t0 t hbad
                have HRT := Lib.hid (sw_as (Retire_any hA hY (by decide) (by omega) (by omega) (by omega) t 1) e2 e3 (by rw [e1] : (Value.int .i64 _) = .int .i64 20))
                clear e1 e2 e3 hA hY h1 h2 h3 hbad
                go_wp2_with fail
                refine HRT.out.mono ?_
                rintro e w6 ⟨lv6, own6, rfl, hE6, hA6, hY6⟩
                have HE6 := Lib.hid (HE.out.trans (hE6.mono (M' := fun c => c ≠ 0) (by intro c h; rcases h with rfl | rfl <;> decide)))
                clear hE6
                go_wp2_with fail
                go_roundg (n - (i + 1))
                case measure => omega
                case rel => exact ⟨own6, i + 1, false, (k + 1), t0, lv6, by go_num, by omega, rfl, (by decide), by omega, hA6, hY6, HE6.out⟩
        · obtain rfl : i = n := by omega
          cases wts with
          | true =>
            exact absurd (HWE.out rfl) (by decide)
          | false =>
            have hA : Arena wr own 1 a ⟨300, 0, 1, k, []⟩ := hA
            have hY : Yard wr own 2 y a ⟨64, 0, [0, 0, 0, 0, 0, 0, 0, 0, 0], []⟩ ev lv := hY
            clear h1 h2 h3
            have hA7 := hA
            have hY7 := hY
            have HE7 := HE
            clear hA hY HE
            go_wp2_with fail
            refine (sw_as (V' := ⟨300, 0, 1, k, []⟩) (Y' := ⟨64, 0, [0, 0, 0, 0, 0, 0, 0, 0, 0], []⟩) (r' := .int .i64 0) (Sweep_any hA7 hY7 (by decide) (by show _ + _ < _; first | decide | (simp; omega)) (by show (0 : Nat) ≤ _; omega)) (by kernel_rfl) (by kernel_rfl) (by kernel_rfl)).mono ?_
            rintro e w8 ⟨lv8, own8, rfl, hE8, hA8, hY8⟩
            have HE8 := Lib.hid (HE7.out.trans (hE8.mono (M' := fun c => c ≠ 0) (by intro c h; rcases h with rfl | rfl <;> decide)))
            clear hE8 hA7 hY7 HE7
            go_wp2_with fail
            refine (sw_as (V' := ⟨300, 0, 1, k, []⟩) (Y' := ⟨64, 0, [0, 0, 0, 0, 0, 0, 0, 0, 0], []⟩) (r' := .int .i64 0) (Sweep_any hA8 hY8 (by decide) (by show _ + _ < _; first | decide | (simp; omega)) (by decide)) (by kernel_rfl) (by kernel_rfl) (by kernel_rfl)).mono ?_
            rintro e w9 ⟨lv9, own9, rfl, hE9, hA9, hY9⟩
            have HE9 := Lib.hid (HE8.out.trans (hE9.mono (M' := fun c => c ≠ 0) (by intro c h; rcases h with rfl | rfl <;> decide)))
            clear hE9 hA8 hY8 HE8
            go_wp2_with fail
            refine (ar_as (r' := .int .i64 20) (Free_any hA9 (by show _ < _; first | decide | (simp; omega)) 1) (by kernel_rfl) rfl).mono ?_
            rintro e w10 ⟨rfl, own10, hE10, hA10⟩
            have HE10 := Lib.hid (HE9.out.trans (hE10.mono (M' := fun c => c ≠ 0) (by simp)))
            clear hE10 hA9 hY9 HE9 hA10
            go_wp2_with fail
            go_ret
            exact ⟨by simp, HE10.out.below (by simp)⟩
    | false =>
      have hY4 := hY3
      have hA4 := hA3
      have H4 := H3
      have w4 := w3
      clear hY3 hA3 H3
      have hY5 := hY4
      have hA5 := hA4
      have H5 := H4
      clear hY4 hA4 H4
      go_wp2_with fail
      go_loopg [11, 49] n (fun g wv iv wr => TwInv w a y ev false false n g wv iv wr)
      case atStart => exact ⟨_, 0, false, 0, 0, _, rfl, by omega, rfl, (by decide), (by decide), hA5, hY5, H5.out⟩
      case round =>
        clear hA5 hY5 H5
        obtain ⟨own, i, wts, k, t0, lv, rfl, hi, rfl, hwe, hk, hA, hY, hE⟩ := hrel
        have HE := Lib.hid hE
        have HWE := Lib.hid hwe
        clear hE hwe
        have h1 := tw_faults false k hk.1
        have h2 := tw_limbo false wts t0
        have h3 := tw_now false wts t0
        by_cases hlt : i < n
        · have hlt2 : (i : Int) < n := by omega
          have c0 := hp.at_ (HE.out.below (by simp)) hlt (show 0 < 1 by omega)
          rw [Nat.mul_one, Nat.add_zero] at c0
          generalize f i 0 = t at *
          by_cases h50 : 50 < i
          · have h502 : (50 : Int) < i := by omega
            cases wts with
            | true =>
              have hA : Arena wr own 1 a ⟨300, 4, 1, 0, [(1, [0, 0, 0, 0])]⟩ := hA
              have hY : Yard wr own 2 y a ⟨64, 1, [0, 0, 0, 0, 0, 0, 0, 0, 0], [(1, t0, 1)]⟩ ev lv := hY
              clear h1 h2 h3
              have hA7 := hA
              have hY7 := hY
              have HE7 := HE
              clear hA hY HE
              go_wp2_with fail
              refine (sw_as (V' := ⟨300, 0, 1, 0, []⟩) (Y' := ⟨64, 1, [0, 0, 0, 0, 0, 0, 0, 0, 0], []⟩) (r' := .int .i64 1) (Sweep_any hA7 hY7 (by decide) (by show (0 : Int) + ((1 : Nat) : Int) < _; omega) (by show (1 : Nat) ≤ _; omega)) (by kernel_rfl) (by kernel_rfl) (by kernel_rfl)).mono ?_
              rintro e w8 ⟨lv8, own8, rfl, hE8, hA8, hY8⟩
              have HE8 := Lib.hid (HE7.out.trans (hE8.mono (M' := fun c => c ≠ 0) (by intro c h; rcases h with rfl | rfl <;> decide)))
              clear hE8 hA7 hY7 HE7
              go_wp2_with fail
              refine (sw_as (V' := ⟨300, 0, 1, 0, []⟩) (Y' := ⟨64, 1, [0, 0, 0, 0, 0, 0, 0, 0, 0], []⟩) (r' := .int .i64 0) (Sweep_any hA8 hY8 (by decide) (by show (0 : Int) + ((0 : Nat) : Int) < _; omega) (by decide)) (by kernel_rfl) (by kernel_rfl) (by kernel_rfl)).mono ?_
              rintro e w9 ⟨lv9, own9, rfl, hE9, hA9, hY9⟩
              have HE9 := Lib.hid (HE8.out.trans (hE9.mono (M' := fun c => c ≠ 0) (by intro c h; rcases h with rfl | rfl <;> decide)))
              clear hE9 hA8 hY8 HE8
              go_wp2_with fail
              refine (ar_as (r' := .int .i64 20) (Free_any hA9 (by show _ < _; first | decide | (simp; omega)) 1) (by kernel_rfl) rfl).mono ?_
              rintro e w10 ⟨rfl, own10, hE10, hA10⟩
              have HE10 := Lib.hid (HE9.out.trans (hE10.mono (M' := fun c => c ≠ 0) (by simp)))
              clear hE10 hA9 hY9 HE9 hA10
              go_wp2_with fail
              go_ret
              exact ⟨by simp, HE10.out.below (by simp)⟩
            | false =>
              have hA : Arena wr own 1 a ⟨300, 4, 1, 0, [(1, [0, 0, 0, 0])]⟩ := hA
              have hY : Yard wr own 2 y a ⟨64, 0, [0, 0, 0, 0, 0, 0, 0, 0, 0], []⟩ ev lv := hY
              clear h1 h2 h3
              have hA7 := hA
              have hY7 := hY
              have HE7 := HE
              clear hA hY HE
              go_wp2_with fail
              refine (sw_as (V' := ⟨300, 4, 1, 0, [(1, [0, 0, 0, 0])]⟩) (Y' := ⟨64, 0, [0, 0, 0, 0, 0, 0, 0, 0, 0], []⟩) (r' := .int .i64 0) (Sweep_any hA7 hY7 (by decide) (by show (0 : Int) + ((0 : Nat) : Int) < _; omega) (by show (0 : Nat) ≤ _; omega)) (by kernel_rfl) (by kernel_rfl) (by kernel_rfl)).mono ?_
              rintro e w8 ⟨lv8, own8, rfl, hE8, hA8, hY8⟩
              have HE8 := Lib.hid (HE7.out.trans (hE8.mono (M' := fun c => c ≠ 0) (by intro c h; rcases h with rfl | rfl <;> decide)))
              clear hE8 hA7 hY7 HE7
              go_wp2_with fail
              refine (sw_as (V' := ⟨300, 4, 1, 0, [(1, [0, 0, 0, 0])]⟩) (Y' := ⟨64, 0, [0, 0, 0, 0, 0, 0, 0, 0, 0], []⟩) (r' := .int .i64 0) (Sweep_any hA8 hY8 (by decide) (by show (0 : Int) + ((0 : Nat) : Int) < _; omega) (by decide)) (by kernel_rfl) (by kernel_rfl) (by kernel_rfl)).mono ?_
              rintro e w9 ⟨lv9, own9, rfl, hE9, hA9, hY9⟩
              have HE9 := Lib.hid (HE8.out.trans (hE9.mono (M' := fun c => c ≠ 0) (by intro c h; rcases h with rfl | rfl <;> decide)))
              clear hE9 hA8 hY8 HE8
              go_wp2_with fail
              refine (ar_as (r' := .int .i64 0) (Free_any hA9 (by show _ < _; first | decide | (simp; omega)) 1) (by kernel_rfl) rfl).mono ?_
              rintro e w10 ⟨rfl, own10, hE10, hA10⟩
              have HE10 := Lib.hid (HE9.out.trans (hE10.mono (M' := fun c => c ≠ 0) (by simp)))
              clear hE10 hA9 hY9 HE9 hA10
              go_wp2_with fail
              go_ret
              exact ⟨by simp, HE10.out.below (by simp)⟩
          · have h502 : ¬ (50 : Int) < i := by omega
            cases hbad : badT t with
            | true =>
              obtain ⟨e1, e2, e3⟩ := tw_step_bad false false wts k t0 t hbad
              have HRT := Lib.hid (sw_as (Retire_any hA hY (by decide) (by omega) (by omega) (by omega) t 1) e2 e3 (by rw [e1] : (Value.int .i64 _) = .int .i64 1))
              have hb2 : t < 1 ∨ 8 < t := by unfold badT at hbad; simp at hbad; omega
              clear e1 e2 e3 hA hY h1 h2 h3 hbad
              rcases hb2 with hb2 | hb2
              all_goals
                go_wp2_with fail
                refine HRT.out.mono ?_
                rintro e w6 ⟨lv6, own6, rfl, hE6, hA6, hY6⟩
                have HE6 := Lib.hid (HE.out.trans (hE6.mono (M' := fun c => c ≠ 0) (by intro c h; rcases h with rfl | rfl <;> decide)))
                clear hE6
                go_wp2_with fail
                go_roundg (n - (i + 1))
                case measure => omega
                case rel => exact ⟨own6, i + 1, wts, k, t0, lv6, by go_num, by omega, rfl, (fun h => by first | rfl | exact HWE.out h), by omega, hA6, hY6, HE6.out⟩
            | false =>
              have hb1 : ¬ t < 1 := by unfold badT at hbad; simp at hbad; omega
              have hb2 : ¬ 8 < t := by unfold badT at hbad; simp at hbad; omega
              cases wts with
              | true =>
                obtain ⟨e1, e2, e3⟩ := tw_step_twice false false k t0 t hbad
                have HRT := Lib.hid (sw_as (Retire_any hA hY (by decide) (by omega) (by omega) (by omega) t 1) e2 e3 (by rw [e1] : (Value.int .i64 _) = .int .i64 42))
                clear e1 e2 e3 hA hY h1 h2 h3 hbad
                go_wp2_with fail
                refine HRT.out.mono ?_
                rintro e w6 ⟨lv6, own6, rfl, hE6, hA6, hY6⟩
                have HE6 := Lib.hid (HE.out.trans (hE6.mono (M' := fun c => c ≠ 0) (by intro c h; rcases h with rfl | rfl <;> decide)))
                clear hE6
                go_wp2_with fail
                go_roundg (n - (i + 1))
                case measure => omega
                case rel => exact ⟨own6, i + 1, true, k, t0, lv6, by go_num, by omega, rfl, (by decide), by omega, hA6, hY6, HE6.out⟩
                    | false =>
                obtain ⟨e1, e2, e3⟩ := tw_step_ok false k t0 t hbad
                have HRT := Lib.hid (sw_as (Retire_any hA hY (by decide) (by omega) (by omega) (by omega) t 1) e2 e3 (by rw [e1] : (Value.int .i64 _) = .int .i64 0))
                clear e1 e2 e3 hA hY h1 h2 h3 hbad
                go_wp2_with fail
                refine HRT.out.mono ?_
                rintro e w6 ⟨lv6, own6, rfl, hE6, hA6, hY6⟩
                have HE6 := Lib.hid (HE.out.trans (hE6.mono (M' := fun c => c ≠ 0) (by intro c h; rcases h with rfl | rfl <;> decide)))
                clear hE6
                go_wp2_with fail
                go_roundg (n - (i + 1))
                case measure => omega
                case rel => exact ⟨own6, i + 1, true, k, t, lv6, by go_num, by omega, rfl, (by decide), by omega, hA6, hY6, HE6.out⟩
        · obtain rfl : i = n := by omega
          cases wts with
          | true =>
            have hA : Arena wr own 1 a ⟨300, 4, 1, 0, [(1, [0, 0, 0, 0])]⟩ := hA
            have hY : Yard wr own 2 y a ⟨64, 1, [0, 0, 0, 0, 0, 0, 0, 0, 0], [(1, t0, 1)]⟩ ev lv := hY
            clear h1 h2 h3
            have hA7 := hA
            have hY7 := hY
            have HE7 := HE
            clear hA hY HE
            go_wp2_with fail
            refine (sw_as (V' := ⟨300, 0, 1, 0, []⟩) (Y' := ⟨64, 1, [0, 0, 0, 0, 0, 0, 0, 0, 0], []⟩) (r' := .int .i64 1) (Sweep_any hA7 hY7 (by decide) (by show (0 : Int) + ((1 : Nat) : Int) < _; omega) (by show (1 : Nat) ≤ _; omega)) (by kernel_rfl) (by kernel_rfl) (by kernel_rfl)).mono ?_
            rintro e w8 ⟨lv8, own8, rfl, hE8, hA8, hY8⟩
            have HE8 := Lib.hid (HE7.out.trans (hE8.mono (M' := fun c => c ≠ 0) (by intro c h; rcases h with rfl | rfl <;> decide)))
            clear hE8 hA7 hY7 HE7
            go_wp2_with fail
            refine (sw_as (V' := ⟨300, 0, 1, 0, []⟩) (Y' := ⟨64, 1, [0, 0, 0, 0, 0, 0, 0, 0, 0], []⟩) (r' := .int .i64 0) (Sweep_any hA8 hY8 (by decide) (by show (0 : Int) + ((0 : Nat) : Int) < _; omega) (by decide)) (by kernel_rfl) (by kernel_rfl) (by kernel_rfl)).mono ?_
            rintro e w9 ⟨lv9, own9, rfl, hE9, hA9, hY9⟩
            have HE9 := Lib.hid (HE8.out.trans (hE9.mono (M' := fun c => c ≠ 0) (by intro c h; rcases h with rfl | rfl <;> decide)))
            clear hE9 hA8 hY8 HE8
            go_wp2_with fail
            refine (ar_as (r' := .int .i64 20) (Free_any hA9 (by show _ < _; first | decide | (simp; omega)) 1) (by kernel_rfl) rfl).mono ?_
            rintro e w10 ⟨rfl, own10, hE10, hA10⟩
            have HE10 := Lib.hid (HE9.out.trans (hE10.mono (M' := fun c => c ≠ 0) (by simp)))
            clear hE10 hA9 hY9 HE9 hA10
            go_wp2_with fail
            go_ret
            exact ⟨by simp, HE10.out.below (by simp)⟩
          | false =>
            have hA : Arena wr own 1 a ⟨300, 4, 1, 0, [(1, [0, 0, 0, 0])]⟩ := hA
            have hY : Yard wr own 2 y a ⟨64, 0, [0, 0, 0, 0, 0, 0, 0, 0, 0], []⟩ ev lv := hY
            clear h1 h2 h3
            have hA7 := hA
            have hY7 := hY
            have HE7 := HE
            clear hA hY HE
            go_wp2_with fail
            refine (sw_as (V' := ⟨300, 4, 1, 0, [(1, [0, 0, 0, 0])]⟩) (Y' := ⟨64, 0, [0, 0, 0, 0, 0, 0, 0, 0, 0], []⟩) (r' := .int .i64 0) (Sweep_any hA7 hY7 (by decide) (by show (0 : Int) + ((0 : Nat) : Int) < _; omega) (by show (0 : Nat) ≤ _; omega)) (by kernel_rfl) (by kernel_rfl) (by kernel_rfl)).mono ?_
            rintro e w8 ⟨lv8, own8, rfl, hE8, hA8, hY8⟩
            have HE8 := Lib.hid (HE7.out.trans (hE8.mono (M' := fun c => c ≠ 0) (by intro c h; rcases h with rfl | rfl <;> decide)))
            clear hE8 hA7 hY7 HE7
            go_wp2_with fail
            refine (sw_as (V' := ⟨300, 4, 1, 0, [(1, [0, 0, 0, 0])]⟩) (Y' := ⟨64, 0, [0, 0, 0, 0, 0, 0, 0, 0, 0], []⟩) (r' := .int .i64 0) (Sweep_any hA8 hY8 (by decide) (by show (0 : Int) + ((0 : Nat) : Int) < _; omega) (by decide)) (by kernel_rfl) (by kernel_rfl) (by kernel_rfl)).mono ?_
            rintro e w9 ⟨lv9, own9, rfl, hE9, hA9, hY9⟩
            have HE9 := Lib.hid (HE8.out.trans (hE9.mono (M' := fun c => c ≠ 0) (by intro c h; rcases h with rfl | rfl <;> decide)))
            clear hE9 hA8 hY8 HE8
            go_wp2_with fail
            refine (ar_as (r' := .int .i64 0) (Free_any hA9 (by show _ < _; first | decide | (simp; omega)) 1) (by kernel_rfl) rfl).mono ?_
            rintro e w10 ⟨rfl, own10, hE10, hA10⟩
            have HE10 := Lib.hid (HE9.out.trans (hE10.mono (M' := fun c => c ≠ 0) (by simp)))
            clear hE10 hA9 hY9 HE9 hA10
            go_wp2_with fail
            go_ret
            exact ⟨by simp, HE10.out.below (by simp)⟩
end Go.Proofs.Ytdomehpdjnfkeaa
