/- Layer 4: what the statements' own functions do: the document's example. -/
import Derived.Test.YtdomehpdjnfkeaaEpochNew
import Derived.Test.YtdomehpdjnfkeaaInts
set_option maxRecDepth 20000
set_option linter.unusedVariables false
set_option linter.unusedSimpArgs false
namespace Go.Proofs.Ytdomehpdjnfkeaa
open Go.RowKit Go.PM

theorem sw_as {f : FuncId} {args : Array Value} {w : World} {own : Nat → Nat} {ka ky y a : Nat} {V V' : AV} {Y Y' : YV} {ev r r' : Value} (h : Calls Try.prog f args w (SwPost w own ka ky y a V Y ev r)) (hV : V = V') (hY : Y = Y') (hr : r = r') :
    Calls Try.prog f args w (SwPost w own ka ky y a V' Y' ev r') := by subst hV; subst hY; subst hr; exact h
theorem yp_as {f : FuncId} {args : Array Value} {w : World} {own : Nat → Nat} {ky y a : Nat} {Y Y' : YV} {ev lv : Value} {r r' : Int} (h : Calls Try.prog f args w (YPost ky y a Y w own ev lv r)) (hY : Y = Y') (hr : r = r') :
    Calls Try.prog f args w (YPost ky y a Y' w own ev lv r') := by subst hY; subst hr; exact h
theorem ar_as {f : FuncId} {args : Array Value} {k a : Nat} {V V' : AV} {w : World} {own : Nat → Nat} {r r' : Value} (h : Calls Try.prog f args w (ArPost k a V w own r)) (hr : r = r') (hV : V = V') :
    Calls Try.prog f args w (ArPost k a V' w own r') := by subst hr; subst hV; exact h
def aid (V : AV) (n : Int) : Int := if V.allocErr n = 0 then V.made + 1 else 0
def allocs : Nat → AV
  | 0 => AV.fresh 50
  | i + 1 => (allocs i).alloc 2
theorem allocs_made : ∀ i, (allocs i).made ≤ i
  | 0 => by show (0 : Int) ≤ 0; omega
  | i + 1 => by
    have h := allocs_made i
    show ((allocs i).alloc 2).made ≤ _
    unfold AV.alloc
    split
    · show (allocs i).made + 1 ≤ _; omega
    · omega
def AliveInv (w0 : World) (a : Nat) (g : Nat) (iv : Value) (w : World) : Prop :=
  ∃ (own : Nat → Nat) (i : Nat), iv = .int .i64 i ∧ i + g = 5 ∧ Arena w own 1 a (allocs i) ∧ Ext (fun c => c ≠ 0) w0 w (fun _ => 0) own
set_option maxHeartbeats 4000000 in
theorem alive4_any (w : World) : Calls Try.prog 8 #[] w fun e w' => e = .returned (.bool true) ∧ Below w.heap.size w w' := by
  go_enter Try.func8, Try.ntmps8
  go_wp2_with fail
  refine (New_any 50 1 (fun _ => 0) w).mono ?_
  rintro e w1 ⟨rfl, hB, hA⟩
  have h01 : Ext (fun c => c ≠ 0) w w1 (fun _ => 0) (ow (fun _ => 0) w.heap.size 1) := Ext.of_below hB _ _
  have HINV := Lib.hid (show AliveInv w (w.heap.size + 1) 5 (.int .i64 0) w1 from ⟨_, 0, rfl, by omega, hA, h01⟩)
  generalize w.heap.size + 1 = a at *
  clear h01 hB hA
  go_wp2_with fail
  go_loopg [2] 5 (fun g iv wr => AliveInv w a g iv wr)
  case atStart => exact HINV.out
  case round =>
    clear HINV
    obtain ⟨own, i, rfl, hi, hA, hE⟩ := hrel
    have HE := Lib.hid hE
    clear hE
    have hmd := allocs_made i
    by_cases hlt : i < 5
    · have hlt2 : (i : Int) < 5 := by omega
      go_wp2_with fail
      refine (show Calls Try.prog 10 #[.pointer (some ⟨a, 0, none⟩), .int .i64 2] wr (ArPost 1 a ((allocs i).alloc 2) wr own (.tuple #[.int .i64 (aid (allocs i) 2), .int .i64 ((allocs i).allocErr 2)])) from Alloc_any hA (by omega) 2).mono ?_
      rintro e w2 ⟨rfl, own2, hE2, hA2⟩
      have HE2 := Lib.hid (HE.out.trans (hE2.mono (M' := fun c => c ≠ 0) (by simp)))
      have HA2 := Lib.hid (show Arena w2 own2 1 a (allocs (i + 1)) from hA2)
      clear hE2 hA2 hA HE
      go_wp2_with fail
      go_roundg (5 - (i + 1))
      case measure => omega
      case rel => exact ⟨own2, i + 1, by go_num, by omega, HA2.out, HE2.out⟩
    · obtain rfl : i = 5 := by omega
      have HA := Lib.hid (show Arena wr own 1 a ⟨50, 10, 5, 0, [(1, [0, 0]), (2, [0, 0]), (3, [0, 0]), (4, [0, 0]), (5, [0, 0])]⟩ from hA)
      clear hA hmd
      go_wp2_with fail
      refine (YNew_any 2 4 a 2 own wr).mono ?_
      rintro e w2 ⟨rfl, hB, ev, hY⟩
      have hX : ∀ M, Ext M wr w2 own (ow own wr.heap.size 2) := fun M => Ext.of_below hB _ _
      have hA2 := HA.out.ext (hX (fun _ => False)) (by simp)
      have HE2 := Lib.hid (HE.out.trans (hX _))
      generalize ow own wr.heap.size 2 = own2 at *
      generalize wr.heap.size + 1 = y at *
      clear hX hB HA HE
      have hY : Yard w2 own2 2 y a ⟨4, 0, [0, 0, 0], []⟩ ev (.slice none 0 0) := hY
      go_wp2_with fail
      refine (yp_as (Y' := ⟨4, 1, [0, 1, 0], []⟩) (r' := 0) (Enter_any hY (by decide) 1) (by kernel_rfl) (by kernel_rfl)).mono ?_
      rintro e w3 ⟨rfl, hE3, hY3⟩
      have hA3 := hA2.ext hE3 (by decide)
      have HE3 := Lib.hid (HE2.out.trans (hE3.mono (M' := fun c => c ≠ 0) (by simp)))
      clear hE3 hA2 hY HE2
      go_wp2_with fail
      refine (sw_as (V' := ⟨50, 10, 5, 0, [(1, [0, 0]), (2, [0, 0]), (3, [0, 0]), (4, [0, 0]), (5, [0, 0])]⟩) (Y' := ⟨4, 2, [0, 1, 0], [(5, 2, 2)]⟩) (r' := .int .i64 0) (Retire_any hA3 hY3 (by decide) (by decide) (by decide) (by decide) 2 5) (by kernel_rfl) (by kernel_rfl) (by kernel_rfl)).mono ?_
      rintro e w4 ⟨lv4, own4, rfl, hE4, hA4, hY4⟩
      have HE4 := Lib.hid (HE3.out.trans (hE4.mono (M' := fun c => c ≠ 0) (by intro c h; rcases h with rfl | rfl <;> decide)))
      clear hE4 hA3 hY3 HE3
      go_wp2_with fail
      refine (sw_as (V' := ⟨50, 10, 5, 0, [(1, [0, 0]), (2, [0, 0]), (3, [0, 0]), (4, [0, 0]), (5, [0, 0])]⟩) (Y' := ⟨4, 2, [0, 1, 0], [(5, 2, 2)]⟩) (r' := .int .i64 0) (Sweep_any hA4 hY4 (by decide) (by decide) (by decide)) (by kernel_rfl) (by kernel_rfl) (by kernel_rfl)).mono ?_
      rintro e w5 ⟨lv5, own5, rfl, hE5, hA5, hY5⟩
      have HE5 := Lib.hid (HE4.out.trans (hE5.mono (M' := fun c => c ≠ 0) (by intro c h; rcases h with rfl | rfl <;> decide)))
      clear hE5 hA4 hY4 HE4
      go_wp2_with fail
      refine (Waiting_any hY5 (by decide) 3).mono ?_
      rintro e w6 ⟨wv, rfl, hrow, hB⟩
      have hX : ∀ M, Ext M w5 w6 own5 (ow own5 w5.heap.size 3) := fun M => Ext.of_below hB _ _
      have hA6 := hA5.ext (hX (fun _ => False)) (by simp)
      have hY6 := hY5.ext (hX (fun _ => False)) (by simp)
      have HE6 := Lib.hid (HE5.out.trans (hX _))
      generalize ow own5 w5.heap.size 3 = own6 at *
      obtain ⟨wa, wc, rfl⟩ := hrow.shape
      clear hX hB hA5 hY5 HE5 hrow
      have hwl : (YV.waiting ⟨4, 2, [0, 1, 0], [(5, 2, 2)]⟩).length = 1 := rfl
      rw [hwl]
      go_wp2_with fail
      refine (yp_as (Y' := ⟨4, 3, [0, 1, 3], [(5, 2, 2)]⟩) (r' := 0) (Enter_any hY6 (by decide) 2) (by kernel_rfl) (by kernel_rfl)).mono ?_
      rintro e w7 ⟨rfl, hE7, hY7⟩
      have hA7 := hA6.ext hE7 (by decide)
      have HE7 := Lib.hid (HE6.out.trans (hE7.mono (M' := fun c => c ≠ 0) (by simp)))
      clear hE7 hA6 hY6 HE6
      go_wp2_with fail
      refine (yp_as (Y' := ⟨4, 3, [0, 0, 3], [(5, 2, 2)]⟩) (r' := 0) (Leave_any hY7 1) (by kernel_rfl) (by kernel_rfl)).mono ?_
      rintro e w8 ⟨rfl, hE8, hY8⟩
      have hA8 := hA7.ext hE8 (by decide)
      have HE8 := Lib.hid (HE7.out.trans (hE8.mono (M' := fun c => c ≠ 0) (by simp)))
      clear hE8 hA7 hY7 HE7
      go_wp2_with fail
      refine (sw_as (V' := ⟨50, 8, 5, 0, [(1, [0, 0]), (2, [0, 0]), (3, [0, 0]), (4, [0, 0])]⟩) (Y' := ⟨4, 3, [0, 0, 3], []⟩) (r' := .int .i64 1) (Sweep_any hA8 hY8 (by decide) (by decide) (by decide)) (by kernel_rfl) (by kernel_rfl) (by kernel_rfl)).mono ?_
      rintro e w9 ⟨lv9, own9, rfl, hE9, hA9, hY9⟩
      have HE9 := Lib.hid (HE8.out.trans (hE9.mono (M' := fun c => c ≠ 0) (by intro c h; rcases h with rfl | rfl <;> decide)))
      clear hE9 hA8 hY8 HE8
      go_wp2_with fail
      refine (ar_as (r' := .tuple #[.int .i64 0, .int .i64 20]) (V' := ⟨50, 8, 5, 1, [(1, [0, 0]), (2, [0, 0]), (3, [0, 0]), (4, [0, 0])]⟩) (Load_any hA9 (by decide) 5 0) (by kernel_rfl) (by kernel_rfl)).mono ?_
      rintro e w10 ⟨rfl, own10, hE10, hA10⟩
      have hY10 := hY9.ext hE10 (by decide)
      have HE10 := Lib.hid (HE9.out.trans (hE10.mono (M' := fun c => c ≠ 0) (by simp)))
      clear hE10 hA9 hY9 HE9 hA10
      have HLB := Lib.hid (show Calls Try.prog 16 #[.pointer (some ⟨y, 0, none⟩), .int .i64 2] w10 fun e w' => e = .returned (.int .i64 0) ∧ Below w10.heap.size w10 w' from Limbo_any hY10 (by decide) 2)
      have HY10 := Lib.hid hY10
      clear hY10
      go_wp2_with fail
      refine HLB.out.mono ?_
      rintro e w11 ⟨rfl, hB⟩
      have hX : ∀ M, Ext M w10 w11 own10 (ow own10 w10.heap.size 3) := fun M => Ext.of_below hB _ _
      have hY11 := HY10.out.ext (hX (fun _ => False)) (by simp)
      have HE11 := Lib.hid (HE10.out.trans (hX _))
      generalize ow own10 w10.heap.size 3 = own11 at *
      have HIN := Lib.hid (Inside_any hY11 3)
      clear hX hB HY10 HE10 HLB hY11
      go_wp2_with fail
      refine HIN.out.mono ?_
      rintro e w12 ⟨iv, rfl, hrow, hB⟩
      have HB := Lib.hid ((HE11.out.trans (Ext.of_below hB _ 0)).below (by simp))
      obtain ⟨wa, wc, rfl⟩ := hrow.shape
      have hil : (YV.inside ⟨4, 3, [0, 0, 3], []⟩).length = 1 := rfl
      clear hrow hB HE11 HIN
      rw [hil]
      go_wp2_with fail
      go_ret
      exact ⟨rfl, HB.out⟩
end Go.Proofs.Ytdomehpdjnfkeaa
