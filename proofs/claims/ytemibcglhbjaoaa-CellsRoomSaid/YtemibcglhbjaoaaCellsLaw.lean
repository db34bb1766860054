/- Layer 2: what the statements' own functions do: the document's example. -/
import Derived.Test.YtemibcglhbjaoaaCells
set_option maxRecDepth 20000
set_option linter.unusedVariables false
set_option linter.unusedSimpArgs false
namespace Go.Proofs.Ytemibcglhbjaoaa
open Go.RowKit Go.PM

theorem ArPost.as {k a : Nat} {V V' : AV} {w : World} {own : Nat → Nat} {r r' : Value} (hr : r = r') (hV : V = V') {e : Ending} {w' : World} (h : ArPost k a V w own r e w') : ArPost k a V' w own r' e w' := by
  subst hr; subst hV; exact h
theorem calls_as {f : FuncId} {args : Array Value} {k a : Nat} {V V' : AV} {w : World} {own : Nat → Nat} {r r' : Value} (h : Calls Try.prog f args w (ArPost k a V w own r)) (hr : r = r') (hV : V = V') :
    Calls Try.prog f args w (ArPost k a V' w own r') := h.mono fun _ _ h => h.as hr hV

set_option maxHeartbeats 1000000 in
theorem alive_any (w : World) : Calls Try.prog 22 #[] w fun e w' => e = .returned (.bool true) ∧ Below w.heap.size w w' := by
  go_enter Try.func22, Try.ntmps22
  go_wp2_with fail
  refine (New_any 4 1 (fun _ => 0) w).mono ?_
  rintro e w1 ⟨rfl, hB, hA⟩
  have h01 : Ext (fun c => c = 1) w w1 (fun _ => 0) (ow (fun _ => 0) w.heap.size 1) := Ext.of_below hB _ _
  generalize ow (fun _ => 0) w.heap.size 1 = own1 at *
  generalize w.heap.size + 1 = a at *
  have H := Lib.hid h01
  clear h01 hB
  go_wp2_with fail
  refine (calls_as (r' := .tuple #[.int .i64 1, .int .i64 0]) (V' := ⟨4, 3, 1, 0, [(1, [0, 0, 0])]⟩) (Alloc_any hA (by decide) 3) (by kernel_rfl) (by kernel_rfl)).mono ?_
  rintro e w2 ⟨rfl, own2, hE, hA⟩
  have H := Lib.hid (H.out.trans hE)
  clear hE
  go_wp2_with fail
  refine (calls_as (r' := .tuple #[.int .i64 0, .int .i64 21]) (V' := ⟨4, 3, 1, 0, [(1, [0, 0, 0])]⟩) (Alloc_any hA (by decide) 2) (by kernel_rfl) (by kernel_rfl)).mono ?_
  rintro e w3 ⟨rfl, own3, hE, hA⟩
  have H := Lib.hid (H.out.trans hE)
  clear hE
  go_wp2_with fail
  refine (calls_as (r' := .tuple #[.bool true, .int .i64 0]) (V' := ⟨4, 3, 1, 0, [(1, [7, 0, 0])]⟩) (Swap_any hA (by decide) 1 0 0 7) (by kernel_rfl) (by kernel_rfl)).mono ?_
  rintro e w4 ⟨rfl, own4, hE, hA⟩
  have H := Lib.hid (H.out.trans hE)
  clear hE
  go_wp2_with fail
  refine (calls_as (r' := .tuple #[.int .i64 5, .int .i64 0]) (V' := ⟨4, 3, 1, 0, [(1, [5, 0, 0])]⟩) (Add_any hA (by decide) 1 0 (-2)) (by kernel_rfl) (by kernel_rfl)).mono ?_
  rintro e w5 ⟨rfl, own5, hE, hA⟩
  have H := Lib.hid (H.out.trans hE)
  clear hE
  go_wp2_with fail
  refine (calls_as (r' := .int .i64 0) (V' := ⟨4, 0, 1, 0, []⟩) (Free_any hA (by decide) 1) (by kernel_rfl) (by kernel_rfl)).mono ?_
  rintro e w6 ⟨rfl, own6, hE, hA⟩
  have H := Lib.hid (H.out.trans hE)
  clear hE
  go_wp2_with fail
  refine (calls_as (r' := .tuple #[.int .i64 0, .int .i64 20]) (V' := ⟨4, 0, 1, 1, []⟩) (Load_any hA (by decide) 1 0) (by kernel_rfl) (by kernel_rfl)).mono ?_
  rintro e w7 ⟨rfl, own7, hE, hA⟩
  have H := Lib.hid (H.out.trans hE)
  clear hE
  go_wp2_with fail
  refine (calls_as (r' := .tuple #[.int .i64 2, .int .i64 0]) (V' := ⟨4, 2, 2, 1, [(2, [0, 0])]⟩) (Alloc_any hA (by decide) 2) (by kernel_rfl) (by kernel_rfl)).mono ?_
  rintro e w8 ⟨rfl, own8, hE, hA⟩
  have H := Lib.hid (H.out.trans hE)
  clear hE
  go_wp2_with fail
  refine (calls_as (r' := .tuple #[.int .i64 2, .int .i64 0]) (V' := ⟨4, 2, 2, 1, [(2, [0, 0])]⟩) (Size_any hA (by decide) 2) (by kernel_rfl) (by kernel_rfl)).mono ?_
  rintro e w9 ⟨rfl, own9, hE, hA⟩
  have H := Lib.hid (H.out.trans hE)
  clear hE
  go_wp2_with fail
  refine (Faults_any hA).mono ?_
  rintro e w10 ⟨rfl, rfl⟩
  go_wp2_with fail
  refine (Made_any hA).mono ?_
  rintro e w10 ⟨rfl, rfl⟩
  go_wp2_with fail
  go_ret
  exact ⟨rfl, H.out.below (by simp)⟩

/-! ### rows of ints and of bools that a statement makes -/
def bools (xs : List Bool) : Array Value := (xs.map Value.bool).toArray
theorem bools_get (xs : List Bool) (i : Nat) : (bools xs)[i]? = (xs[i]?).map Value.bool := by simp [bools]
theorem bools_set (xs : List Bool) (i : Nat) (v : Bool) : (bools xs).setIfInBounds i (.bool v) = bools (xs.set i v) := by
  simp [bools, List.map_set]
theorem make_ints_at (n : Nat) (z : Int) (hz : z = n) (h : n ≤ 256) (w : World) : (Instr.makeSlice 43 (.int .i64 z) (.int .i64 z)).run Try.prog w =
    .ok (.slice (some ⟨w.heap.size, 0, none⟩) n n) (w.alloc (.cells (ints (List.replicate n 0)) 2)) := by
  subst hz
  exact make_ints n h w
end Go.Proofs.Ytemibcglhbjaoaa
