/- Layer 6: what the statements' own functions do: the document's example; one call against the empty document. -/
import Derived.Test.YtemibcglhbjaoaaSched
set_option maxRecDepth 20000
set_option linter.unusedVariables false
set_option linter.unusedSimpArgs false
namespace Go.Proofs.Ytemibcglhbjaoaa
open Go.RowKit Go.PM

set_option maxHeartbeats 1000000 in
theorem salive_any (w : World) : Calls Try.prog 14 #[] w fun e w' => e = .returned (.bool true) ∧ Below w.heap.size w w' := by
  go_enter Try.func14, Try.ntmps14
  go_wp2_with fail
  refine (SNew_any 2 1 (fun _ => 0) w).mono ?_
  rintro e w1 ⟨rfl, hB, hA⟩
  have h01 : Ext (fun c => c = 1) w w1 (fun _ => 0) (ow (fun _ => 0) w.heap.size 1) := Ext.of_below hB _ _
  generalize ow (fun _ => 0) w.heap.size 1 = own1 at *
  generalize w.heap.size + 1 = a at *
  have H := Lib.hid h01
  clear h01 hB
  go_wp2_with fail
  refine (sc_as (r' := .tuple #[.int .i64 1, .int .i64 0]) (V' := ⟨2, [(0, 0), (1, 0)], 0, 0⟩) (Spawn_any hA (by decide)) (by kernel_rfl) (by kernel_rfl)).mono ?_
  rintro e w2 ⟨rfl, own2, hE, hA⟩
  have H := Lib.hid (H.out.trans hE)
  clear hE
  go_wp2_with fail
  refine (sc_as (r' := .tuple #[.int .i64 2, .int .i64 0]) (V' := ⟨2, [(0, 0), (1, 0), (1, 0)], 0, 0⟩) (Spawn_any hA (by decide)) (by kernel_rfl) (by kernel_rfl)).mono ?_
  rintro e w3 ⟨rfl, own3, hE, hA⟩
  have H := Lib.hid (H.out.trans hE)
  clear hE
  go_wp2_with fail
  refine (sc_as (r' := .int .i64 0) (V' := ⟨2, [(0, 0), (2, 7), (1, 0)], 0, 0⟩) (Block_any hA 1 7) (by kernel_rfl) (by kernel_rfl)).mono ?_
  rintro e w4 ⟨rfl, own4, hE, hA⟩
  have H := Lib.hid (H.out.trans hE)
  clear hE
  go_wp2_with fail
  refine (sc_as (r' := .bool false) (V' := ⟨2, [(0, 0), (2, 7), (1, 0)], 0, 1⟩) (Pick_any hA (by decide) (by decide) 1) (by kernel_rfl) (by kernel_rfl)).mono ?_
  rintro e w5 ⟨rfl, own5, hE, hA⟩
  have H := Lib.hid (H.out.trans hE)
  clear hE
  go_wp2_with fail
  refine (sc_as (r' := .bool true) (V' := ⟨2, [(0, 0), (2, 7), (1, 0)], 1, 1⟩) (Pick_any hA (by decide) (by decide) 2) (by kernel_rfl) (by kernel_rfl)).mono ?_
  rintro e w6 ⟨rfl, own6, hE, hA⟩
  have H := Lib.hid (H.out.trans hE)
  clear hE
  go_wp2_with fail
  refine (sc_as (r' := .int .i64 1) (V' := ⟨2, [(0, 0), (1, 7), (1, 0)], 1, 1⟩) (Wake_any hA 7) (by kernel_rfl) (by kernel_rfl)).mono ?_
  rintro e w7 ⟨rfl, own7, hE, hA⟩
  have H := Lib.hid (H.out.trans hE)
  clear hE
  go_wp2_with fail
  refine (sc_as (r' := .bool true) (V' := ⟨2, [(0, 0), (1, 7), (1, 0)], 2, 1⟩) (Pick_any hA (by decide) (by decide) 1) (by kernel_rfl) (by kernel_rfl)).mono ?_
  rintro e w8 ⟨rfl, own8, hE, hA⟩
  have H := Lib.hid (H.out.trans hE)
  clear hE
  go_wp2_with fail
  refine (sc_as (r' := .int .i64 0) (V' := ⟨2, [(0, 0), (1, 7), (3, 0)], 2, 1⟩) (End_any hA 2) (by kernel_rfl) (by kernel_rfl)).mono ?_
  rintro e w9 ⟨rfl, own9, hE, hA⟩
  have H := Lib.hid (H.out.trans hE)
  clear hE
  go_wp2_with fail
  refine (sc_as (r' := .int .i64 0) (V' := ⟨2, [(0, 0), (1, 7), (0, 0)], 2, 1⟩) (SFree_any hA 2) (by kernel_rfl) (by kernel_rfl)).mono ?_
  rintro e w10 ⟨rfl, own10, hE, hA⟩
  have H := Lib.hid (H.out.trans hE)
  clear hE
  go_wp2_with fail
  refine (sc_as (r' := .tuple #[.int .i64 3, .int .i64 0]) (V' := ⟨2, [(0, 0), (1, 7), (0, 0), (1, 0)], 2, 1⟩) (Spawn_any hA (by decide)) (by kernel_rfl) (by kernel_rfl)).mono ?_
  rintro e w11 ⟨rfl, own11, hE, hA⟩
  have H := Lib.hid (H.out.trans hE)
  clear hE
  go_wp2_with fail
  have hst := State_any hA 2
  rw [show SV.state ⟨2, [(0, 0), (1, 7), (0, 0), (1, 0)], 2, 1⟩ 2 = 0 by decide] at hst
  refine hst.mono ?_
  rintro e w12 ⟨rfl, rfl⟩
  clear hst
  go_wp2_with fail
  go_ret
  exact ⟨rfl, H.out.below (by simp)⟩
end Go.Proofs.Ytemibcglhbjaoaa
