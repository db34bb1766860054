/- Layer 5's laws: two answers that are the same. -/
import Derived.Test.YtefhngbeodnldaaChainRun
import Derived.Test.YtefhngbeodnldaaChainRef4
import Derived.Test.YtefhngbeodnldaaChainList
set_option maxRecDepth 20000
set_option linter.unusedVariables false
set_option linter.unusedSimpArgs false
namespace Go.Proofs.Ytefhngbeodnldaa
open Go.RowKit Go.PM
theorem AnsAt.below {w w' : World} {v : Value} {A : AnsV} (h : AnsAt w v A) (hB : Below w.heap.size w w') : AnsAt w' v A := by
  obtain ⟨a, l, c, h1, h2⟩ := h
  exact ⟨a, l, c, h1, h2.below hB⟩
theorem AnsAt.zero (w : World) : AnsAt w (.agg #[.int .i64 0, .bool false, .int .i64 0, .slice none 0 0]) ⟨0, false, 0, []⟩ := ⟨_, _, _, rfl, by simp, .inl ⟨rfl, rfl⟩⟩
set_option maxHeartbeats 2000000 in
theorem CoAlike_any {w : World} {v u : Value} {A : AnsV} (hv : AnsAt w v A) (hu : AnsAt w u A) : Calls Try.prog 35 #[v, u] w fun e w' => e = .returned (.bool true) ∧ Below w.heap.size w w' := by
  obtain ⟨a1, l1, c1, rfl, h1⟩ := hv
  obtain ⟨a2, l2, c2, rfl, h2⟩ := hu
  have hb0 : (A.err == A.err) = true := by simp
  have hb1 : (A.ok == A.ok) = true := by simp
  have hb2 : (A.stamp == A.stamp) = true := by simp
  have HSL := Lib.hid (fun w9 (hB : Below w.heap.size w w9) => SameLongs_any (h1.below hB) (h2.below hB))
  rw [show decide (A.values = A.values) = true from by simp] at HSL
  generalize A.err = er at *
  generalize A.ok = ok at *
  generalize A.stamp = st at *
  have hB2 : Below w.heap.size w ((w.alloc (.cells #[.int .i64 er, .bool ok, .int .i64 st, .slice a1 l1 c1] 41)).alloc (.cells #[.int .i64 er, .bool ok, .int .i64 st, .slice a2 l2 c2] 41)) := ((Below.refl _ _).alloc (Nat.le_refl _) _).alloc (by rw [World.size_alloc]; omega) _
  have HB2 := Lib.hid hB2
  have HCALL := Lib.hid (HSL.out _ hB2)
  clear h1 h2 hB2 HSL
  go_enter Try.func35, Try.ntmps35
  go_wp2_with fail
  refine HCALL.out.mono ?_
  rintro e w3 ⟨rfl, hB3⟩
  have HP := Lib.hid (HB2.out.trans (hB3.mono HB2.out.size))
  clear hB3 HCALL HB2
  go_wp2_with fail
  go_ret
  exact ⟨rfl, HP.out⟩
end Go.Proofs.Ytefhngbeodnldaa
