/- EpochTwice: the statement itself: whatever the input, the call answers true and leaves it as it was. -/
import Derived.Test.YtdomehpdjnfkeaaEpochTwice
import Derived.Test.YtdomehpdjnfkeaaRows
import Derived.Test.YtdomehpdjnfkeaaArgs
import Derived.ShutString
import Derived.OpenShut
import Derived.JoinedCond
import Derived.StringKeys
set_option maxRecDepth 100000
set_option linter.unusedVariables false
set_option linter.unusedSimpArgs false
namespace Go.Proofs.Ytdomehpdjnfkeaa.liftEpochTwice
open Go.ChangeShapes Go.WideShapes Go.ChangeAt Go.RowKit Go.PM
theorem own : ownKnob Try.prog.godebug = none := by kernel_rfl
theorem laidOut : laidOutB Try.prog = true := by kernel_rfl
theorem cells_3 : Try.prog.cellsOf 3 = 1 := by kernel_rfl
theorem bytes_3 : Try.prog.bytesOf 3 = 8 := by kernel_rfl
theorem info_3 : (Try.prog.info? 3).map (fun i => i.size) = some 1 := by kernel_rfl
theorem lifted (os : Os) (started : os.Started) (H : Type) (enc : TypeId × Value → H) :
    ReturnsInHanded {} Try.checked os 6 .any (Rows.epochTwiceSpec.pre6 enc Try.prog Try.f6 Rows.epochTwiceRow.domain false) (Rows.epochTwiceSpec.post enc Try.prog Try.f6 false true false false) := by
  refine returnsInHanded_of_change_sized (C := Try.checked) own started (by kernel_rfl) Try.func6
    (ChangeSpec.witness6 (enc := enc) (C := Try.checked) false ⟨#[], #[.slice none 0 0, .bool false, .bool false], []⟩ 8 (by kernel_rfl) (by kernel_rfl) (by kernel_rfl) (by kernel_rfl)) ?_
  intro W base args ds gs before hval0 hW _ hsz0 _
  have hsz : (DataW.weightsEach Try.prog (Try.f6.params.toList ++ Rows.epochTwiceSpec.plain.varTypes Try.prog) (ds ++ gs)).all (· ≤ reachBytes) = true := hsz0
  clear hsz0
  have hval : ∀ (j : Nat) t v, Try.f6.params[j]? = some t → args[j]? = some v → Value.okWide Try.prog W .any base t v := hval0
  have hW' := hW
  obtain ⟨p, q, hA0, hV, rfl, _, _⟩ := hW
  have hA : DataW.TrodAll enc Try.prog W 0 (fun _ => true) true Try.f6.params.toList args.toList ds p := hA0
  rw [Try.params6] at hA hval hsz
  obtain ⟨v0, vs0, d0, ds0, p0, q0, hargs, rfl, rfl, h0, r0⟩ := trodAll_cons hA
  obtain ⟨v1, vs1, d1, ds1, p1, q1, rfl, rfl, rfl, h1, r1⟩ := trodAll_cons r0
  obtain ⟨v2, vs2, d2, ds2, p2, q2, rfl, rfl, rfl, h2, r2⟩ := trodAll_cons r1
  obtain ⟨rfl, rfl, rfl⟩ := trodAll_nil r2
  obtain rfl : args = #[v0, v1, v2] := by cases args; simp_all
  obtain ⟨rfl, rfl⟩ := trodVars_none hV
  clear hA0 hval0 hargs
  simp only [List.append_nil] at hW'
  have hlt0 : ∀ x ∈ p0, x.block < W.heap.size := fun x hx => by simpa using hW'.lt x (by simp only [List.mem_append]; simp [hx])
  obtain ⟨i0, hi0, hs0⟩ : ∃ i, Try.prog.info? 3 = some i ∧ i.size = 1 := by
    have := info_3
    cases hx : Try.prog.info? 3 with
    | none => rw [hx] at this; cases this
    | some i => rw [hx] at this; exact ⟨i, rfl, Option.some.inj this⟩
  obtain ⟨n0, b0, off0, f0, hr0⟩ := view_ints Try.underlying33 Try.underlying3 cells_3 hi0 hs0 bytes_3 (hval 0 33 v0 rfl rfl) h0 hlt0 hsz (j := 0) rfl rfl
  obtain ⟨n1, rfl, rfl, rfl⟩ := open_bool Try.underlying4 (hval 1 4 v1 rfl rfl) h1
  obtain ⟨n2, rfl, rfl, rfl⟩ := open_bool Try.underlying4 (hval 2 4 v2 rfl rfl) h2
  refine (epochTwice_walk W v0 n0 b0 off0 f0 hr0 n1 n2).mono fun e W' ⟨he, hb⟩ => ?_
  subst he
  have hb : Below W.heap.size W W' := hb
  exact ⟨_, rfl, _, _, _, [], p0 ++ ([] ++ ([] ++ [])), [], hW', trodAll_cons_mk (shut_bool Try.underlying4 true) trodAll_mk0, trodAll_cons_mk (Below.trod laidOut (by kernel_rfl) (of_decide_eq_true (by kernel_rfl)) h0 hb hlt0) (trodAll_cons_mk (shut_bool Try.underlying4 n1) (trodAll_cons_mk (shut_bool Try.underlying4 n2) trodAll_mk0)), rfl, hb.frame _, fun h => by cases h⟩
theorem holds : Rows.epochTwiceRow.holds Try.pinned (OpenSpec.ofChange Rows.epochTwiceSpec) :=
  OpenClaim.holds_of_wide 6 Try.f6 rfl rfl rfl rfl rfl rfl rfl ⟨rfl, rfl, rfl, rfl, rfl⟩ rfl rfl rfl rfl rfl (by kernel_rfl) Try.func6 (by kernel_rfl)
    (of_decide_eq_true (by kernel_rfl)) (by unfold Func.isWrapper; rw [if_neg (of_decide_eq_false (by kernel_rfl))]; exact ⟨rfl, rfl⟩)
    (fun os started H enc _ => lifted os started H enc)
end Go.Proofs.Ytdomehpdjnfkeaa.liftEpochTwice
namespace Go.Proofs.Ytdomehpdjnfkeaa
theorem epochTwice_holds : Rows.EpochTwiceSaid := liftEpochTwice.holds
end Go.Proofs.Ytdomehpdjnfkeaa
