/- EpochOrder: the statement itself: whatever the input, the call answers true and leaves it as it was. -/
import Derived.Test.YtdomehpdjnfkeaaEpochOrder
import Derived.Test.YtdomehpdjnfkeaaRows
import Derived.Test.YtdomehpdjnfkeaaArgs
import Derived.ShutString
import Derived.OpenShut
import Derived.JoinedCond
import Derived.StringKeys
set_option maxRecDepth 100000
set_option linter.unusedVariables false
set_option linter.unusedSimpArgs false
namespace Go.Proofs.Ytdomehpdjnfkeaa.liftEpochOrder
open Go.ChangeShapes Go.WideShapes Go.ChangeAt Go.RowKit Go.PM
theorem own : ownKnob Try.prog.godebug = none := by kernel_rfl
theorem laidOut : laidOutB Try.prog = true := by kernel_rfl
theorem cells_3 : Try.prog.cellsOf 3 = 1 := by kernel_rfl
theorem bytes_3 : Try.prog.bytesOf 3 = 8 := by kernel_rfl
theorem info_3 : (Try.prog.info? 3).map (fun i => i.size) = some 1 := by kernel_rfl
theorem lifted (os : Os) (started : os.Started) (H : Type) (enc : TypeId × Value → H) :
    ReturnsInHanded {} Try.checked os 5 .any (Rows.epochOrderSpec.pre6 enc Try.prog Try.f5 Rows.epochOrderRow.domain false) (Rows.epochOrderSpec.post enc Try.prog Try.f5 false true false false) := by
  refine returnsInHanded_of_change_sized (C := Try.checked) own started (by kernel_rfl) Try.func5
    (ChangeSpec.witness6 (enc := enc) (C := Try.checked) false ⟨#[], #[.slice none 0 0, .slice none 0 0], []⟩ 8 (by kernel_rfl) (by kernel_rfl) (by kernel_rfl) (by kernel_rfl)) ?_
  intro W base args ds gs before hval0 hW _ hsz0 _
  have hsz : (DataW.weightsEach Try.prog (Try.f5.params.toList ++ Rows.epochOrderSpec.plain.varTypes Try.prog) (ds ++ gs)).all (· ≤ reachBytes) = true := hsz0
  clear hsz0
  have hval : ∀ (j : Nat) t v, Try.f5.params[j]? = some t → args[j]? = some v → Value.okWide Try.prog W .any base t v := hval0
  have hW' := hW
  obtain ⟨p, q, hA0, hV, rfl, _, _⟩ := hW
  have hA : DataW.TrodAll enc Try.prog W 0 (fun _ => true) true Try.f5.params.toList args.toList ds p := hA0
  rw [Try.params5] at hA hval hsz
  obtain ⟨v0, vs0, d0, ds0, p0, q0, hargs, rfl, rfl, h0, r0⟩ := trodAll_cons hA
  obtain ⟨v1, vs1, d1, ds1, p1, q1, rfl, rfl, rfl, h1, r1⟩ := trodAll_cons r0
  obtain ⟨rfl, rfl, rfl⟩ := trodAll_nil r1
  obtain rfl : args = #[v0, v1] := by cases args; simp_all
  obtain ⟨rfl, rfl⟩ := trodVars_none hV
  clear hA0 hval0 hargs
  simp only [List.append_nil] at hW'
  have hlt0 : ∀ x ∈ p0, x.block < W.heap.size := fun x hx => by simpa using hW'.lt x (by simp only [List.mem_append]; simp [hx])
  have hlt1 : ∀ x ∈ p1, x.block < W.heap.size := fun x hx => by simpa using hW'.lt x (by simp only [List.mem_append]; simp [hx])
  obtain ⟨i0, hi0, hs0⟩ : ∃ i, Try.prog.info? 3 = some i ∧ i.size = 1 := by
    have := info_3
    cases hx : Try.prog.info? 3 with
    | none => rw [hx] at this; cases this
    | some i => rw [hx] at this; exact ⟨i, rfl, Option.some.inj this⟩
  obtain ⟨n0, b0, off0, f0, hr0⟩ := view_ints Try.underlying33 Try.underlying3 cells_3 hi0 hs0 bytes_3 (hval 0 33 v0 rfl rfl) h0 hlt0 hsz (j := 0) rfl rfl
  obtain ⟨i1, hi1, hs1⟩ : ∃ i, Try.prog.info? 3 = some i ∧ i.size = 1 := by
    have := info_3
    cases hx : Try.prog.info? 3 with
    | none => rw [hx] at this; cases this
    | some i => rw [hx] at this; exact ⟨i, rfl, Option.some.inj this⟩
  obtain ⟨n1, b1, off1, f1, hr1⟩ := view_ints Try.underlying33 Try.underlying3 cells_3 hi1 hs1 bytes_3 (hval 1 33 v1 rfl rfl) h1 hlt1 hsz (j := 1) rfl rfl
  have hsl1 : SlOf v1 n1 b1 off1 := by
    obtain ⟨a, l, c, rfl⟩ := okWide_slice Try.underlying33 (hval 1 33 v1 rfl rfl)
    exact Recs.sl Try.underlying33 hi1 hr1
  refine (epochOrder_walk W v0 n0 b0 off0 f0 hr0 v1 n1 b1 off1 f1 hr1 hsl1).mono fun e W' ⟨he, hb⟩ => ?_
  subst he
  have hb : Below W.heap.size W W' := hb
  exact ⟨_, rfl, _, _, _, [], p0 ++ (p1 ++ []), [], hW', trodAll_cons_mk (shut_bool Try.underlying4 true) trodAll_mk0, trodAll_cons_mk (Below.trod laidOut (by kernel_rfl) (of_decide_eq_true (by kernel_rfl)) h0 hb hlt0) (trodAll_cons_mk (Below.trod laidOut (by kernel_rfl) (of_decide_eq_true (by kernel_rfl)) h1 hb hlt1) trodAll_mk0), rfl, hb.frame _, fun h => by cases h⟩
theorem holds : Rows.epochOrderRow.holds Try.pinned (OpenSpec.ofChange Rows.epochOrderSpec) :=
  OpenClaim.holds_of_wide 5 Try.f5 rfl rfl rfl rfl rfl rfl rfl ⟨rfl, rfl, rfl, rfl, rfl⟩ rfl rfl rfl rfl rfl (by kernel_rfl) Try.func5 (by kernel_rfl)
    (of_decide_eq_true (by kernel_rfl)) (by unfold Func.isWrapper; rw [if_neg (of_decide_eq_false (by kernel_rfl))]; exact ⟨rfl, rfl⟩)
    (fun os started H enc _ => lifted os started H enc)
end Go.Proofs.Ytdomehpdjnfkeaa.liftEpochOrder
namespace Go.Proofs.Ytdomehpdjnfkeaa
theorem epochOrder_holds : Rows.EpochOrderSaid := liftEpochOrder.holds
end Go.Proofs.Ytdomehpdjnfkeaa
