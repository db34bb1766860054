/- AtomsAlone: the statement itself: whatever the input, the call answers true and leaves it as it was. -/
import Derived.Test.YtkfinhakhhiabaaAtomsAlone
import Derived.Test.YtkfinhakhhiabaaRows
import Derived.Test.YtkfinhakhhiabaaArgs
import Derived.Test.YtkfinhakhhiabaaArgStrs
import Derived.ShutString
import Derived.OpenShut
import Derived.JoinedCond
import Derived.StringKeys
set_option maxRecDepth 100000
set_option linter.unusedVariables false
set_option linter.unusedSimpArgs false
namespace Go.Proofs.Ytkfinhakhhiabaa.liftAtomsAlone
open Go.ChangeShapes Go.WideShapes Go.ChangeAt Go.RowKit Go.PM
theorem own : ownKnob Try.prog.godebug = none := by kernel_rfl
theorem laidOut : laidOutB Try.prog = true := by kernel_rfl
theorem cells_str : Try.prog.cellsOf 9 = 1 := by kernel_rfl
theorem bytes_str : Try.prog.bytesOf 9 = 16 := by kernel_rfl
theorem info_str : (Try.prog.info? 9).map (fun i => i.size) = some 1 := by kernel_rfl
theorem lifted (os : Os) (started : os.Started) (H : Type) (enc : TypeId × Value → H) :
    ReturnsInHanded {} Try.checked os 3 .any (Rows.atomsAloneSpec.pre6 enc Try.prog Try.f3 Rows.atomsAloneRow.domain false) (Rows.atomsAloneSpec.post enc Try.prog Try.f3 false true false false) := by
  refine returnsInHanded_of_change_sized (C := Try.checked) own started (by kernel_rfl) Try.func3
    (ChangeSpec.witness6 (enc := enc) (C := Try.checked) false ⟨#[], #[.int .i64 0, .int .i64 0, .slice none 0 0], []⟩ 8 (by kernel_rfl) (by kernel_rfl) (by kernel_rfl) (by kernel_rfl)) ?_
  intro W base args ds gs before hval0 hW _ hsz0 _
  have hsz : (DataW.weightsEach Try.prog (Try.f3.params.toList ++ Rows.atomsAloneSpec.plain.varTypes Try.prog) (ds ++ gs)).all (· ≤ reachBytes) = true := hsz0
  clear hsz0
  have hval : ∀ (j : Nat) t v, Try.f3.params[j]? = some t → args[j]? = some v → Value.okWide Try.prog W .any base t v := hval0
  have hW' := hW
  obtain ⟨p, q, hA0, hV, rfl, _, _⟩ := hW
  have hA : DataW.TrodAll enc Try.prog W 0 (fun _ => true) true Try.f3.params.toList args.toList ds p := hA0
  rw [Try.params3] at hA hval hsz
  obtain ⟨v0, vs0, d0, ds0, p0, q0, hargs, rfl, rfl, h0, r0⟩ := trodAll_cons hA
  obtain ⟨v1, vs1, d1, ds1, p1, q1, rfl, rfl, rfl, h1, r1⟩ := trodAll_cons r0
  obtain ⟨v2, vs2, d2, ds2, p2, q2, rfl, rfl, rfl, h2, r2⟩ := trodAll_cons r1
  obtain ⟨rfl, rfl, rfl⟩ := trodAll_nil r2
  obtain rfl : args = #[v0, v1, v2] := by cases args; simp_all
  obtain ⟨rfl, rfl⟩ := trodVars_none hV
  clear hA0 hval0 hargs
  simp only [List.append_nil] at hW'
  have hlt2 : ∀ x ∈ p2, x.block < W.heap.size := fun x hx => by simpa using hW'.lt x (by simp only [List.mem_append]; simp [hx])
  obtain ⟨n0, rfl, rfl, rfl, wn0⟩ := open_int Try.underlying3 (hval 0 3 v0 rfl rfl) h0
  obtain ⟨n1, rfl, rfl, rfl, wn1⟩ := open_int Try.underlying3 (hval 1 3 v1 rfl rfl) h1
  obtain ⟨i2, hi2, hs2⟩ : ∃ i, Try.prog.info? 9 = some i ∧ i.size = 1 := by
    have := info_str
    cases hx : Try.prog.info? 9 with
    | none => rw [hx] at this; cases this
    | some i => rw [hx] at this; exact ⟨i, rfl, Option.some.inj this⟩
  obtain ⟨n2, b2, off2, f2, hr2⟩ := view_strs Try.underlying22 Try.underlying9 cells_str hi2 hs2 bytes_str (hval 2 22 v2 rfl rfl) h2 hlt2 hsz (j := 2) rfl rfl
  refine (atomsAlone_walk W n0 (rng_of_wf wn0) n1 (rng_of_wf wn1) v2 n2 b2 off2 f2 hr2).mono fun e W' ⟨he, hb⟩ => ?_
  subst he
  have hb : Below W.heap.size W W' := hb
  exact ⟨_, rfl, _, _, _, [], [] ++ ([] ++ (p2 ++ [])), [], hW', trodAll_cons_mk (shut_bool Try.underlying4 true) trodAll_mk0, trodAll_cons_mk (shut_int Try.underlying3 wn0) (trodAll_cons_mk (shut_int Try.underlying3 wn1) (trodAll_cons_mk (Below.trod laidOut (by kernel_rfl) (of_decide_eq_true (by kernel_rfl)) h2 hb hlt2) trodAll_mk0)), rfl, hb.frame _, fun h => by cases h⟩
theorem holds : Rows.atomsAloneRow.holds Try.pinned (OpenSpec.ofChange Rows.atomsAloneSpec) :=
  OpenClaim.holds_of_wide 3 Try.f3 rfl rfl rfl rfl rfl rfl rfl ⟨rfl, rfl, rfl, rfl, rfl⟩ rfl rfl rfl rfl rfl (by kernel_rfl) Try.func3 (by kernel_rfl)
    (of_decide_eq_true (by kernel_rfl)) (by unfold Func.isWrapper; rw [if_neg (of_decide_eq_false (by kernel_rfl))]; exact ⟨rfl, rfl⟩)
    (fun os started H enc _ => lifted os started H enc)
end Go.Proofs.Ytkfinhakhhiabaa.liftAtomsAlone
namespace Go.Proofs.Ytkfinhakhhiabaa
theorem atomsAlone_holds : Rows.AtomsAloneSaid := liftAtomsAlone.holds
end Go.Proofs.Ytkfinhakhhiabaa
