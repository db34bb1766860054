/- CodeSound: the statement itself: whatever the input, the call answers true and leaves it as it was. -/
import Derived.Test.YtamiidklcadkmaaCodeSound
import Derived.Test.YtamiidklcadkmaaRows
import Derived.Test.YtamiidklcadkmaaArgs
import Derived.Test.YtamiidklcadkmaaClause
import Derived.ShutString
import Derived.OpenShut
import Derived.JoinedCond
import Derived.StringKeys
set_option maxRecDepth 100000
set_option linter.unusedVariables false
set_option linter.unusedSimpArgs false
namespace Go.Proofs.Ytamiidklcadkmaa.liftCodeSound
open Go.ChangeShapes Go.WideShapes Go.ChangeAt Go.RowKit Go.PM
theorem own : ownKnob Try.prog.godebug = none := by kernel_rfl
theorem laidOut : laidOutB Try.prog = true := by kernel_rfl
theorem clType : ∃ f0 f1, Try.prog.underlying 26 = some (.struct #[f0, f1]) ∧ Try.prog.cellsOf 26 = 8 ∧ f0.type = 24 ∧ f0.offset = 0 ∧ f1.type = 24 ∧ f1.offset = 4 :=
  ⟨_, _, Try.underlying26, by kernel_rfl, rfl, rfl, rfl, rfl⟩
theorem tmType : ∃ fs, TmType Try.prog 24 22 fs :=
  ⟨_, Try.underlying22, Try.underlying24, rfl, by kernel_rfl, by kernel_rfl, fun f h => by cases h; kernel_rfl, fun f h => by cases h; kernel_rfl, fun f h => by cases h; kernel_rfl, fun f h => by cases h; rfl⟩
theorem lifted (os : Os) (started : os.Started) (H : Type) (enc : TypeId × Value → H) :
    ReturnsInHanded {} Try.checked os 4 .any (Rows.codeSoundSpec.pre6 enc Try.prog Try.f4 Rows.codeSoundRow.domain false) (Rows.codeSoundSpec.post enc Try.prog Try.f4 false true false false) := by
  refine returnsInHanded_of_change_sized (C := Try.checked) own started (by kernel_rfl) Try.func4
    (ChangeSpec.witness6 (enc := enc) (C := Try.checked) false ⟨#[], #[.agg #[.int .i64 0, .string ByteArray.empty, .int .i64 0, .slice none 0 0, .int .i64 0, .string ByteArray.empty, .int .i64 0, .slice none 0 0], .int .i64 0, .int .i64 0, .int .i64 0], []⟩ 8 (by kernel_rfl) (by kernel_rfl) (by kernel_rfl) (by kernel_rfl)) ?_
  intro W base args ds gs before hval0 hW _ hsz0 _
  have hsz : (DataW.weightsEach Try.prog (Try.f4.params.toList ++ Rows.codeSoundSpec.plain.varTypes Try.prog) (ds ++ gs)).all (· ≤ reachBytes) = true := hsz0
  clear hsz0
  have hval : ∀ (j : Nat) t v, Try.f4.params[j]? = some t → args[j]? = some v → Value.okWide Try.prog W .any base t v := hval0
  have hW' := hW
  obtain ⟨p, q, hA0, hV, rfl, _, _⟩ := hW
  have hA : DataW.TrodAll enc Try.prog W 0 (fun _ => true) true Try.f4.params.toList args.toList ds p := hA0
  rw [Try.params4] at hA hval hsz
  obtain ⟨v0, vs0, d0, ds0, p0, q0, hargs, rfl, rfl, h0, r0⟩ := trodAll_cons hA
  obtain ⟨v1, vs1, d1, ds1, p1, q1, rfl, rfl, rfl, h1, r1⟩ := trodAll_cons r0
  obtain ⟨v2, vs2, d2, ds2, p2, q2, rfl, rfl, rfl, h2, r2⟩ := trodAll_cons r1
  obtain ⟨v3, vs3, d3, ds3, p3, q3, rfl, rfl, rfl, h3, r3⟩ := trodAll_cons r2
  obtain ⟨rfl, rfl, rfl⟩ := trodAll_nil r3
  obtain rfl : args = #[v0, v1, v2, v3] := by cases args; simp_all
  obtain ⟨rfl, rfl⟩ := trodVars_none hV
  clear hA0 hval0 hargs
  simp only [List.append_nil] at hW'
  have hlt0 : ∀ x ∈ p0, x.block < W.heap.size := fun x hx => by simpa using hW'.lt x (by simp only [List.mem_append]; simp [hx])
  obtain ⟨cf0, cg0, cu0, cc0, ca0, cb0, cd0, ce0⟩ := clType
  obtain ⟨th0, tb0, ka0, sa0, xa0, la0, kb0, sb0, xb0, lb0, rfl, hh0, hb0⟩ := view_clause (C := fun _ => True) tmType.choose_spec cu0 cc0 ca0 cb0 cd0 ce0 (fun _ _ => trivial) (hval 0 26 v0 rfl rfl) h0 hlt0
  obtain ⟨n1, rfl, rfl, rfl, wn1⟩ := open_int Try.underlying3 (hval 1 3 v1 rfl rfl) h1
  obtain ⟨n2, rfl, rfl, rfl, wn2⟩ := open_int Try.underlying3 (hval 2 3 v2 rfl rfl) h2
  obtain ⟨n3, rfl, rfl, rfl, wn3⟩ := open_int Try.underlying3 (hval 3 3 v3 rfl rfl) h3
  refine (codeSound_walk W th0 tb0 (fun _ => True) ka0 sa0 xa0 la0 kb0 sb0 xb0 lb0 hh0 hb0 n1 (rng_of_wf wn1) n2 (rng_of_wf wn2) n3 (rng_of_wf wn3)).mono fun e W' ⟨he, hb⟩ => ?_
  subst he
  have hb : Below W.heap.size W W' := hb
  exact ⟨_, rfl, _, _, _, [], p0 ++ ([] ++ ([] ++ ([] ++ []))), [], hW', trodAll_cons_mk (shut_bool Try.underlying4 true) trodAll_mk0, trodAll_cons_mk (Below.trod laidOut (by kernel_rfl) (of_decide_eq_true (by kernel_rfl)) h0 hb hlt0) (trodAll_cons_mk (shut_int Try.underlying3 wn1) (trodAll_cons_mk (shut_int Try.underlying3 wn2) (trodAll_cons_mk (shut_int Try.underlying3 wn3) trodAll_mk0))), rfl, hb.frame _, fun h => by cases h⟩
theorem holds : Rows.codeSoundRow.holds Try.pinned (OpenSpec.ofChange Rows.codeSoundSpec) :=
  OpenClaim.holds_of_wide 4 Try.f4 rfl rfl rfl rfl rfl rfl rfl ⟨rfl, rfl, rfl, rfl, rfl⟩ rfl rfl rfl rfl rfl (by kernel_rfl) Try.func4 (by kernel_rfl)
    (of_decide_eq_true (by kernel_rfl)) (by unfold Func.isWrapper; rw [if_neg (of_decide_eq_false (by kernel_rfl))]; exact ⟨rfl, rfl⟩)
    (fun os started H enc _ => lifted os started H enc)
end Go.Proofs.Ytamiidklcadkmaa.liftCodeSound
namespace Go.Proofs.Ytamiidklcadkmaa
theorem codeSound_holds : Rows.CodeSoundSaid := liftCodeSound.holds
end Go.Proofs.Ytamiidklcadkmaa
