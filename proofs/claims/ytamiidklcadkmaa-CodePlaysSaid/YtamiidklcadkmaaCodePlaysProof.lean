/- CodePlays: the statement itself: whatever the input, the call answers true and leaves it as it was. -/
import Derived.Test.YtamiidklcadkmaaCodePlays
import Derived.Test.YtamiidklcadkmaaRows
import Derived.Test.YtamiidklcadkmaaArgs
import Derived.Test.YtamiidklcadkmaaClause
import Derived.ShutString
import Derived.OpenShut
import Derived.JoinedCond
import Derived.StringKeys
set_option maxRecDepth 100000
set_option linter.unusedVariables false
set_option linter.unusedSimpArgs false
namespace Go.Proofs.Ytamiidklcadkmaa.liftCodePlays
open Go.ChangeShapes Go.WideShapes Go.ChangeAt Go.RowKit Go.PM
theorem own : ownKnob Try.prog.godebug = none := by kernel_rfl
theorem laidOut : laidOutB Try.prog = true := by kernel_rfl
theorem clType : ∃ f0 f1, Try.prog.underlying 26 = some (.struct #[f0, f1]) ∧ Try.prog.cellsOf 26 = 8 ∧ f0.type = 24 ∧ f0.offset = 0 ∧ f1.type = 24 ∧ f1.offset = 4 :=
  ⟨_, _, Try.underlying26, by kernel_rfl, rfl, rfl, rfl, rfl⟩
theorem tmType : ∃ fs, TmType Try.prog 24 22 fs :=
  ⟨_, Try.underlying22, Try.underlying24, rfl, by kernel_rfl, by kernel_rfl, fun f h => by cases h; kernel_rfl, fun f h => by cases h; kernel_rfl, fun f h => by cases h; kernel_rfl, fun f h => by cases h; rfl⟩
theorem lifted (os : Os) (started : os.Started) (H : Type) (enc : TypeId × Value → H) :
    ReturnsInHanded {} Try.checked os 3 .any (Rows.codePlaysSpec.pre6 enc Try.prog Try.f3 Rows.codePlaysRow.domain false) (Rows.codePlaysSpec.post enc Try.prog Try.f3 false true false false) := by
  refine returnsInHanded_of_change_sized (C := Try.checked) own started (by kernel_rfl) Try.func3
    (ChangeSpec.witness6 (enc := enc) (C := Try.checked) false ⟨#[], #[.agg #[.int .i64 0, .string ByteArray.empty, .int .i64 0, .slice none 0 0, .int .i64 0, .string ByteArray.empty, .int .i64 0, .slice none 0 0], .agg #[.int .i64 0, .string ByteArray.empty, .int .i64 0, .slice none 0 0]], []⟩ 8 (by kernel_rfl) (by kernel_rfl) (by kernel_rfl) (by kernel_rfl)) ?_
  intro W base args ds gs before hval0 hW _ hsz0 _
  have hsz : (DataW.weightsEach Try.prog (Try.f3.params.toList ++ Rows.codePlaysSpec.plain.varTypes Try.prog) (ds ++ gs)).all (· ≤ reachBytes) = true := hsz0
  clear hsz0
  have hval : ∀ (j : Nat) t v, Try.f3.params[j]? = some t → args[j]? = some v → Value.okWide Try.prog W .any base t v := hval0
  have hW' := hW
  obtain ⟨p, q, hA0, hV, rfl, _, _⟩ := hW
  have hA : DataW.TrodAll enc Try.prog W 0 (fun _ => true) true Try.f3.params.toList args.toList ds p := hA0
  rw [Try.params3] at hA hval hsz
  obtain ⟨v0, vs0, d0, ds0, p0, q0, hargs, rfl, rfl, h0, r0⟩ := trodAll_cons hA
  obtain ⟨v1, vs1, d1, ds1, p1, q1, rfl, rfl, rfl, h1, r1⟩ := trodAll_cons r0
  obtain ⟨rfl, rfl, rfl⟩ := trodAll_nil r1
  obtain rfl : args = #[v0, v1] := by cases args; simp_all
  obtain ⟨rfl, rfl⟩ := trodVars_none hV
  clear hA0 hval0 hargs
  simp only [List.append_nil] at hW'
  have hlt0 : ∀ x ∈ p0, x.block < W.heap.size := fun x hx => by simpa using hW'.lt x (by simp only [List.mem_append]; simp [hx])
  have hlt1 : ∀ x ∈ p1, x.block < W.heap.size := fun x hx => by simpa using hW'.lt x (by simp only [List.mem_append]; simp [hx])
  obtain ⟨cf0, cg0, cu0, cc0, ca0, cb0, cd0, ce0⟩ := clType
  obtain ⟨th0, tb0, ka0, sa0, xa0, la0, kb0, sb0, xb0, lb0, rfl, hh0, hb0⟩ := view_clause (C := fun _ => True) tmType.choose_spec cu0 cc0 ca0 cb0 cd0 ce0 (fun _ _ => trivial) (hval 0 26 v0 rfl rfl) h0 hlt0
  obtain ⟨t1, hv1⟩ := view_term (C := fun _ => True) tmType.choose_spec (fun _ _ => trivial) (hval 1 24 v1 rfl rfl) h1 hlt1
  refine (codePlays_walk W th0 tb0 (fun _ => True) ka0 sa0 xa0 la0 kb0 sb0 xb0 lb0 hh0 hb0 t1 (fun _ => True) v1 hv1).mono fun e W' ⟨he, hb⟩ => ?_
  subst he
  have hb : Below W.heap.size W W' := hb
  exact ⟨_, rfl, _, _, _, [], p0 ++ (p1 ++ []), [], hW', trodAll_cons_mk (shut_bool Try.underlying4 true) trodAll_mk0, trodAll_cons_mk (Below.trod laidOut (by kernel_rfl) (of_decide_eq_true (by kernel_rfl)) h0 hb hlt0) (trodAll_cons_mk (Below.trod laidOut (by kernel_rfl) (of_decide_eq_true (by kernel_rfl)) h1 hb hlt1) trodAll_mk0), rfl, hb.frame _, fun h => by cases h⟩
theorem holds : Rows.codePlaysRow.holds Try.pinned (OpenSpec.ofChange Rows.codePlaysSpec) :=
  OpenClaim.holds_of_wide 3 Try.f3 rfl rfl rfl rfl rfl rfl rfl ⟨rfl, rfl, rfl, rfl, rfl⟩ rfl rfl rfl rfl rfl (by kernel_rfl) Try.func3 (by kernel_rfl)
    (of_decide_eq_true (by kernel_rfl)) (by unfold Func.isWrapper; rw [if_neg (of_decide_eq_false (by kernel_rfl))]; exact ⟨rfl, rfl⟩)
    (fun os started H enc _ => lifted os started H enc)
end Go.Proofs.Ytamiidklcadkmaa.liftCodePlays
namespace Go.Proofs.Ytamiidklcadkmaa
theorem codePlays_holds : Rows.CodePlaysSaid := liftCodePlays.holds
end Go.Proofs.Ytamiidklcadkmaa
