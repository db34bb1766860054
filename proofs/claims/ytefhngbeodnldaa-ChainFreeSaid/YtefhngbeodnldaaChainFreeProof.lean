/- ChainFree: the statement itself: whatever the input, the call answers true and leaves it as it was. -/
import Derived.Test.YtefhngbeodnldaaChainFree
import Derived.Test.YtefhngbeodnldaaRows
import Derived.Test.YtefhngbeodnldaaArgs
import Derived.ShutString
import Derived.OpenShut
import Derived.JoinedCond
import Derived.StringKeys
set_option maxRecDepth 100000
set_option linter.unusedVariables false
set_option linter.unusedSimpArgs false
namespace Go.Proofs.Ytefhngbeodnldaa.liftChainFree
open Go.ChangeShapes Go.WideShapes Go.ChangeAt Go.RowKit Go.PM
theorem own : ownKnob Try.prog.godebug = none := by kernel_rfl
theorem laidOut : laidOutB Try.prog = true := by kernel_rfl
theorem cells_2 : Try.prog.cellsOf 2 = 1 := by kernel_rfl
theorem bytes_2 : Try.prog.bytesOf 2 = 8 := by kernel_rfl
theorem info_2 : (Try.prog.info? 2).map (fun i => i.size) = some 1 := by kernel_rfl
theorem cells_3 : Try.prog.cellsOf 3 = 1 := by kernel_rfl
theorem bytes_3 : Try.prog.bytesOf 3 = 8 := by kernel_rfl
theorem info_3 : (Try.prog.info? 3).map (fun i => i.size) = some 1 := by kernel_rfl
theorem cells_57 : Try.prog.cellsOf 57 = 4 := by kernel_rfl
theorem bytes_57 : Try.prog.bytesOf 57 = 32 := by kernel_rfl
theorem info_57 : (Try.prog.info? 57).map (fun i => i.size) = some 4 := by kernel_rfl
theorem fields_57 (fs : Array Field) (h : Try.prog.underlying 57 = some (.struct fs)) : ∀ (j : Nat) (f : Field), fs[j]? = some f → Try.prog.underlying f.type = some (.int .i64) := by
  rw [Try.underlying57] at h
  cases h
  intro j f hf
  rcases j with _ | _ | _ | _ | j <;> simp at hf <;> subst hf <;> first | exact Try.underlying3 | exact Try.underlying2
theorem lifted (os : Os) (started : os.Started) (H : Type) (enc : TypeId × Value → H) :
    ReturnsInHanded {} Try.checked os 4 .any (Rows.chainFreeSpec.pre6 enc Try.prog Try.f4 Rows.chainFreeRow.domain false) (Rows.chainFreeSpec.post enc Try.prog Try.f4 false true false false) := by
  refine returnsInHanded_of_change_sized (C := Try.checked) own started (by kernel_rfl) Try.func4
    (ChangeSpec.witness6 (enc := enc) (C := Try.checked) false ⟨#[], #[.slice none 0 0, .slice none 0 0, .slice none 0 0], []⟩ 8 (by kernel_rfl) (by kernel_rfl) (by kernel_rfl) (by kernel_rfl)) ?_
  intro W base args ds gs before hval0 hW _ hsz0 _
  have hsz : (DataW.weightsEach Try.prog (Try.f4.params.toList ++ Rows.chainFreeSpec.plain.varTypes Try.prog) (ds ++ gs)).all (· ≤ reachBytes) = true := hsz0
  clear hsz0
  have hval : ∀ (j : Nat) t v, Try.f4.params[j]? = some t → args[j]? = some v → Value.okWide Try.prog W .any base t v := hval0
  have hW' := hW
  obtain ⟨p, q, hA0, hV, rfl, _, _⟩ := hW
  have hA : DataW.TrodAll enc Try.prog W 0 (fun _ => true) true Try.f4.params.toList args.toList ds p := hA0
  rw [Try.params4] at hA hval hsz
  obtain ⟨v0, vs0, d0, ds0, p0, q0, hargs, rfl, rfl, h0, r0⟩ := trodAll_cons hA
  obtain ⟨v1, vs1, d1, ds1, p1, q1, rfl, rfl, rfl, h1, r1⟩ := trodAll_cons r0
  obtain ⟨v2, vs2, d2, ds2, p2, q2, rfl, rfl, rfl, h2, r2⟩ := trodAll_cons r1
  obtain ⟨rfl, rfl, rfl⟩ := trodAll_nil r2
  obtain rfl : args = #[v0, v1, v2] := by cases args; simp_all
  obtain ⟨rfl, rfl⟩ := trodVars_none hV
  clear hA0 hval0 hargs
  simp only [List.append_nil] at hW'
  have hlt0 : ∀ x ∈ p0, x.block < W.heap.size := fun x hx => by simpa using hW'.lt x (by simp only [List.mem_append]; simp [hx])
  have hlt1 : ∀ x ∈ p1, x.block < W.heap.size := fun x hx => by simpa using hW'.lt x (by simp only [List.mem_append]; simp [hx])
  have hlt2 : ∀ x ∈ p2, x.block < W.heap.size := fun x hx => by simpa using hW'.lt x (by simp only [List.mem_append]; simp [hx])
  obtain ⟨i0, hi0, hs0⟩ : ∃ i, Try.prog.info? 2 = some i ∧ i.size = 1 := by
    have := info_2
    cases hx : Try.prog.info? 2 with
    | none => rw [hx] at this; cases this
    | some i => rw [hx] at this; exact ⟨i, rfl, Option.some.inj this⟩
  obtain ⟨n0, b0, off0, f0, hr0⟩ := view_ints Try.underlying22 Try.underlying2 cells_2 hi0 hs0 bytes_2 (hval 0 22 v0 rfl rfl) h0 hlt0 hsz (j := 0) rfl rfl
  obtain ⟨i1, hi1, hs1⟩ : ∃ i, Try.prog.info? 57 = some i ∧ i.size = 4 := by
    have := info_57
    cases hx : Try.prog.info? 57 with
    | none => rw [hx] at this; cases this
    | some i => rw [hx] at this; exact ⟨i, rfl, Option.some.inj this⟩
  obtain ⟨n1, b1, off1, f1, hr1⟩ := view_recs Try.underlying32 Try.underlying57 (by kernel_rfl) cells_57 (fields_57 _ Try.underlying57) (by decide) hi1 hs1 bytes_57 (hval 1 32 v1 rfl rfl) h1 hlt1 hsz (j := 1) rfl rfl
  obtain ⟨i2, hi2, hs2⟩ : ∃ i, Try.prog.info? 3 = some i ∧ i.size = 1 := by
    have := info_3
    cases hx : Try.prog.info? 3 with
    | none => rw [hx] at this; cases this
    | some i => rw [hx] at this; exact ⟨i, rfl, Option.some.inj this⟩
  obtain ⟨n2, b2, off2, f2, hr2⟩ := view_ints Try.underlying54 Try.underlying3 cells_3 hi2 hs2 bytes_3 (hval 2 54 v2 rfl rfl) h2 hlt2 hsz (j := 2) rfl rfl
  refine (chainFree_walk W v0 n0 b0 off0 f0 hr0 v1 n1 b1 off1 f1 hr1 v2 n2 b2 off2 f2 hr2).mono fun e W' ⟨he, hb⟩ => ?_
  subst he
  have hb : Below W.heap.size W W' := hb
  exact ⟨_, rfl, _, _, _, [], p0 ++ (p1 ++ (p2 ++ [])), [], hW', trodAll_cons_mk (shut_bool Try.underlying4 true) trodAll_mk0, trodAll_cons_mk (Below.trod laidOut (by kernel_rfl) (of_decide_eq_true (by kernel_rfl)) h0 hb hlt0) (trodAll_cons_mk (Below.trod laidOut (by kernel_rfl) (of_decide_eq_true (by kernel_rfl)) h1 hb hlt1) (trodAll_cons_mk (Below.trod laidOut (by kernel_rfl) (of_decide_eq_true (by kernel_rfl)) h2 hb hlt2) trodAll_mk0)), rfl, hb.frame _, fun h => by cases h⟩
theorem holds : Rows.chainFreeRow.holds Try.pinned (OpenSpec.ofChange Rows.chainFreeSpec) :=
  OpenClaim.holds_of_wide 4 Try.f4 rfl rfl rfl rfl rfl rfl rfl ⟨rfl, rfl, rfl, rfl, rfl⟩ rfl rfl rfl rfl rfl (by kernel_rfl) Try.func4 (by kernel_rfl)
    (of_decide_eq_true (by kernel_rfl)) (by unfold Func.isWrapper; rw [if_neg (of_decide_eq_false (by kernel_rfl))]; exact ⟨rfl, rfl⟩)
    (fun os started H enc _ => lifted os started H enc)
end Go.Proofs.Ytefhngbeodnldaa.liftChainFree
namespace Go.Proofs.Ytefhngbeodnldaa
theorem chainFree_holds : Rows.ChainFreeSaid := liftChainFree.holds
end Go.Proofs.Ytefhngbeodnldaa
