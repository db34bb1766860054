/- CellsRoom: the statement itself: whatever the input, the call answers true and leaves it as it was. -/
import Derived.Test.YtemibcglhbjaoaaCellsRoom
import Derived.Test.YtemibcglhbjaoaaRows
import Derived.Test.YtemibcglhbjaoaaArgs
import Derived.ShutString
import Derived.OpenShut
import Derived.JoinedCond
import Derived.StringKeys
set_option maxRecDepth 100000
set_option linter.unusedVariables false
set_option linter.unusedSimpArgs false
namespace Go.Proofs.Ytemibcglhbjaoaa.liftCellsRoom
open Go.ChangeShapes Go.WideShapes Go.ChangeAt Go.RowKit Go.PM
theorem own : ownKnob Try.prog.godebug = none := by kernel_rfl
theorem laidOut : laidOutB Try.prog = true := by kernel_rfl
theorem cells_53 : Try.prog.cellsOf 53 = 5 := by kernel_rfl
theorem bytes_53 : Try.prog.bytesOf 53 = 40 := by kernel_rfl
theorem info_53 : (Try.prog.info? 53).map (fun i => i.size) = some 5 := by kernel_rfl
theorem fields_53 (fs : Array Field) (h : Try.prog.underlying 53 = some (.struct fs)) : ∀ (j : Nat) (f : Field), fs[j]? = some f → Try.prog.underlying f.type = some (.int .i64) := by
  rw [Try.underlying53] at h
  cases h
  intro j f hf
  rcases j with _ | _ | _ | _ | _ | j <;> simp at hf <;> subst hf <;> first | exact Try.underlying3 | exact Try.underlying2
theorem lifted (os : Os) (started : os.Started) (H : Type) (enc : TypeId × Value → H) :
    ReturnsInHanded {} Try.checked os 8 .any (Rows.cellsRoomSpec.pre6 enc Try.prog Try.f8 Rows.cellsRoomRow.domain false) (Rows.cellsRoomSpec.post enc Try.prog Try.f8 false true false false) := by
  refine returnsInHanded_of_change_sized (C := Try.checked) own started (by kernel_rfl) Try.func8
    (ChangeSpec.witness6 (enc := enc) (C := Try.checked) false ⟨#[], #[.int .i64 0, .slice none 0 0, .int .i64 0], []⟩ 8 (by kernel_rfl) (by kernel_rfl) (by kernel_rfl) (by kernel_rfl)) ?_
  intro W base args ds gs before hval0 hW _ hsz0 _
  have hsz : (DataW.weightsEach Try.prog (Try.f8.params.toList ++ Rows.cellsRoomSpec.plain.varTypes Try.prog) (ds ++ gs)).all (· ≤ reachBytes) = true := hsz0
  clear hsz0
  have hval : ∀ (j : Nat) t v, Try.f8.params[j]? = some t → args[j]? = some v → Value.okWide Try.prog W .any base t v := hval0
  have hW' := hW
  obtain ⟨p, q, hA0, hV, rfl, _, _⟩ := hW
  have hA : DataW.TrodAll enc Try.prog W 0 (fun _ => true) true Try.f8.params.toList args.toList ds p := hA0
  rw [Try.params8] at hA hval hsz
  obtain ⟨v0, vs0, d0, ds0, p0, q0, hargs, rfl, rfl, h0, r0⟩ := trodAll_cons hA
  obtain ⟨v1, vs1, d1, ds1, p1, q1, rfl, rfl, rfl, h1, r1⟩ := trodAll_cons r0
  obtain ⟨v2, vs2, d2, ds2, p2, q2, rfl, rfl, rfl, h2, r2⟩ := trodAll_cons r1
  obtain ⟨rfl, rfl, rfl⟩ := trodAll_nil r2
  obtain rfl : args = #[v0, v1, v2] := by cases args; simp_all
  obtain ⟨rfl, rfl⟩ := trodVars_none hV
  clear hA0 hval0 hargs
  simp only [List.append_nil] at hW'
  have hlt1 : ∀ x ∈ p1, x.block < W.heap.size := fun x hx => by simpa using hW'.lt x (by simp only [List.mem_append]; simp [hx])
  obtain ⟨n0, rfl, rfl, rfl, wn0⟩ := open_int Try.underlying3 (hval 0 3 v0 rfl rfl) h0
  obtain ⟨i1, hi1, hs1⟩ : ∃ i, Try.prog.info? 53 = some i ∧ i.size = 5 := by
    have := info_53
    cases hx : Try.prog.info? 53 with
    | none => rw [hx] at this; cases this
    | some i => rw [hx] at this; exact ⟨i, rfl, Option.some.inj this⟩
  obtain ⟨n1, b1, off1, f1, hr1⟩ := view_recs Try.underlying51 Try.underlying53 (by kernel_rfl) cells_53 (fields_53 _ Try.underlying53) (by decide) hi1 hs1 bytes_53 (hval 1 51 v1 rfl rfl) h1 hlt1 hsz (j := 1) rfl rfl
  obtain ⟨n2, rfl, rfl, rfl, wn2⟩ := open_int Try.underlying3 (hval 2 3 v2 rfl rfl) h2
  refine (cellsRoom_walk W n0 (rng_of_wf wn0) v1 n1 b1 off1 f1 hr1 n2 (rng_of_wf wn2)).mono fun e W' ⟨he, hb⟩ => ?_
  subst he
  have hb : Below W.heap.size W W' := hb
  exact ⟨_, rfl, _, _, _, [], [] ++ (p1 ++ ([] ++ [])), [], hW', trodAll_cons_mk (shut_bool Try.underlying4 true) trodAll_mk0, trodAll_cons_mk (shut_int Try.underlying3 wn0) (trodAll_cons_mk (Below.trod laidOut (by kernel_rfl) (of_decide_eq_true (by kernel_rfl)) h1 hb hlt1) (trodAll_cons_mk (shut_int Try.underlying3 wn2) trodAll_mk0)), rfl, hb.frame _, fun h => by cases h⟩
theorem holds : Rows.cellsRoomRow.holds Try.pinned (OpenSpec.ofChange Rows.cellsRoomSpec) :=
  OpenClaim.holds_of_wide 8 Try.f8 rfl rfl rfl rfl rfl rfl rfl ⟨rfl, rfl, rfl, rfl, rfl⟩ rfl rfl rfl rfl rfl (by kernel_rfl) Try.func8 (by kernel_rfl)
    (of_decide_eq_true (by kernel_rfl)) (by unfold Func.isWrapper; rw [if_neg (of_decide_eq_false (by kernel_rfl))]; exact ⟨rfl, rfl⟩)
    (fun os started H enc _ => lifted os started H enc)
end Go.Proofs.Ytemibcglhbjaoaa.liftCellsRoom
namespace Go.Proofs.Ytemibcglhbjaoaa
theorem cellsRoom_holds : Rows.CellsRoomSaid := liftCellsRoom.holds
end Go.Proofs.Ytemibcglhbjaoaa
