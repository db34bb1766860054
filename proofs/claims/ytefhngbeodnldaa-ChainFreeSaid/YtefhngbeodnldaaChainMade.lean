/- Layer 5's laws: a world is made. -/
import Derived.Test.YtefhngbeodnldaaChainEff
import Derived.Test.YtefhngbeodnldaaChainRef5
set_option maxRecDepth 20000
set_option linter.unusedVariables false
set_option linter.unusedSimpArgs false
namespace Go.Proofs.Ytefhngbeodnldaa
open Go.RowKit Go.PM
theorem mk_ops (w : World) : (Instr.makeSlice 31 (.int .i64 9) (.int .i64 9)).run Try.prog w = .ok (.slice (some ⟨w.heap.size, 0, none⟩) 9 9) (w.alloc (.cells (ptrs (fun _ => none) (fun _ => 0)).toArray 27)) := by kernel_rfl
theorem mk_what (w : World) : (Instr.makeSlice 32 (.int .i64 9) (.int .i64 9)).run Try.prog w = .ok (.slice (some ⟨w.heap.size, 0, none⟩) 9 9) (w.alloc (.cells (asks (fun _ => ⟨0, 0, 0, 0⟩)).toArray 57)) := by kernel_rfl
theorem mk_did (w : World) : (Instr.makeSlice 23 (.int .i64 9) (.int .i64 9)).run Try.prog w = .ok (.slice (some ⟨w.heap.size, 0, none⟩) 9 9) (w.alloc (.cells (dids (fun _ => false)).toArray 4)) := by kernel_rfl
theorem mk_want (w : World) : (Instr.makeSlice 35 (.int .i64 9) (.int .i64 9)).run Try.prog w = .ok (.slice (some ⟨w.heap.size, 0, none⟩) 9 9) (w.alloc (.cells (wants (fun _ => ⟨0, false, 0, []⟩) (fun _ => .slice none 0 0)).toArray 41)) := by kernel_rfl
def L0 (room bound : Int) (chains : Nat) : LV := ⟨(AV.fresh room).alloc chains, YV.fresh 8 bound, ⟨1, chains⟩, fun _ => none, fun _ => ⟨0, 0, 0, 0⟩, fun _ => false, List.replicate chains ([], 0), fun _ => ⟨0, false, 0, []⟩⟩
def PoR (n0 : Nat) (ob : Obj) (v : Value) (w : World) (_ : Unit) : Prop := ∃ g, v = .slice (some ⟨g, 0, none⟩) 9 9 ∧ n0 ≤ g ∧ w.heap[g]? = some ob
def PoM (n0 : Nat) (R : RB) (v : Value) (w : World) (_ : Unit) : Prop := ∃ g0 cur, n0 ≤ g0 ∧ w.heap[g0]? = some (.cells cur 48 (0, 0)) ∧ RBAt w (fun g => g = g0) v R
theorem heap_lt {w : World} {g : Nat} {o : Obj} (h : w.heap[g]? = some o) : g < w.heap.size := (Array.getElem?_eq_some_iff.1 h).1
theorem PoR.stable (n0 : Nat) (ob : Obj) (v : Value) (w : World) (g : Unit) (w' : World) (g' : Unit) (h : RNew w g w' g') (hp : PoR n0 ob v w g) : PoR n0 ob v w' g' := by
  obtain ⟨b, h1, h2, h3⟩ := hp
  have h : Below w.heap.size w w' := h
  exact ⟨b, h1, h2, by rw [h.block b (heap_lt h3)]; exact h3⟩
theorem PoM.stable (n0 : Nat) (R : RB) (v : Value) (w : World) (g : Unit) (w' : World) (g' : Unit) (h : RNew w g w' g') (hp : PoM n0 R v w g) : PoM n0 R v w' g' := by
  obtain ⟨b, cur, h1, h2, h3⟩ := hp
  have h : Below w.heap.size w w' := h
  exact ⟨b, cur, h1, by rw [h.block b (heap_lt h2)]; exact h2, h3.carry h.size (fun g hg hc => ⟨h.block g hg, hc⟩)⟩
def MadePostO (own0 : Nat → Nat) (q : Nat) (L : LV) (w : World) (e : Ending) (w' : World) : Prop :=
  ∃ P own', e = .returned (.pointer (some ⟨P.W, 0, none⟩)) ∧ Below w.heap.size w w' ∧ (∀ b, b < w.heap.size → own' b = own0 b) ∧ LAt q P L (fun _ => 0) w' own'
def MadePost (q : Nat) (L : LV) (w : World) (e : Ending) (w' : World) : Prop :=
  ∃ P own', e = .returned (.pointer (some ⟨P.W, 0, none⟩)) ∧ Below w.heap.size w w' ∧ (∀ b, b < w.heap.size → own' b = 0) ∧ LAt q P L (fun _ => 0) w' own'
set_option maxHeartbeats 4000000 in
theorem CoMadeO_any (w : World) (own0 : Nat → Nat) (q : Nat) (h0 : ∀ b, b < w.heap.size → own0 b ≤ q) (room bound : Int) (n : Nat) (hn1 : 1 ≤ n) (hn2 : n ≤ 64) (hr : (n : Int) ≤ room) :
    Calls Try.prog 7 #[.int .i64 room, .int .i64 bound, .int .i64 n] w (MadePostO own0 q (L0 room bound n) w) := by
  have hal : (AV.fresh room).allocErr n = 0 := by unfold AV.allocErr AV.fresh; simp; omega
  go_enter Try.func7, Try.ntmps7
  go_wp2_with fail
  refine (New_any room (q + 1) own0 w).mono ?_
  rintro e w1 ⟨rfl, hB1, hA1⟩
  have HB1 := Lib.hid hB1
  have HA1 := Lib.hid hA1
  clear hB1 hA1
  go_wp2_with fail
  refine (YNew_any 8 bound (w.heap.size + 1) (q + 2) (ow own0 w.heap.size (q + 1)) w1).mono ?_
  rintro e w2 ⟨rfl, hB2, ev, hY2⟩
  have HE2 := Lib.hid (Ext.of_below (M := fun _ => False) hB2 (ow own0 w.heap.size (q + 1)) (q + 2))
  have HA2 := Lib.hid (HA1.out.ext HE2.out (fun h => h))
  have HY2 := Lib.hid hY2
  have HE1 := Lib.hid (Ext.of_below (M := fun _ => False) HB1.out own0 (q + 1))
  clear hB2 hY2 HA1 HB1
  go_wp2_with fail
  refine (CoNew_any (y := w1.heap.size + 1) HA2.out (by show (0 : Int) < _; decide) n (by omega) (by omega) hal).mono ?_
  rintro e w3 ⟨b, own3, rfl, hbb, hE3, hA3, hB3⟩
  have HE3 := Lib.hid ((HE1.out.trans HE2.out).mono (M' := fun c => c = q + 1) (fun _ h => h.elim) |>.trans hE3)
  have HB3 := Lib.hid (HE3.out.below (fun b hb h => by have := h0 b hb; omega))
  have HA3 := Lib.hid hA3
  have HBA := Lib.hid hB3
  have HY3 := Lib.hid (HY2.out.ext hE3 (by omega))
  clear hE3 hA3 hB3 HE2 HA2 HY2 HE1
  go_wp2_with fail
  have hk3 := mk_ops
  have hk4 := mk_what
  have hk5 := mk_did
  have hk8 := mk_want
  have HX3 : Ext (fun _ => False) w3 w3.drew own3 own3 := Ext.refl.drew
  have HA3d := Lib.hid (HA3.out.ext HX3 (fun h => h))
  have HBAd := Lib.hid (BaseAt.ext HBA.out HX3 (fun h => h))
  have HY3d := Lib.hid (HY3.out.ext HX3 (fun h => h))
  have HB3d := Lib.hid HB3.out.drew
  have HCOL := Lib.hid HE3.out.col
  clear HX3 HA3 HBA HY3 HB3 HE3
  refine wp_region_plan5 [.early 0 [9, 10, 11], .early 1 [9, 10, 11], .early 2 [9, 10, 11], .early 6 [7, 9, 10, 11], .block [3, 4, 5, 7, 8], .early 9 [10, 11], .big 10, .early 11 []] 12 ((fun _ => True)) (by kernel_rfl) (by kernel_rfl) (fun _ _ _ d _ h => by cases d <;> exact h) (trivial) ?_
  generalize hwd : w3.drew = wd at *
  iterate 4
    apply plan5_early
    case hi => rfl
    case h =>
      intro w9 hf
      clear hf
      still_step
      exact wpStill_nil rfl
  refine plan5_new [(3, PoR wd.heap.size (.cells (ptrs (fun _ => none) (fun _ => 0)).toArray 27 (0, 0))), (4, PoR wd.heap.size (.cells (asks (fun _ => ⟨0, 0, 0, 0⟩)).toArray 57 (0, 0))), (5, PoR wd.heap.size (.cells (dids (fun _ => false)).toArray 4 (0, 0))), (7, PoM wd.heap.size (List.replicate n ([], 0))), (8, PoR wd.heap.size (.cells (wants (fun _ => ⟨0, false, 0, []⟩) (fun _ => .slice none 0 0)).toArray 41 (0, 0)))] rfl (fun _ _ => trivial) ⟨PoR.stable _ _, PoR.stable _ _, PoR.stable _ _, PoM.stable _ _, PoR.stable _ _, trivial⟩ ?_ ?_
  · refine obl_cons [] rfl (by kernel_rfl) (fun vs w9 _ hR hP => ?_) (obl_cons [] rfl (by kernel_rfl) (fun vs w9 _ hR hP => ?_) (obl_cons [] rfl (by kernel_rfl) (fun vs w9 _ hR hP => ?_) (obl_cons [] rfl (by kernel_rfl) (fun vs w9 _ hR hP => ?_) (obl_cons [] rfl (by kernel_rfl) (fun vs w9 _ hR hP => ?_) obl_nil))))
    · simp only [putD]
      go_wp2_with fail
      refine ⟨_, ?_, (), (Below.refl _ _).alloc (Nat.le_refl _) _, ⟨w9.heap.size, rfl, (show Below wd.heap.size wd w9 from hR).size, heap_alloc_new w9 _⟩⟩
      kernel_rfl
    · simp only [putD]
      go_wp2_with fail
      refine ⟨_, ?_, (), (Below.refl _ _).alloc (Nat.le_refl _) _, ⟨w9.heap.size, rfl, (show Below wd.heap.size wd w9 from hR).size, heap_alloc_new w9 _⟩⟩
      kernel_rfl
    · simp only [putD]
      go_wp2_with fail
      refine ⟨_, ?_, (), (Below.refl _ _).alloc (Nat.le_refl _) _, ⟨w9.heap.size, rfl, (show Below wd.heap.size wd w9 from hR).size, heap_alloc_new w9 _⟩⟩
      kernel_rfl
    · simp only [putD]
      go_wp2_with fail
      refine (RefNewS_any n hn1 hn2).mono ?_
      rintro e w10 ⟨v10, rfl, hB10, g10, cur10, k1, k2, k3⟩
      go_wp2_with fail
      refine ⟨_, ?_, (), hB10, g10, cur10, by have := (show Below wd.heap.size wd w9 from hR).size; omega, k2, k3⟩
      kernel_rfl
    · simp only [putD]
      go_wp2_with fail
      refine ⟨_, ?_, (), (Below.refl _ _).alloc (Nat.le_refl _) _, ⟨w9.heap.size, rfl, (show Below wd.heap.size wd w9 from hR).size, heap_alloc_new w9 _⟩⟩
      kernel_rfl
  intro vs w9 hB9 hP
  obtain ⟨⟨g3, e3, l3, k3⟩, ⟨g4, e4, l4, k4⟩, ⟨g5, e5, l5, k5⟩, ⟨g7, cur7, l7, k7, hm7⟩, ⟨g8, e8, l8, k8⟩, -⟩ := hP
  refine plan5_after [(3, 36), (4, 37), (5, 38), (7, 40), (8, 41)] [] (by kernel_rfl) ?_
  obtain ⟨ma, mc, e7⟩ := hm7.shape
  rw [List.length_replicate] at e7
  simp only [putD, e3, e4, e5, e7, e8]
  rw [e7] at hm7
  clear hk3 hk4 hk5 hk8
  iterate 1
    apply plan5_early
    case hi => rfl
    case h =>
      intro w9 hf
      clear hf
      still_step
      exact wpStill_nil rfl
  refine plan5_big rfl ?_
  go_wp2_with fail
  refine ⟨fun _ => trivial, ?_⟩
  iterate 1
    apply plan5_early
    case hi => rfl
    case h =>
      intro w9 hf
      clear hf
      still_step
      exact wpStill_nil rfl
  refine plan5_nil ?_
  have hB9 : Below wd.heap.size wd w9 := hB9
  have hBx : Below wd.heap.size wd (w9.alloc (.cells #[.pointer (some ⟨w.heap.size + 1, 0, none⟩), .pointer (some ⟨w1.heap.size + 1, 0, none⟩), .pointer (some ⟨b, 0, none⟩), .slice (some ⟨g3, 0, none⟩) 9 9, .slice (some ⟨g4, 0, none⟩) 9 9, .slice (some ⟨g5, 0, none⟩) 9 9, .slice ma n mc, .slice (some ⟨g8, 0, none⟩) 9 9] 37)) := hB9.alloc hB9.size _
  have hX : Ext (fun _ => False) wd (w9.alloc (.cells #[.pointer (some ⟨w.heap.size + 1, 0, none⟩), .pointer (some ⟨w1.heap.size + 1, 0, none⟩), .pointer (some ⟨b, 0, none⟩), .slice (some ⟨g3, 0, none⟩) 9 9, .slice (some ⟨g4, 0, none⟩) 9 9, .slice (some ⟨g5, 0, none⟩) 9 9, .slice ma n mc, .slice (some ⟨g8, 0, none⟩) 9 9] 37)) own3 (fun c => if c < wd.heap.size then own3 c else if c = g3 ∨ c = g4 ∨ c = g5 ∨ c = g8 then q + 5 else if c = w9.heap.size then q + 4 else q + 6) := ⟨hBx.os, hBx.tape, hBx.output, hBx.size, fun c hc => if_pos hc, fun c hc _ => hBx.block c hc⟩
  have ne : ∀ {g : Nat} {o : Obj}, w9.heap[g]? = some o → (∀ cur, o ≠ .cells cur 48 (0, 0)) → g7 ≠ g := fun {g o} hg ho e => by
    subst e
    rw [k7] at hg
    exact ho _ (Option.some.inj hg).symm
  have n3 := ne k3 (fun cur h => by injection h with _ h; cases h)
  have n4 := ne k4 (fun cur h => by injection h with _ h; cases h)
  have n5 := ne k5 (fun cur h => by injection h with _ h; cases h)
  have n8 := ne k8 (fun cur h => by injection h with _ h; cases h)
  have hlt7 := heap_lt k7
  have hs9 := hB9.size
  have HP := Lib.hid (show MadePostO own0 q (L0 room bound n) w (.returned (.pointer (some ⟨w9.heap.size, 0, none⟩))) (w9.alloc (.cells #[.pointer (some ⟨w.heap.size + 1, 0, none⟩), .pointer (some ⟨w1.heap.size + 1, 0, none⟩), .pointer (some ⟨b, 0, none⟩), .slice (some ⟨g3, 0, none⟩) 9 9, .slice (some ⟨g4, 0, none⟩) 9 9, .slice (some ⟨g5, 0, none⟩) 9 9, .slice ma n mc, .slice (some ⟨g8, 0, none⟩) 9 9] 37)) from by
    refine ⟨⟨w9.heap.size, w.heap.size + 1, w1.heap.size + 1, b, g3, g4, g5, g8⟩, _, rfl, HB3d.out.trans (hBx.mono HB3d.out.size), fun c hc => ?_, ⟨HA3d.out.ext hX (fun h => h), ⟨_, _, HY3d.out.ext hX (fun h => h)⟩, BaseAt.ext HBAd.out hX (fun h => h), ⟨_, Blk.new w9 _ ?_, hm7.carry ((Below.refl w9.heap.size w9).alloc (Nat.le_refl _) _).size (fun g hg hc => ⟨heap_alloc_old w9 _ hg, ?_⟩)⟩, ⟨by rw [heap_alloc_old w9 _ (heap_lt k3)]; exact k3, ?_⟩, ⟨by rw [heap_alloc_old w9 _ (heap_lt k4)]; exact k4, ?_⟩, ⟨by rw [heap_alloc_old w9 _ (heap_lt k5)]; exact k5, ?_⟩, ⟨fun _ => .slice none 0 0, ⟨by rw [heap_alloc_old w9 _ (heap_lt k8)]; exact k8, ?_⟩, fun t ht => ⟨by simp [L0], .inl ⟨rfl, rfl⟩⟩⟩, fun t O _ h => by cases h⟩⟩
    · have h1 := HB3d.out.size
      simp only [if_pos (show c < wd.heap.size by omega)]
      exact HCOL.out c hc
    · have q3 := heap_lt k3
      have q4 := heap_lt k4
      have q5 := heap_lt k5
      have q8 := heap_lt k8
      simp only [if_neg (show ¬ w9.heap.size < wd.heap.size by omega), if_neg (show ¬ (w9.heap.size = g3 ∨ w9.heap.size = g4 ∨ w9.heap.size = g5 ∨ w9.heap.size = g8) by omega), if_true]
    · subst hc
      simp only [if_neg (show ¬ g < wd.heap.size by omega), if_neg (show ¬ (g = g3 ∨ g = g4 ∨ g = g5 ∨ g = g8) by omega), if_neg (show ¬ g = w9.heap.size by omega)]
    · simp only [if_neg (show ¬ g3 < wd.heap.size by omega), true_or, if_true]
    · simp only [if_neg (show ¬ g4 < wd.heap.size by omega), true_or, or_true, if_true]
    · simp only [if_neg (show ¬ g5 < wd.heap.size by omega), true_or, or_true, if_true]
    · simp only [if_neg (show ¬ g8 < wd.heap.size by omega), true_or, or_true, if_true])
  clear hX hBx hB9 hm7 ne n3 n4 n5 n8 k3 k4 k5 k7 k8 l3 l4 l5 l7 l8
  go_wp2_with fail
  go_ret
  exact HP.out
theorem CoMade_any (w : World) (q : Nat) (room bound : Int) (n : Nat) (hn1 : 1 ≤ n) (hn2 : n ≤ 64) (hr : (n : Int) ≤ room) :
    Calls Try.prog 7 #[.int .i64 room, .int .i64 bound, .int .i64 n] w (MadePost q (L0 room bound n) w) :=
  CoMadeO_any w (fun _ => 0) q (fun _ _ => Nat.zero_le _) room bound n hn1 hn2 hr
end Go.Proofs.Ytefhngbeodnldaa
