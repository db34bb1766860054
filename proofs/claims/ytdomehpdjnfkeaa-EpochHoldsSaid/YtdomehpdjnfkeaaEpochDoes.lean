/- Layer 4: one call against the document (does), over empty answers of the document: what it does to the yard and the arena. -/
import Derived.Test.YtdomehpdjnfkeaaEpochRetire
import Derived.Test.YtdomehpdjnfkeaaCellsRef
set_option maxRecDepth 20000
set_option linter.unusedVariables false
set_option linter.unusedSimpArgs false
namespace Go.PM
open Go.RowKit
section
variable {P : Program}
/-- Results: two structs' variables, and one slot. -/
theorem results_cct {fn : Func} {p q u : Tmp} {ty ty2 : TypeId} (h : fn.results = #[.cell p ty, .cell q ty2, .tmp u]) (tmps : Array Value) (w : World) (g g2 : Nat) (t t2 : TypeId) (cs cs2 : Array Value) (fr fr2 : Nat × Nat) (d d2 : TypeDesc)
    (hp : tmps.getD p undef = .pointer (some ⟨g, 0, none⟩)) (hg : w.heap[g]? = some (.cells cs t fr))
    (hu : P.underlying ty = some d) (hd : (match d with | .struct _ | .array _ _ => true | _ => false) = true) (hi : (P.info? ty).map (·.size) = some cs.size)
    (hq : tmps.getD q undef = .pointer (some ⟨g2, 0, none⟩)) (hg2 : w.heap[g2]? = some (.cells cs2 t2 fr2))
    (hu2 : P.underlying ty2 = some d2) (hd2 : (match d2 with | .struct _ | .array _ _ => true | _ => false) = true) (hi2 : (P.info? ty2).map (·.size) = some cs2.size) :
    (results fn tmps).run P w = .ok (.tuple #[.agg cs, .agg cs2, tmps.getD u undef]) w := by
  have hp' : tmps[p]?.getD undef = .pointer (some ⟨g, 0, none⟩) := by simpa using hp
  have hq' : tmps[q]?.getD undef = .pointer (some ⟨g2, 0, none⟩) := by simpa using hq
  simp [results, h, hp', hq', asAddr, run_loadVar_row w g t ty cs fr d hg hu hd hi, run_loadVar_row w g2 t2 ty2 cs2 fr2 d2 hg2 hu2 hd2 hi2]
end
end Go.PM
namespace Go.Proofs.Ytdomehpdjnfkeaa
open Go.RowKit Go.PM
/-- The document's empty yard and empty arena. -/
def yd0 : Value := .agg #[.int .i64 0, .int .i64 0, .slice none 0 0, .slice none 0 0]
def ad0 : Value := .agg #[.slice none 0 0, .int .i64 0, .int .i64 0]
theorem rBad_any (w : World) (t : Int) : Calls Try.prog 40 #[yd0, .int .i64 t] w fun e w' => e = .returned (.bool true) ∧ Below w.heap.size w w' := by
  unfold yd0
  go_enter Try.func40, Try.ntmps40
  by_cases h1 : t < 1
  · go_wp2_with fail
    go_ret
    exact ⟨rfl, (Below.refl _ _).alloc (Nat.le_refl _) _⟩
  · have h2 : 0 < t := by omega
    go_wp2_with fail
    go_ret
    exact ⟨rfl, (Below.refl _ _).alloc (Nat.le_refl _) _⟩
/-- A call's own struct variables: what came in, what is handed back. -/
theorem two_new (w : World) (o1 o2 : Obj) : Ext (fun c => c ≠ 0) w ((w.alloc o1).alloc o2) (fun _ => 0) (ow (fun _ => 0) w.heap.size 1) ∧ Blk ((w.alloc o1).alloc o2) (ow (fun _ => 0) w.heap.size 1) 1 w.heap.size o1 ∧ Blk ((w.alloc o1).alloc o2) (ow (fun _ => 0) w.heap.size 1) 1 (w.heap.size + 1) o2 := by
  refine ⟨((Ext.refl.ow _).alloc _).alloc _, (Blk.new w o1 (ow_ge (by omega))).alloc _, ?_⟩
  have := Blk.new (own := ow (fun _ => 0) w.heap.size 1) (k := 1) (w.alloc o1) o2 (by rw [World.size_alloc]; exact ow_ge (by omega))
  rwa [World.size_alloc] at this
theorem two_end {w w1 : World} {own1 : Nat → Nat} {b : Nat} {cs vs : List Value} {T : TypeId} (h : Ext (fun c => c ≠ 0) w w1 (fun _ => 0) own1) (hn : w.heap.size ≤ b) (hb : Blk w1 own1 1 b (.cells cs.toArray T (0, 0))) (hl : cs.length = vs.length) :
    Below w.heap.size w (putCells w1 b 0 vs) ∧ (putCells w1 b 0 vs).heap[b]? = some (.cells vs.toArray T (0, 0)) :=
  ⟨(Ext.putCells (fun h2 => absurd h2 (by omega)) vs _ _ h).below (by simp), (hb.putCells hl).at_⟩
theorem four_y {w : World} {own : Nat → Nat} {k b : Nat} {T : TypeId} {x0 x1 x2 x3 : Value} (h : Blk w own k b (.cells #[x0, x1, x2, x3] T (0, 0))) :
    w.cell? ⟨b, 0, none⟩ = some x0 ∧ w.cell? ⟨b, 1, none⟩ = some x1 ∧ w.cell? ⟨b, 2, none⟩ = some x2 ∧ w.cell? ⟨b, 3, none⟩ = some x3 := ⟨h.cell 0, h.cell 1, h.cell 2, h.cell 3⟩
theorem four_f {w : World} {own : Nat → Nat} {k b : Nat} {T : TypeId} {x0 x1 x2 x3 : Value} (h : Blk w own k b (.cells #[x0, x1, x2, x3] T (0, 0))) :
    w.frozen? ⟨b, 0, none⟩ = false ∧ w.frozen? ⟨b, 1, none⟩ = false ∧ w.frozen? ⟨b, 2, none⟩ = false ∧ w.frozen? ⟨b, 3, none⟩ = false := ⟨h.free 0, h.free 1, h.free 2, h.free 3⟩
theorem three_y {w : World} {own : Nat → Nat} {k b : Nat} {T : TypeId} {x0 x1 x2 : Value} (h : Blk w own k b (.cells #[x0, x1, x2] T (0, 0))) :
    w.cell? ⟨b, 0, none⟩ = some x0 ∧ w.cell? ⟨b, 1, none⟩ = some x1 ∧ w.cell? ⟨b, 2, none⟩ = some x2 := ⟨h.cell 0, h.cell 1, h.cell 2⟩
theorem three_f {w : World} {own : Nat → Nat} {k b : Nat} {T : TypeId} {x0 x1 x2 : Value} (h : Blk w own k b (.cells #[x0, x1, x2] T (0, 0))) :
    w.frozen? ⟨b, 0, none⟩ = false ∧ w.frozen? ⟨b, 1, none⟩ = false ∧ w.frozen? ⟨b, 2, none⟩ = false := ⟨h.free 0, h.free 1, h.free 2⟩
set_option maxHeartbeats 1000000 in
theorem rEnter_none (w : World) (t : Int) : Calls Try.prog 25 #[yd0, .int .i64 t] w fun e w' => e = .returned (.tuple #[yd0, .int .i64 1]) ∧ Below w.heap.size w w' := by
  obtain ⟨hE0, hb1, hb2⟩ := two_new w (.cells #[.int .i64 0, .int .i64 0, .slice none 0 0, .slice none 0 0] 36 (0, 0)) (.cells #[.int .i64 0, .int .i64 0, .slice none 0 0, .slice none 0 0] 36 (0, 0))
  have HBAD := Lib.hid (fun w => rBad_any w t)
  unfold yd0 at *
  go_enter Try.func25, Try.ntmps25
  generalize hown : ow (fun _ => 0) w.heap.size 1 = own1 at *
  clear hown
  go_wp2_with fail
  generalize (w.alloc (.cells #[.int .i64 0, .int .i64 0, .slice none 0 0, .slice none 0 0] 36)).alloc (.cells #[.int .i64 0, .int .i64 0, .slice none 0 0, .slice none 0 0] 36) = wa at *
  refine (HBAD.out _).mono ?_
  rintro e w1 ⟨rfl, hB⟩
  have hX : ∀ M, Ext M wa w1 own1 (ow own1 wa.heap.size 1) := fun M => Ext.of_below hB _ _
  have hb1 := hb1.ext (hX (fun _ => False)) (by simp)
  have hb2 := hb2.ext (hX (fun _ => False)) (by simp)
  have hEND := two_end (vs := [.int .i64 0, .int .i64 0, .slice none 0 0, .slice none 0 0]) (hE0.trans (hX _)) (by omega) hb2 rfl
  simp only [putCells, Nat.reduceAdd] at hEND
  have HEND := Lib.hid hEND
  obtain ⟨c0, c1, c2, c3⟩ := four_y hb1
  obtain ⟨f0, f1, f2, f3⟩ := four_f hb2
  obtain ⟨e0, e1, e2, e3⟩ := four_y hb2
  clear hEND hB hX hb1 hb2 hE0
  go_wp2_with fail
  ((try simp only [Exit.inBlock, Exit.then]); refine bodyPost_ret (results_ct rfl _ _ ((w.heap.size + 1)) 36 _ _ _ rfl (HEND.out.2) Try.underlying36 rfl (by kernel_rfl)) rfl ?_)
  exact ⟨rfl, HEND.out.1⟩
set_option maxHeartbeats 1000000 in
theorem rLeave_none (w : World) (t : Int) : Calls Try.prog 26 #[yd0, .int .i64 t] w fun e w' => e = .returned (.tuple #[yd0, .int .i64 1]) ∧ Below w.heap.size w w' := by
  obtain ⟨hE0, hb1, hb2⟩ := two_new w (.cells #[.int .i64 0, .int .i64 0, .slice none 0 0, .slice none 0 0] 36 (0, 0)) (.cells #[.int .i64 0, .int .i64 0, .slice none 0 0, .slice none 0 0] 36 (0, 0))
  have HBAD := Lib.hid (fun w => rBad_any w t)
  unfold yd0 at *
  go_enter Try.func26, Try.ntmps26
  generalize hown : ow (fun _ => 0) w.heap.size 1 = own1 at *
  clear hown
  go_wp2_with fail
  generalize (w.alloc (.cells #[.int .i64 0, .int .i64 0, .slice none 0 0, .slice none 0 0] 36)).alloc (.cells #[.int .i64 0, .int .i64 0, .slice none 0 0, .slice none 0 0] 36) = wa at *
  refine (HBAD.out _).mono ?_
  rintro e w1 ⟨rfl, hB⟩
  have hX : ∀ M, Ext M wa w1 own1 (ow own1 wa.heap.size 1) := fun M => Ext.of_below hB _ _
  have hb1 := hb1.ext (hX (fun _ => False)) (by simp)
  have hb2 := hb2.ext (hX (fun _ => False)) (by simp)
  have hEND := two_end (vs := [.int .i64 0, .int .i64 0, .slice none 0 0, .slice none 0 0]) (hE0.trans (hX _)) (by omega) hb2 rfl
  simp only [putCells, Nat.reduceAdd] at hEND
  have HEND := Lib.hid hEND
  obtain ⟨c0, c1, c2, c3⟩ := four_y hb1
  obtain ⟨f0, f1, f2, f3⟩ := four_f hb2
  obtain ⟨e0, e1, e2, e3⟩ := four_y hb2
  clear hEND hB hX hb1 hb2 hE0
  go_wp2_with fail
  ((try simp only [Exit.inBlock, Exit.then]); refine bodyPost_ret (results_ct rfl _ _ ((w.heap.size + 1)) 36 _ _ _ rfl (HEND.out.2) Try.underlying36 rfl (by kernel_rfl)) rfl ?_)
  exact ⟨rfl, HEND.out.1⟩
theorem four_new (w : World) (o1 o2 o3 o4 : Obj) : Ext (fun c => c ≠ 0) w ((((w.alloc o1).alloc o2).alloc o3).alloc o4) (fun _ => 0) (ow (fun _ => 0) w.heap.size 1) ∧ Blk ((((w.alloc o1).alloc o2).alloc o3).alloc o4) (ow (fun _ => 0) w.heap.size 1) 1 w.heap.size o1 ∧
    Blk ((((w.alloc o1).alloc o2).alloc o3).alloc o4) (ow (fun _ => 0) w.heap.size 1) 1 (w.heap.size + 1) o2 ∧ Blk ((((w.alloc o1).alloc o2).alloc o3).alloc o4) (ow (fun _ => 0) w.heap.size 1) 1 (w.heap.size + 1 + 1) o3 ∧ Blk ((((w.alloc o1).alloc o2).alloc o3).alloc o4) (ow (fun _ => 0) w.heap.size 1) 1 (w.heap.size + 1 + 1 + 1) o4 := by
  have n (w2 : World) (o : Obj) (h : w.heap.size ≤ w2.heap.size) : Blk (w2.alloc o) (ow (fun _ => 0) w.heap.size 1) 1 w2.heap.size o := Blk.new w2 o (ow_ge h)
  refine ⟨((((Ext.refl.ow _).alloc _).alloc _).alloc _).alloc _, (((n w o1 (by omega)).alloc _).alloc _).alloc _, ?_, ?_, ?_⟩
  · have := ((n (w.alloc o1) o2 (by simp)).alloc o3).alloc o4
    simpa only [World.size_alloc] using this
  · have := (n ((w.alloc o1).alloc o2) o3 (by rw [World.size_alloc, World.size_alloc]; omega)).alloc o4
    simpa only [World.size_alloc] using this
  · have := n (((w.alloc o1).alloc o2).alloc o3) o4 (by rw [World.size_alloc, World.size_alloc, World.size_alloc]; omega)
    simpa only [World.size_alloc] using this
/-- Two struct variables are set, and handed back. -/
theorem two_set {w w1 : World} {own1 : Nat → Nat} {b c : Nat} {cs vs ds us : List Value} {T S : TypeId} (h : Ext (fun c => c ≠ 0) w w1 (fun _ => 0) own1) (hn : w.heap.size ≤ b) (hm : w.heap.size ≤ c) (hbc : b ≠ c)
    (hb : Blk w1 own1 1 b (.cells cs.toArray T (0, 0))) (hl : cs.length = vs.length) (hc : Blk w1 own1 1 c (.cells ds.toArray S (0, 0))) (hk : ds.length = us.length) :
    Below w.heap.size w (putCells (putCells w1 b 0 vs) c 0 us) ∧ (putCells (putCells w1 b 0 vs) c 0 us).heap[b]? = some (.cells vs.toArray T (0, 0)) ∧ (putCells (putCells w1 b 0 vs) c 0 us).heap[c]? = some (.cells us.toArray S (0, 0)) := by
  have h1 : Ext (fun c => c ≠ 0) w (putCells w1 b 0 vs) (fun _ => 0) own1 := Ext.putCells (fun h2 => absurd h2 (by omega)) vs w1 0 h
  have h2 : Ext (fun c => c ≠ 0) w (putCells (putCells w1 b 0 vs) c 0 us) (fun _ => 0) own1 := Ext.putCells (fun h2 => absurd h2 (by omega)) us _ 0 h1
  refine ⟨h2.below (by simp), ?_, ?_⟩
  · exact (Blk.putCells_other hbc us _ 0 (hb.putCells hl)).at_
  · exact ((Blk.putCells_other (Ne.symm hbc) vs w1 0 hc).putCells hk).at_
theorem two_set_drew {w w1 : World} {own1 : Nat → Nat} {b c : Nat} {cs vs ds us : List Value} {T S : TypeId} (h : Ext (fun c => c ≠ 0) w w1 (fun _ => 0) own1) (hn : w.heap.size ≤ b) (hm : w.heap.size ≤ c) (hbc : b ≠ c)
    (hb : Blk w1 own1 1 b (.cells cs.toArray T (0, 0))) (hl : cs.length = vs.length) (hc : Blk w1 own1 1 c (.cells ds.toArray S (0, 0))) (hk : ds.length = us.length) :
    Below w.heap.size w (putCells (putCells w1 b 0 vs) c 0 us).drew ∧ (putCells (putCells w1 b 0 vs) c 0 us).drew.heap[b]? = some (.cells vs.toArray T (0, 0)) ∧ (putCells (putCells w1 b 0 vs) c 0 us).drew.heap[c]? = some (.cells us.toArray S (0, 0)) := by
  obtain ⟨h1, h2, h3⟩ := two_set h hn hm hbc hb hl hc hk
  exact ⟨h1.drew, h2, h3⟩
set_option maxHeartbeats 2000000 in
theorem rRetire_none (w : World) (t b : Int) : Calls Try.prog 27 #[yd0, ad0, .int .i64 t, .int .i64 b] w fun e w' => e = .returned (.tuple #[yd0, ad0, .int .i64 1]) ∧ Below w.heap.size w w' := by
  obtain ⟨hE0, hb1, hb2, hb3, hb4⟩ := four_new w (.cells #[.int .i64 0, .int .i64 0, .slice none 0 0, .slice none 0 0] 36 (0, 0)) (.cells #[.slice none 0 0, .int .i64 0, .int .i64 0] 39 (0, 0))
    (.cells #[.int .i64 0, .int .i64 0, .slice none 0 0, .slice none 0 0] 36 (0, 0)) (.cells #[.slice none 0 0, .int .i64 0, .int .i64 0] 39 (0, 0))
  have HBAD := Lib.hid (fun w => rBad_any w t)
  unfold yd0 ad0 at *
  go_enter Try.func27, Try.ntmps27
  generalize hown : ow (fun _ => 0) w.heap.size 1 = own1 at *
  clear hown
  go_wp2_with fail
  generalize (((w.alloc (.cells #[.int .i64 0, .int .i64 0, .slice none 0 0, .slice none 0 0] 36)).alloc (.cells #[.slice none 0 0, .int .i64 0, .int .i64 0] 39)).alloc (.cells #[.int .i64 0, .int .i64 0, .slice none 0 0, .slice none 0 0] 36)).alloc (.cells #[.slice none 0 0, .int .i64 0, .int .i64 0] 39) = wa at *
  refine (HBAD.out _).mono ?_
  rintro e w1 ⟨rfl, hB⟩
  have hX : ∀ M, Ext M wa w1 own1 (ow own1 wa.heap.size 1) := fun M => Ext.of_below hB _ _
  have hb1 := hb1.ext (hX (fun _ => False)) (by simp)
  have hb2 := hb2.ext (hX (fun _ => False)) (by simp)
  have hb3 := hb3.ext (hX (fun _ => False)) (by simp)
  have hb4 := hb4.ext (hX (fun _ => False)) (by simp)
  obtain ⟨c0, c1, c2, c3⟩ := four_y hb1
  obtain ⟨d0, d1, d2⟩ := three_y hb2
  obtain ⟨f0, f1, f2, f3⟩ := four_f hb3
  obtain ⟨g0, g1, g2⟩ := three_f hb4
  obtain ⟨e0, e1, e2, e3⟩ := four_y hb3
  obtain ⟨j0, j1, j2⟩ := three_y hb4
  have hEND := two_set_drew (vs := [.int .i64 0, .int .i64 0, .slice none 0 0, .slice none 0 0]) (us := [.slice none 0 0, .int .i64 0, .int .i64 0]) (hE0.trans (hX _)) (by omega) (by omega) (by omega) hb3 rfl hb4 rfl
  simp only [putCells, Nat.reduceAdd] at hEND
  have HEND := Lib.hid hEND
  clear hEND hB hX hb1 hb2 hb3 hb4 hE0
  go_wp2_with fail
  go_region
  go_wp2_with fail
  ((try simp only [Exit.inBlock, Exit.then]); refine bodyPost_ret (results_cct rfl _ _ ((w.heap.size + 1 + 1)) ((w.heap.size + 1 + 1 + 1)) 36 39 _ _ _ _ _ _ rfl (HEND.out.2.1) Try.underlying36 rfl (by kernel_rfl) rfl (HEND.out.2.2) Try.underlying39 rfl (by kernel_rfl)) rfl ?_)
  exact ⟨rfl, HEND.out.1⟩
set_option maxHeartbeats 2000000 in
theorem rSweep_none (w : World) : Calls Try.prog 28 #[yd0, ad0] w fun e w' => (∃ q, e = .returned (.tuple #[.agg #[.int .i64 0, .int .i64 0, .slice none 0 0, .slice (some ⟨q, 0, none⟩) 0 0], ad0, .int .i64 0])) ∧ Below w.heap.size w w' := by
  obtain ⟨hE0, hb1, hb2, hb3, hb4⟩ := four_new w (.cells #[.int .i64 0, .int .i64 0, .slice none 0 0, .slice none 0 0] 36 (0, 0)) (.cells #[.slice none 0 0, .int .i64 0, .int .i64 0] 39 (0, 0))
    (.cells #[.int .i64 0, .int .i64 0, .slice none 0 0, .slice none 0 0] 36 (0, 0)) (.cells #[.slice none 0 0, .int .i64 0, .int .i64 0] 39 (0, 0))
  unfold yd0 ad0 at *
  go_enter Try.func28, Try.ntmps28
  generalize hown : ow (fun _ => 0) w.heap.size 1 = own1 at *
  clear hown
  go_wp2_with fail
  have hX : ∀ (M : Nat → Prop) (w2 : World) (o : Obj), Ext M w2 (w2.alloc o) own1 own1 := fun M w2 o => Ext.refl.alloc o
  have hb1 := hb1.alloc (.cells #[] 85)
  have hb2 := hb2.alloc (.cells #[] 85)
  have hb3 := hb3.alloc (.cells #[] 85)
  have hb4 := hb4.alloc (.cells #[] 85)
  have hE0 := hE0.alloc (.cells #[] 85)
  clear hX
  generalize ((((w.alloc (.cells #[.int .i64 0, .int .i64 0, .slice none 0 0, .slice none 0 0] 36)).alloc (.cells #[.slice none 0 0, .int .i64 0, .int .i64 0] 39)).alloc (.cells #[.int .i64 0, .int .i64 0, .slice none 0 0, .slice none 0 0] 36)).alloc (.cells #[.slice none 0 0, .int .i64 0, .int .i64 0] 39)).alloc (.cells #[] 85) = wa at *
  generalize w.heap.size + 1 + 1 + 1 + 1 = q at *
  obtain ⟨c0, c1, c2, c3⟩ := four_y hb1
  obtain ⟨i0, i1, i2, i3⟩ := four_f hb1
  obtain ⟨d0, d1, d2⟩ := three_y hb2
  obtain ⟨f0, f1, f2, f3⟩ := four_f hb3
  obtain ⟨g0, g1, g2⟩ := three_f hb4
  obtain ⟨e0, e1, e2, e3⟩ := four_y hb3
  obtain ⟨j0, j1, j2⟩ := three_y hb4
  have hb1' := hb1.setCell 3 (.slice (some ⟨q, 0, none⟩) 0 0)
  have hb3' := hb3.setCell_other (a := ⟨w.heap.size, 3, none⟩) (by show w.heap.size + 1 + 1 ≠ w.heap.size; omega) (.slice (some ⟨q, 0, none⟩) 0 0)
  have hb4' := hb4.setCell_other (a := ⟨w.heap.size, 3, none⟩) (by show w.heap.size + 1 + 1 + 1 ≠ w.heap.size; omega) (.slice (some ⟨q, 0, none⟩) 0 0)
  have hE1 := hE0.setCell (a := ⟨w.heap.size, 3, none⟩) (fun h => absurd h (Nat.lt_irrefl _)) (.slice (some ⟨q, 0, none⟩) 0 0)
  have hEND := two_set_drew (vs := [.int .i64 0, .int .i64 0, .slice none 0 0, .slice (some ⟨q, 0, none⟩) 0 0]) (us := [.slice none 0 0, .int .i64 0, .int .i64 0]) hE1 (by omega) (by omega) (by omega) hb3' rfl hb4' rfl
  simp only [putCells, Nat.reduceAdd] at hEND
  have HEND := Lib.hid hEND
  clear hEND hb1' hb3' hb4' hE1 hb1 hb2 hb3 hb4 hE0
  go_loopg [7, 8, 9] 0 (fun g ov nv iv wr => ov = .slice (some ⟨q, 0, none⟩) 0 0 ∧ nv = .int .i64 0 ∧ iv = .int .i64 0 ∧ wr = wa)
  case atStart => exact ⟨rfl, rfl, rfl, rfl⟩
  case round =>
    obtain ⟨rfl, rfl, rfl, rfl⟩ := hrel
    go_wp2_with fail
    go_region
    go_wp2_with fail
    ((try simp only [Exit.inBlock, Exit.then]); refine bodyPost_ret (results_cct rfl _ _ ((w.heap.size + 1 + 1)) ((w.heap.size + 1 + 1 + 1)) 36 39 _ _ _ _ _ _ rfl (HEND.out.2.1) Try.underlying36 rfl (by kernel_rfl) rfl (HEND.out.2.2) Try.underlying39 rfl (by kernel_rfl)) rfl ?_)
    exact ⟨⟨_, rfl⟩, HEND.out.1⟩
theorem rAlloc_none (w : World) (n : Int) : Calls Try.prog 29 #[ad0, .int .i64 n] w fun e w' => (∃ ba bc x, e = .returned (.tuple #[.agg #[.slice ba 0 bc, .int .i64 0, .int .i64 0], .int .i64 0, .int .i64 x])) ∧ Below w.heap.size w w' := by
  refine (aAlloc_any (RefA.empty w (fun _ => 0) 1) (by decide) (by decide) n).mono ?_
  rintro e w' ⟨v', rfl, hR, hB⟩
  have he : ¬ (RA.allocErr ⟨[], 0, 0⟩ n = 0) := by
    unfold RA.allocErr
    by_cases h : n < 1 ∨ 256 < n
    · rw [if_pos h]; decide
    · rw [if_neg h, if_pos (by show (0 : Int) < 0 + n; omega)]; decide
  have h1 : RA.alloc ⟨[], 0, 0⟩ n = ⟨[], 0, 0⟩ := by unfold RA.alloc; rw [if_neg he]
  have h2 : RA.allocId ⟨[], 0, 0⟩ n = 0 := by unfold RA.allocId; rw [if_neg he]
  rw [h1] at hR
  obtain ⟨ba, bc, rfl⟩ := hR.agg
  exact ⟨⟨ba, bc, _, by rw [h2]; rfl⟩, hB⟩
def e4Y (Y : YV) (V : AV) (kd t b : Int) : YV := if kd = 1 then Y.enter t else if kd = 2 then Y.leave t else if kd = 3 then Y.retire V t b else if kd = 4 then Y.sweep else Y
def e4V (Y : YV) (V : AV) (kd t b : Int) : AV := if kd = 3 then retireV Y V t b else if kd = 4 then dropsV Y V Y.limbo else if kd = 5 then V.alloc b else V
/-- The call's end: the yard and the arena behind it. -/
def E4Post (ka ky y a : Nat) (V' : AV) (Y' : YV) (ev : Value) (w : World) (own : Nat → Nat) (e : Ending) (w' : World) : Prop :=
  ∃ r lv' own', e = .returned r ∧ Ext (fun c => c = ka ∨ c = ky) w w' own own' ∧ Arena w' own' ka a V' ∧ Yard w' own' ky y a Y' ev lv'
section
variable {w : World} {own : Nat → Nat} {ka ky y a B : Nat} {V V' : AV} {Y Y' : YV} {ev lv : Value}
theorem e4_end {wr : World} {own1 : Nat → Nat} {b c : Nat} {cs ds vs us : List Value} {T S : TypeId} (hn : w.heap.size ≤ b) (hm : w.heap.size ≤ c) (hbc : b ≠ c) (hBa : B ≠ ka) (hBy : B ≠ ky)
    (hE : Ext (fun c => c = ka ∨ c = ky) w wr own own1) (hb : Blk wr own1 B b (.cells cs.toArray T (0, 0))) (hc : Blk wr own1 B c (.cells ds.toArray S (0, 0))) (hl : cs.length = vs.length) (hk : ds.length = us.length)
    (hA : Arena wr own1 ka a V') (hY : Yard wr own1 ky y a Y' ev lv) :
    (∀ V2 Y2 r, V' = V2 → Y' = Y2 → E4Post ka ky y a V2 Y2 ev w own (.returned r) (putCells (putCells wr b 0 vs) c 0 us).drew) ∧ (putCells (putCells wr b 0 vs) c 0 us).drew.heap[b]? = some (.cells vs.toArray T (0, 0)) ∧ (putCells (putCells wr b 0 vs) c 0 us).drew.heap[c]? = some (.cells us.toArray S (0, 0)) := by
  have h1 : Ext (fun x => x = B) wr (putCells wr b 0 vs) own1 own1 := Ext.putCells (fun _ => hb.col) vs wr 0 Ext.refl
  have h2 : Ext (fun x => x = B) wr (putCells (putCells wr b 0 vs) c 0 us) own1 own1 := Ext.putCells (fun _ => hc.col) us _ 0 h1
  have h3 : Ext (fun c => c = ka ∨ c = ky) w (putCells wr b 0 vs) own own1 := Ext.putCells (fun h => absurd h (by omega)) vs wr 0 hE
  have h4 : Ext (fun c => c = ka ∨ c = ky) w (putCells (putCells wr b 0 vs) c 0 us) own own1 := Ext.putCells (fun h => absurd h (by omega)) us _ 0 h3
  refine ⟨fun V2 Y2 r e1 e2 => ?_, (Blk.putCells_other hbc us _ 0 (hb.putCells hl)).at_, ((Blk.putCells_other (Ne.symm hbc) vs wr 0 hc).putCells hk).at_⟩
  subst e1
  subst e2
  exact ⟨_, _, own1, rfl, h4.drew, hA.ext h2.drew (by intro h; exact hBa h.symm), hY.ext h2.drew (by intro h; exact hBy h.symm)⟩
theorem e4_start (w : World) (own : Nat → Nat) (B : Nat) (o1 o2 o3 o4 o5 : Obj) :
    (∀ M, Ext M w (((((w.alloc o1).alloc o2).alloc o3).alloc o4).alloc o5) own (ow own w.heap.size B)) ∧ Blk (((((w.alloc o1).alloc o2).alloc o3).alloc o4).alloc o5) (ow own w.heap.size B) B w.heap.size o1 ∧
      Blk (((((w.alloc o1).alloc o2).alloc o3).alloc o4).alloc o5) (ow own w.heap.size B) B (w.heap.size + 1) o2 ∧ Blk (((((w.alloc o1).alloc o2).alloc o3).alloc o4).alloc o5) (ow own w.heap.size B) B (w.heap.size + 1 + 1) o3 ∧
      Blk (((((w.alloc o1).alloc o2).alloc o3).alloc o4).alloc o5) (ow own w.heap.size B) B (w.heap.size + 1 + 1 + 1) o4 ∧ Blk (((((w.alloc o1).alloc o2).alloc o3).alloc o4).alloc o5) (ow own w.heap.size B) B (w.heap.size + 1 + 1 + 1 + 1) o5 := by
  have n (w2 : World) (o : Obj) (h : w.heap.size ≤ w2.heap.size) : Blk (w2.alloc o) (ow own w.heap.size B) B w2.heap.size o := Blk.new w2 o (ow_ge h)
  refine ⟨fun M => (((((Ext.refl.ow _).alloc _).alloc _).alloc _).alloc _).alloc _, ((((n w o1 (by omega)).alloc _).alloc _).alloc _).alloc _, ?_, ?_, ?_, ?_⟩
  · have := (((n (w.alloc o1) o2 (by rw [World.size_alloc]; omega)).alloc o3).alloc o4).alloc o5
    simpa only [World.size_alloc] using this
  · have := ((n ((w.alloc o1).alloc o2) o3 (by rw [World.size_alloc, World.size_alloc]; omega)).alloc o4).alloc o5
    simpa only [World.size_alloc] using this
  · have := (n (((w.alloc o1).alloc o2).alloc o3) o4 (by rw [World.size_alloc, World.size_alloc, World.size_alloc]; omega)).alloc o5
    simpa only [World.size_alloc] using this
  · have := n ((((w.alloc o1).alloc o2).alloc o3).alloc o4) o5 (by rw [World.size_alloc, World.size_alloc, World.size_alloc, World.size_alloc]; omega)
    simpa only [World.size_alloc] using this
set_option maxHeartbeats 8000000 in
theorem does_none (hA : Arena w own ka a V) (hY : Yard w own ky y a Y ev lv) (hka : ka ≠ ky) (hf : V.faults + Y.limbo.length < 800000000000000) (hl : Y.limbo.length ≤ 3000000000000) (hn : Y.now < 1000000000000000) (hm : V.made < 1000000000000000) (kd t b : Int) (h6 : kd ≠ 6) :
    Calls Try.prog 11 #[.pointer (some ⟨y, 0, none⟩), .pointer (some ⟨a, 0, none⟩), yd0, ad0, .agg #[.int .i64 kd, .int .i64 t, .int .i64 b]] w (E4Post ka ky y a (e4V Y V kd t b) (e4Y Y V kd t b) ev w own) := by
  obtain ⟨B, hB⟩ : ∃ B, B = ka + ky + 1 := ⟨_, rfl⟩
  have hBa : B ≠ ka := by omega
  have hBy : B ≠ ky := by omega
  clear hB
  obtain ⟨hE, hb1, hb2, hb3, hb4, hb5⟩ := e4_start w own B (.cells #[.int .i64 0, .int .i64 0, .slice none 0 0, .slice none 0 0] 36 (0, 0)) (.cells #[.slice none 0 0, .int .i64 0, .int .i64 0] 39 (0, 0)) (.cells #[.int .i64 kd, .int .i64 t, .int .i64 b] 32 (0, 0)) (.cells #[.int .i64 0, .int .i64 0, .slice none 0 0, .slice none 0 0] 36 (0, 0)) (.cells #[.slice none 0 0, .int .i64 0, .int .i64 0] 39 (0, 0))
  have hAa := hA.ext (hE (fun _ => False)) (by simp)
  have hYa := hY.ext (hE (fun _ => False)) (by simp)
  have hEa := hE (fun c => c = ka ∨ c = ky)
  clear hE hA hY
  unfold yd0 ad0
  go_enter Try.func11, Try.ntmps11
  generalize hown : ow own w.heap.size B = own1 at *
  clear hown
  have H6 := Lib.hid h6
  clear h6
  by_cases h1 : kd = 1
  · subst h1
    have HV := Lib.hid (show e4V Y V 1 t b = V by simp [e4V])
    have HY := Lib.hid (show e4Y Y V 1 t b = Y.enter t by simp [e4Y])
    go_wp2_with fail
    generalize ((((w.alloc (.cells #[.int .i64 0, .int .i64 0, .slice none 0 0, .slice none 0 0] 36)).alloc (.cells #[.slice none 0 0, .int .i64 0, .int .i64 0] 39)).alloc (.cells #[.int .i64 1, .int .i64 t, .int .i64 b] 32)).alloc (.cells #[.int .i64 0, .int .i64 0, .slice none 0 0, .slice none 0 0] 36)).alloc (.cells #[.slice none 0 0, .int .i64 0, .int .i64 0] 39) = wa at *
    refine (Enter_any hYa hn t).mono ?_
    rintro e w2 ⟨rfl, hE2, hY2⟩
    have hb1 := hb1.ext hE2 (fun h => hBy h)
    have hb2 := hb2.ext hE2 (fun h => hBy h)
    have hb3 := hb3.ext hE2 (fun h => hBy h)
    have hb4 := hb4.ext hE2 (fun h => hBy h)
    have hb5 := hb5.ext hE2 (fun h => hBy h)
    have hA2 := hAa.ext hE2 hka
    have hE02 := hEa.trans (hE2.mono (M' := fun c => c = ka ∨ c = ky) (by simp))
    obtain ⟨c0, c1, c2, c3⟩ := four_y hb1
    obtain ⟨d0, d1, d2⟩ := three_y hb2
    obtain ⟨o0, o1, o2⟩ := three_y hb3
    clear hE2 hEa hAa hYa
    have HR := Lib.hid (rEnter_none w2 t)
    unfold yd0 at HR
    go_wp2_with fail
    refine HR.out.mono ?_
    rintro e w3 ⟨rfl, hB⟩
    have hE3 : ∀ M, Ext M w2 w3 own1 (ow own1 w2.heap.size B) := fun M => Ext.of_below hB _ _
    have hA3 := hA2.ext (hE3 (fun _ => False)) (by simp)
    have hY3 := hY2.ext (hE3 (fun _ => False)) (by simp)
    have hb1 := hb1.ext (hE3 (fun _ => False)) (by simp)
    have hb2 := hb2.ext (hE3 (fun _ => False)) (by simp)
    have hb4 := hb4.ext (hE3 (fun _ => False)) (by simp)
    have hb5 := hb5.ext (hE3 (fun _ => False)) (by simp)
    have hE03 := hE02.trans (hE3 (fun c => c = ka ∨ c = ky))
    clear hB hb3 hA2 hY2 hE02 hE3 c0 c1 c2 c3 d0 d1 d2 o0 o1 o2 HR
    generalize ow own1 w2.heap.size B = own3 at *
    have hs3 := hE03.size
    have hlt3 := hb5.lt
    have hne1 : w.heap.size + 1 + 1 + 1 ≠ w3.heap.size := by omega
    have hne2 : w.heap.size + 1 + 1 + 1 + 1 ≠ w3.heap.size := by omega
    have hne3 : w.heap.size + 1 + 1 + 1 ≠ w3.heap.size + 1 := by omega
    have hne4 : w.heap.size + 1 + 1 + 1 + 1 ≠ w3.heap.size + 1 := by omega
    have hX := Ext.refl (M := fun _ => False) (w := w3) (own := own3)
    have hX := hX.alloc (.cells #[.int .i64 0, .int .i64 0, .slice none 0 0, .slice none 0 0] 36 (0, 0))
    have hA4 := hA3.ext hX (by simp)
    have hY4 := hY3.ext hX (by simp)
    have hb1 := hb1.ext hX (by simp)
    have hb2 := hb2.ext hX (by simp)
    have hb4 := hb4.ext hX (by simp)
    have hb5 := hb5.ext hX (by simp)
    have hE4 := hE03.trans (hX.mono (M' := fun c => c = ka ∨ c = ky) (by simp))
    have hEND := e4_end (vs := [.int .i64 0, .int .i64 0, .slice none 0 0, .slice none 0 0]) (us := [.slice none 0 0, .int .i64 0, .int .i64 0]) (by omega) (by omega) (by omega) hBa hBy hE4 hb4 hb5 rfl rfl hA4 hY4
    simp only [putCells, Nat.reduceAdd] at hEND
    have HEND := Lib.hid hEND
    obtain ⟨c0, c1, c2, c3⟩ := four_y hb1
    obtain ⟨d0, d1, d2⟩ := three_y hb2
    obtain ⟨e0, e1, e2, e3⟩ := four_y hb4
    obtain ⟨f0, f1, f2, f3⟩ := four_f hb4
    obtain ⟨g0, g1, g2⟩ := three_y hb5
    obtain ⟨i0, i1, i2⟩ := three_f hb5
    clear hEND hX hA3 hY3 hA4 hY4 hb1 hb2 hb4 hb5 hE03 hE4
    go_wp2_with fail
    go_region
    go_wp2_with fail
    ((try simp only [Exit.inBlock, Exit.then]); refine bodyPost_ret (results_cct rfl _ _ ((w.heap.size + 1 + 1 + 1)) ((w.heap.size + 1 + 1 + 1 + 1)) 36 39 _ _ _ _ _ _ rfl (HEND.out.2.1) Try.underlying36 rfl (by kernel_rfl) rfl (HEND.out.2.2) Try.underlying39 rfl (by kernel_rfl)) rfl ?_)
    exact HEND.out.1 _ _ _ HV.out.symm HY.out.symm
  by_cases h2 : kd = 2
  · subst h2
    have HV := Lib.hid (show e4V Y V 2 t b = V by simp [e4V])
    have HY := Lib.hid (show e4Y Y V 2 t b = Y.leave t by simp [e4Y])
    go_wp2_with fail
    generalize ((((w.alloc (.cells #[.int .i64 0, .int .i64 0, .slice none 0 0, .slice none 0 0] 36)).alloc (.cells #[.slice none 0 0, .int .i64 0, .int .i64 0] 39)).alloc (.cells #[.int .i64 2, .int .i64 t, .int .i64 b] 32)).alloc (.cells #[.int .i64 0, .int .i64 0, .slice none 0 0, .slice none 0 0] 36)).alloc (.cells #[.slice none 0 0, .int .i64 0, .int .i64 0] 39) = wa at *
    refine (Leave_any hYa t).mono ?_
    rintro e w2 ⟨rfl, hE2, hY2⟩
    have hb1 := hb1.ext hE2 (fun h => hBy h)
    have hb2 := hb2.ext hE2 (fun h => hBy h)
    have hb3 := hb3.ext hE2 (fun h => hBy h)
    have hb4 := hb4.ext hE2 (fun h => hBy h)
    have hb5 := hb5.ext hE2 (fun h => hBy h)
    have hA2 := hAa.ext hE2 hka
    have hE02 := hEa.trans (hE2.mono (M' := fun c => c = ka ∨ c = ky) (by simp))
    obtain ⟨c0, c1, c2, c3⟩ := four_y hb1
    obtain ⟨d0, d1, d2⟩ := three_y hb2
    obtain ⟨o0, o1, o2⟩ := three_y hb3
    clear hE2 hEa hAa hYa
    have HR := Lib.hid (rLeave_none w2 t)
    unfold yd0 at HR
    go_wp2_with fail
    refine HR.out.mono ?_
    rintro e w3 ⟨rfl, hB⟩
    have hE3 : ∀ M, Ext M w2 w3 own1 (ow own1 w2.heap.size B) := fun M => Ext.of_below hB _ _
    have hA3 := hA2.ext (hE3 (fun _ => False)) (by simp)
    have hY3 := hY2.ext (hE3 (fun _ => False)) (by simp)
    have hb1 := hb1.ext (hE3 (fun _ => False)) (by simp)
    have hb2 := hb2.ext (hE3 (fun _ => False)) (by simp)
    have hb4 := hb4.ext (hE3 (fun _ => False)) (by simp)
    have hb5 := hb5.ext (hE3 (fun _ => False)) (by simp)
    have hE03 := hE02.trans (hE3 (fun c => c = ka ∨ c = ky))
    clear hB hb3 hA2 hY2 hE02 hE3 c0 c1 c2 c3 d0 d1 d2 o0 o1 o2 HR
    generalize ow own1 w2.heap.size B = own3 at *
    have hs3 := hE03.size
    have hlt3 := hb5.lt
    have hne1 : w.heap.size + 1 + 1 + 1 ≠ w3.heap.size := by omega
    have hne2 : w.heap.size + 1 + 1 + 1 + 1 ≠ w3.heap.size := by omega
    have hne3 : w.heap.size + 1 + 1 + 1 ≠ w3.heap.size + 1 := by omega
    have hne4 : w.heap.size + 1 + 1 + 1 + 1 ≠ w3.heap.size + 1 := by omega
    have hX := Ext.refl (M := fun _ => False) (w := w3) (own := own3)
    have hX := hX.alloc (.cells #[.int .i64 0, .int .i64 0, .slice none 0 0, .slice none 0 0] 36 (0, 0))
    have hA4 := hA3.ext hX (by simp)
    have hY4 := hY3.ext hX (by simp)
    have hb1 := hb1.ext hX (by simp)
    have hb2 := hb2.ext hX (by simp)
    have hb4 := hb4.ext hX (by simp)
    have hb5 := hb5.ext hX (by simp)
    have hE4 := hE03.trans (hX.mono (M' := fun c => c = ka ∨ c = ky) (by simp))
    have hEND := e4_end (vs := [.int .i64 0, .int .i64 0, .slice none 0 0, .slice none 0 0]) (us := [.slice none 0 0, .int .i64 0, .int .i64 0]) (by omega) (by omega) (by omega) hBa hBy hE4 hb4 hb5 rfl rfl hA4 hY4
    simp only [putCells, Nat.reduceAdd] at hEND
    have HEND := Lib.hid hEND
    obtain ⟨c0, c1, c2, c3⟩ := four_y hb1
    obtain ⟨d0, d1, d2⟩ := three_y hb2
    obtain ⟨e0, e1, e2, e3⟩ := four_y hb4
    obtain ⟨f0, f1, f2, f3⟩ := four_f hb4
    obtain ⟨g0, g1, g2⟩ := three_y hb5
    obtain ⟨i0, i1, i2⟩ := three_f hb5
    clear hEND hX hA3 hY3 hA4 hY4 hb1 hb2 hb4 hb5 hE03 hE4
    go_wp2_with fail
    go_region
    go_wp2_with fail
    ((try simp only [Exit.inBlock, Exit.then]); refine bodyPost_ret (results_cct rfl _ _ ((w.heap.size + 1 + 1 + 1)) ((w.heap.size + 1 + 1 + 1 + 1)) 36 39 _ _ _ _ _ _ rfl (HEND.out.2.1) Try.underlying36 rfl (by kernel_rfl) rfl (HEND.out.2.2) Try.underlying39 rfl (by kernel_rfl)) rfl ?_)
    exact HEND.out.1 _ _ _ HV.out.symm HY.out.symm
  by_cases h3 : kd = 3
  · subst h3
    have HV := Lib.hid (show e4V Y V 3 t b = retireV Y V t b by simp [e4V])
    have HY := Lib.hid (show e4Y Y V 3 t b = Y.retire V t b by simp [e4Y])
    go_wp2_with fail
    generalize ((((w.alloc (.cells #[.int .i64 0, .int .i64 0, .slice none 0 0, .slice none 0 0] 36)).alloc (.cells #[.slice none 0 0, .int .i64 0, .int .i64 0] 39)).alloc (.cells #[.int .i64 3, .int .i64 t, .int .i64 b] 32)).alloc (.cells #[.int .i64 0, .int .i64 0, .slice none 0 0, .slice none 0 0] 36)).alloc (.cells #[.slice none 0 0, .int .i64 0, .int .i64 0] 39) = wa at *
    refine (Retire_any hAa hYa hka hf hl hn t b).mono ?_
    rintro e w2 ⟨lv2, own2, rfl, hE2, hA2, hY2⟩
    have hb1 := hb1.ext hE2 (fun h => by rcases h with h | h <;> omega)
    have hb2 := hb2.ext hE2 (fun h => by rcases h with h | h <;> omega)
    have hb3 := hb3.ext hE2 (fun h => by rcases h with h | h <;> omega)
    have hb4 := hb4.ext hE2 (fun h => by rcases h with h | h <;> omega)
    have hb5 := hb5.ext hE2 (fun h => by rcases h with h | h <;> omega)
    skip
    have hE02 := hEa.trans (hE2.mono (M' := fun c => c = ka ∨ c = ky) (by simp))
    obtain ⟨c0, c1, c2, c3⟩ := four_y hb1
    obtain ⟨d0, d1, d2⟩ := three_y hb2
    obtain ⟨o0, o1, o2⟩ := three_y hb3
    clear hE2 hEa hAa hYa
    have HR := Lib.hid (rRetire_none w2 t b)
    unfold yd0 ad0 at HR
    go_wp2_with fail
    refine HR.out.mono ?_
    rintro e w3 ⟨rfl, hB⟩
    have hE3 : ∀ M, Ext M w2 w3 own2 (ow own2 w2.heap.size B) := fun M => Ext.of_below hB _ _
    have hA3 := hA2.ext (hE3 (fun _ => False)) (by simp)
    have hY3 := hY2.ext (hE3 (fun _ => False)) (by simp)
    have hb1 := hb1.ext (hE3 (fun _ => False)) (by simp)
    have hb2 := hb2.ext (hE3 (fun _ => False)) (by simp)
    have hb4 := hb4.ext (hE3 (fun _ => False)) (by simp)
    have hb5 := hb5.ext (hE3 (fun _ => False)) (by simp)
    have hE03 := hE02.trans (hE3 (fun c => c = ka ∨ c = ky))
    clear hB hb3 hA2 hY2 hE02 hE3 c0 c1 c2 c3 d0 d1 d2 o0 o1 o2 HR
    generalize ow own2 w2.heap.size B = own3 at *
    have hs3 := hE03.size
    have hlt3 := hb5.lt
    have hne1 : w.heap.size + 1 + 1 + 1 ≠ w3.heap.size := by omega
    have hne2 : w.heap.size + 1 + 1 + 1 + 1 ≠ w3.heap.size := by omega
    have hne3 : w.heap.size + 1 + 1 + 1 ≠ w3.heap.size + 1 := by omega
    have hne4 : w.heap.size + 1 + 1 + 1 + 1 ≠ w3.heap.size + 1 := by omega
    have hX := Ext.refl (M := fun _ => False) (w := w3) (own := own3)
    have hX := hX.alloc (.cells #[.int .i64 0, .int .i64 0, .slice none 0 0, .slice none 0 0] 36 (0, 0))
    have hX := hX.alloc (.cells #[.slice none 0 0, .int .i64 0, .int .i64 0] 39 (0, 0))
    have hA4 := hA3.ext hX (by simp)
    have hY4 := hY3.ext hX (by simp)
    have hb1 := hb1.ext hX (by simp)
    have hb2 := hb2.ext hX (by simp)
    have hb4 := hb4.ext hX (by simp)
    have hb5 := hb5.ext hX (by simp)
    have hE4 := hE03.trans (hX.mono (M' := fun c => c = ka ∨ c = ky) (by simp))
    have hEND := e4_end (vs := [.int .i64 0, .int .i64 0, .slice none 0 0, .slice none 0 0]) (us := [.slice none 0 0, .int .i64 0, .int .i64 0]) (by omega) (by omega) (by omega) hBa hBy hE4 hb4 hb5 rfl rfl hA4 hY4
    simp only [putCells, Nat.reduceAdd] at hEND
    have HEND := Lib.hid hEND
    obtain ⟨c0, c1, c2, c3⟩ := four_y hb1
    obtain ⟨d0, d1, d2⟩ := three_y hb2
    obtain ⟨e0, e1, e2, e3⟩ := four_y hb4
    obtain ⟨f0, f1, f2, f3⟩ := four_f hb4
    obtain ⟨g0, g1, g2⟩ := three_y hb5
    obtain ⟨i0, i1, i2⟩ := three_f hb5
    clear hEND hX hA3 hY3 hA4 hY4 hb1 hb2 hb4 hb5 hE03 hE4
    go_wp2_with fail
    go_region
    go_wp2_with fail
    ((try simp only [Exit.inBlock, Exit.then]); refine bodyPost_ret (results_cct rfl _ _ ((w.heap.size + 1 + 1 + 1)) ((w.heap.size + 1 + 1 + 1 + 1)) 36 39 _ _ _ _ _ _ rfl (HEND.out.2.1) Try.underlying36 rfl (by kernel_rfl) rfl (HEND.out.2.2) Try.underlying39 rfl (by kernel_rfl)) rfl ?_)
    exact HEND.out.1 _ _ _ HV.out.symm HY.out.symm
  by_cases h4 : kd = 4
  · subst h4
    have HV := Lib.hid (show e4V Y V 4 t b = dropsV Y V Y.limbo by simp [e4V])
    have HY := Lib.hid (show e4Y Y V 4 t b = Y.sweep by simp [e4Y])
    go_wp2_with fail
    generalize ((((w.alloc (.cells #[.int .i64 0, .int .i64 0, .slice none 0 0, .slice none 0 0] 36)).alloc (.cells #[.slice none 0 0, .int .i64 0, .int .i64 0] 39)).alloc (.cells #[.int .i64 4, .int .i64 t, .int .i64 b] 32)).alloc (.cells #[.int .i64 0, .int .i64 0, .slice none 0 0, .slice none 0 0] 36)).alloc (.cells #[.slice none 0 0, .int .i64 0, .int .i64 0] 39) = wa at *
    refine (Sweep_any hAa hYa hka (by omega) (by omega)).mono ?_
    rintro e w2 ⟨lv2, own2, rfl, hE2, hA2, hY2⟩
    have hb1 := hb1.ext hE2 (fun h => by rcases h with h | h <;> omega)
    have hb2 := hb2.ext hE2 (fun h => by rcases h with h | h <;> omega)
    have hb3 := hb3.ext hE2 (fun h => by rcases h with h | h <;> omega)
    have hb4 := hb4.ext hE2 (fun h => by rcases h with h | h <;> omega)
    have hb5 := hb5.ext hE2 (fun h => by rcases h with h | h <;> omega)
    skip
    have hE02 := hEa.trans (hE2.mono (M' := fun c => c = ka ∨ c = ky) (by simp))
    obtain ⟨c0, c1, c2, c3⟩ := four_y hb1
    obtain ⟨d0, d1, d2⟩ := three_y hb2
    obtain ⟨o0, o1, o2⟩ := three_y hb3
    clear hE2 hEa hAa hYa
    have HR := Lib.hid (rSweep_none w2)
    unfold yd0 ad0 at HR
    go_wp2_with fail
    refine HR.out.mono ?_
    rintro e w3 ⟨⟨q, rfl⟩, hB⟩
    have hE3 : ∀ M, Ext M w2 w3 own2 (ow own2 w2.heap.size B) := fun M => Ext.of_below hB _ _
    have hA3 := hA2.ext (hE3 (fun _ => False)) (by simp)
    have hY3 := hY2.ext (hE3 (fun _ => False)) (by simp)
    have hb1 := hb1.ext (hE3 (fun _ => False)) (by simp)
    have hb2 := hb2.ext (hE3 (fun _ => False)) (by simp)
    have hb4 := hb4.ext (hE3 (fun _ => False)) (by simp)
    have hb5 := hb5.ext (hE3 (fun _ => False)) (by simp)
    have hE03 := hE02.trans (hE3 (fun c => c = ka ∨ c = ky))
    clear hB hb3 hA2 hY2 hE02 hE3 c0 c1 c2 c3 d0 d1 d2 o0 o1 o2 HR
    generalize ow own2 w2.heap.size B = own3 at *
    have hs3 := hE03.size
    have hlt3 := hb5.lt
    have hne1 : w.heap.size + 1 + 1 + 1 ≠ w3.heap.size := by omega
    have hne2 : w.heap.size + 1 + 1 + 1 + 1 ≠ w3.heap.size := by omega
    have hne3 : w.heap.size + 1 + 1 + 1 ≠ w3.heap.size + 1 := by omega
    have hne4 : w.heap.size + 1 + 1 + 1 + 1 ≠ w3.heap.size + 1 := by omega
    have hX := Ext.refl (M := fun _ => False) (w := w3) (own := own3)
    have hX := hX.alloc (.cells #[.int .i64 0, .int .i64 0, .slice none 0 0, .slice (some ⟨q, 0, none⟩) 0 0] 36 (0, 0))
    have hX := hX.alloc (.cells #[.slice none 0 0, .int .i64 0, .int .i64 0] 39 (0, 0))
    have hA4 := hA3.ext hX (by simp)
    have hY4 := hY3.ext hX (by simp)
    have hb1 := hb1.ext hX (by simp)
    have hb2 := hb2.ext hX (by simp)
    have hb4 := hb4.ext hX (by simp)
    have hb5 := hb5.ext hX (by simp)
    have hE4 := hE03.trans (hX.mono (M' := fun c => c = ka ∨ c = ky) (by simp))
    have hEND := e4_end (vs := [.int .i64 0, .int .i64 0, .slice none 0 0, .slice (some ⟨q, 0, none⟩) 0 0]) (us := [.slice none 0 0, .int .i64 0, .int .i64 0]) (by omega) (by omega) (by omega) hBa hBy hE4 hb4 hb5 rfl rfl hA4 hY4
    simp only [putCells, Nat.reduceAdd] at hEND
    have HEND := Lib.hid hEND
    obtain ⟨c0, c1, c2, c3⟩ := four_y hb1
    obtain ⟨d0, d1, d2⟩ := three_y hb2
    obtain ⟨e0, e1, e2, e3⟩ := four_y hb4
    obtain ⟨f0, f1, f2, f3⟩ := four_f hb4
    obtain ⟨g0, g1, g2⟩ := three_y hb5
    obtain ⟨i0, i1, i2⟩ := three_f hb5
    clear hEND hX hA3 hY3 hA4 hY4 hb1 hb2 hb4 hb5 hE03 hE4
    go_wp2_with fail
    go_region
    go_wp2_with fail
    ((try simp only [Exit.inBlock, Exit.then]); refine bodyPost_ret (results_cct rfl _ _ ((w.heap.size + 1 + 1 + 1)) ((w.heap.size + 1 + 1 + 1 + 1)) 36 39 _ _ _ _ _ _ rfl (HEND.out.2.1) Try.underlying36 rfl (by kernel_rfl) rfl (HEND.out.2.2) Try.underlying39 rfl (by kernel_rfl)) rfl ?_)
    exact HEND.out.1 _ _ _ HV.out.symm HY.out.symm
  by_cases h5 : kd = 5
  · subst h5
    have HV := Lib.hid (show e4V Y V 5 t b = V.alloc b by simp [e4V])
    have HY := Lib.hid (show e4Y Y V 5 t b = Y by simp [e4Y])
    go_wp2_with fail
    generalize ((((w.alloc (.cells #[.int .i64 0, .int .i64 0, .slice none 0 0, .slice none 0 0] 36)).alloc (.cells #[.slice none 0 0, .int .i64 0, .int .i64 0] 39)).alloc (.cells #[.int .i64 5, .int .i64 t, .int .i64 b] 32)).alloc (.cells #[.int .i64 0, .int .i64 0, .slice none 0 0, .slice none 0 0] 36)).alloc (.cells #[.slice none 0 0, .int .i64 0, .int .i64 0] 39) = wa at *
    refine (Alloc_any hAa hm b).mono ?_
    rintro e w2 ⟨rfl, own2, hE2, hA2⟩
    have hb1 := hb1.ext hE2 (fun h => hBa h)
    have hb2 := hb2.ext hE2 (fun h => hBa h)
    have hb3 := hb3.ext hE2 (fun h => hBa h)
    have hb4 := hb4.ext hE2 (fun h => hBa h)
    have hb5 := hb5.ext hE2 (fun h => hBa h)
    have hY2 := hYa.ext hE2 (Ne.symm hka)
    generalize (if V.allocErr b = 0 then V.made + 1 else 0) = x1 at *
    generalize V.allocErr b = x2 at *
    have hE02 := hEa.trans (hE2.mono (M' := fun c => c = ka ∨ c = ky) (by simp))
    obtain ⟨c0, c1, c2, c3⟩ := four_y hb1
    obtain ⟨d0, d1, d2⟩ := three_y hb2
    obtain ⟨o0, o1, o2⟩ := three_y hb3
    clear hE2 hEa hAa hYa
    have HR := Lib.hid (rAlloc_none w2 b)
    unfold ad0 at HR
    go_wp2_with fail
    refine HR.out.mono ?_
    rintro e w3 ⟨⟨ba, bc, x, rfl⟩, hB⟩
    have hE3 : ∀ M, Ext M w2 w3 own2 (ow own2 w2.heap.size B) := fun M => Ext.of_below hB _ _
    have hA3 := hA2.ext (hE3 (fun _ => False)) (by simp)
    have hY3 := hY2.ext (hE3 (fun _ => False)) (by simp)
    have hb1 := hb1.ext (hE3 (fun _ => False)) (by simp)
    have hb2 := hb2.ext (hE3 (fun _ => False)) (by simp)
    have hb4 := hb4.ext (hE3 (fun _ => False)) (by simp)
    have hb5 := hb5.ext (hE3 (fun _ => False)) (by simp)
    have hE03 := hE02.trans (hE3 (fun c => c = ka ∨ c = ky))
    clear hB hb3 hA2 hY2 hE02 hE3 c0 c1 c2 c3 d0 d1 d2 o0 o1 o2 HR
    generalize ow own2 w2.heap.size B = own3 at *
    have hs3 := hE03.size
    have hlt3 := hb5.lt
    have hne1 : w.heap.size + 1 + 1 + 1 ≠ w3.heap.size := by omega
    have hne2 : w.heap.size + 1 + 1 + 1 + 1 ≠ w3.heap.size := by omega
    have hne3 : w.heap.size + 1 + 1 + 1 ≠ w3.heap.size + 1 := by omega
    have hne4 : w.heap.size + 1 + 1 + 1 + 1 ≠ w3.heap.size + 1 := by omega
    have hX := Ext.refl (M := fun _ => False) (w := w3) (own := own3)
    have hX := hX.alloc (.cells #[.slice ba 0 bc, .int .i64 0, .int .i64 0] 39 (0, 0))
    have hA4 := hA3.ext hX (by simp)
    have hY4 := hY3.ext hX (by simp)
    have hb1 := hb1.ext hX (by simp)
    have hb2 := hb2.ext hX (by simp)
    have hb4 := hb4.ext hX (by simp)
    have hb5 := hb5.ext hX (by simp)
    have hE4 := hE03.trans (hX.mono (M' := fun c => c = ka ∨ c = ky) (by simp))
    have hEND := e4_end (vs := [.int .i64 0, .int .i64 0, .slice none 0 0, .slice none 0 0]) (us := [.slice ba 0 bc, .int .i64 0, .int .i64 0]) (by omega) (by omega) (by omega) hBa hBy hE4 hb4 hb5 rfl rfl hA4 hY4
    simp only [putCells, Nat.reduceAdd] at hEND
    have HEND := Lib.hid hEND
    obtain ⟨c0, c1, c2, c3⟩ := four_y hb1
    obtain ⟨d0, d1, d2⟩ := three_y hb2
    obtain ⟨e0, e1, e2, e3⟩ := four_y hb4
    obtain ⟨f0, f1, f2, f3⟩ := four_f hb4
    obtain ⟨g0, g1, g2⟩ := three_y hb5
    obtain ⟨i0, i1, i2⟩ := three_f hb5
    clear hEND hX hA3 hY3 hA4 hY4 hb1 hb2 hb4 hb5 hE03 hE4
    rcases Bool.eq_false_or_eq_true (x1 == 0) with hx | hx
    all_goals
      go_wp2_with fail
      go_region
      go_wp2_with fail
      ((try simp only [Exit.inBlock, Exit.then]); refine bodyPost_ret (results_cct rfl _ _ ((w.heap.size + 1 + 1 + 1)) ((w.heap.size + 1 + 1 + 1 + 1)) 36 39 _ _ _ _ _ _ rfl (HEND.out.2.1) Try.underlying36 rfl (by kernel_rfl) rfl (HEND.out.2.2) Try.underlying39 rfl (by kernel_rfl)) rfl ?_)
      exact HEND.out.1 _ _ _ HV.out.symm HY.out.symm
  have h6 := H6.out
  have HV := Lib.hid (show e4V Y V kd t b = V by unfold e4V; rw [if_neg h3, if_neg h4, if_neg h5])
  have HY := Lib.hid (show e4Y Y V kd t b = Y by unfold e4Y; rw [if_neg h1, if_neg h2, if_neg h3, if_neg h4])
  have hEND := e4_end (vs := [.int .i64 0, .int .i64 0, .slice none 0 0, .slice none 0 0]) (us := [.slice none 0 0, .int .i64 0, .int .i64 0]) (by omega) (by omega) (by omega) hBa hBy hEa hb4 hb5 rfl rfl hAa hYa
  simp only [putCells, Nat.reduceAdd] at hEND
  have HEND := Lib.hid hEND
  obtain ⟨c0, c1, c2, c3⟩ := four_y hb1
  obtain ⟨d0, d1, d2⟩ := three_y hb2
  obtain ⟨e0, e1, e2, e3⟩ := four_y hb4
  obtain ⟨f0, f1, f2, f3⟩ := four_f hb4
  obtain ⟨g0, g1, g2⟩ := three_y hb5
  obtain ⟨i0, i1, i2⟩ := three_f hb5
  clear hEND hAa hYa hEa hb1 hb2 hb3 hb4 hb5
  go_wp2_with fail
  generalize ((((w.alloc (.cells #[.int .i64 0, .int .i64 0, .slice none 0 0, .slice none 0 0] 36)).alloc (.cells #[.slice none 0 0, .int .i64 0, .int .i64 0] 39)).alloc (.cells #[.int .i64 kd, .int .i64 t, .int .i64 b] 32)).alloc (.cells #[.int .i64 0, .int .i64 0, .slice none 0 0, .slice none 0 0] 36)).alloc (.cells #[.slice none 0 0, .int .i64 0, .int .i64 0] 39) = wa at *
  go_region
  go_wp2_with fail
  ((try simp only [Exit.inBlock, Exit.then]); refine bodyPost_ret (results_cct rfl _ _ ((w.heap.size + 1 + 1 + 1)) ((w.heap.size + 1 + 1 + 1 + 1)) 36 39 _ _ _ _ _ _ rfl (HEND.out.2.1) Try.underlying36 rfl (by kernel_rfl) rfl (HEND.out.2.2) Try.underlying39 rfl (by kernel_rfl)) rfl ?_)
  exact HEND.out.1 _ _ _ HV.out.symm HY.out.symm
end
end Go.Proofs.Ytdomehpdjnfkeaa
