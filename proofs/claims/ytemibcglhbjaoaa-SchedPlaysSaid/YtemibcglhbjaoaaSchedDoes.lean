/- Layer 6: one call against the document (does), whatever the two schedulers are. -/
import Derived.Test.YtemibcglhbjaoaaSchedRef
set_option maxRecDepth 20000
set_option linter.unusedVariables false
set_option linter.unusedSimpArgs false
namespace Go.Proofs.Ytemibcglhbjaoaa
open Go.RowKit Go.PM

def doV (V : SV) (kd t key : Int) : SV :=
  if kd = 1 then V.spawn else if kd = 2 then V.block t key else if kd = 3 then V.end_ t else if kd = 4 then V.free t else if kd = 5 then V.wake key else if kd = 6 then V.pick t else V
def doR (R : RV) (kd t key : Int) : RV :=
  if kd = 1 then R.spawn else if kd = 2 then R.move t 1 2 key else if kd = 3 then R.move t 1 3 0 else if kd = 4 then R.move t 3 0 0 else if kd = 5 then R.wake key
  else if kd = 6 then (if R.state t = 1 then { R with good := R.good + 1 } else { R with bad := R.bad + 1 }) else R
def doOk (V : SV) (R : RV) (kd t key : Int) : Bool :=
  if kd = 1 then (V.spawnId == R.spawnId && V.spawnErr == R.spawnErr) else if kd = 2 then V.err t 1 == R.moveErr t 1 else if kd = 3 then V.err t 1 == R.moveErr t 1
  else if kd = 4 then V.err t 3 == R.moveErr t 3 else if kd = 5 then V.woken key == R.woken key
  else if kd = 6 then (if R.state t = 1 then V.state t == 1 else !(V.state t == 1)) else true
/-- The call's end: both schedulers behind it. -/
def DoPost (k s L : Nat) (V' : SV) (R' : RV) (ok : Bool) (w : World) (own : Nat → Nat) (e : Ending) (w' : World) : Prop :=
  ∃ v' own', e = .returned (.tuple #[v', .bool ok]) ∧ Ext (fun c => c = k) w w' own own' ∧ Sched w' own' k s V' ∧ Ref w' own' L v' R'

section
variable {w : World} {own : Nat → Nat} {k s L : Nat} {V : SV} {v : Value} {R : RV}
theorem do_end {wr : World} {own1 : Nat → Nat} {V' : SV} {R' : RV} {sv kv : Value} {b : Nat} {z0 z1 z2 z3 z4 : Value} {B : Nat} (hn : w.heap.size ≤ b) (hBk : k ≠ B) (hBL : L ≠ B)
    (hE : Ext (fun c => c = k) w wr own own1) (hb : Blk wr own1 B b (.cells #[z0, z1, z2, z3, z4] 35 (0, 0))) (hS : Sched wr own1 k s V') (hR : Ref wr own1 L (refAgg sv kv R') R') :
    (∀ V2 R2 ok ok', V' = V2 → R' = R2 → ok = ok' → DoPost k s L V2 R2 ok' w own (.returned (.tuple #[refAgg sv kv R', .bool ok])) (putCells wr b 0 [sv, kv, .int .i64 R'.most, .int .i64 R'.good, .int .i64 R'.bad])) ∧
      (putCells wr b 0 [sv, kv, .int .i64 R'.most, .int .i64 R'.good, .int .i64 R'.bad]).heap[b]? = some (.cells #[sv, kv, .int .i64 R'.most, .int .i64 R'.good, .int .i64 R'.bad] 35 (0, 0)) := by
  have h2 : Ext (fun c => c = B) wr (putCells wr b 0 [sv, kv, .int .i64 R'.most, .int .i64 R'.good, .int .i64 R'.bad]) own1 own1 := Ext.putCells (fun _ => hb.col) _ _ _ Ext.refl
  have h3 : Ext (fun c => c = k) w (putCells wr b 0 [sv, kv, .int .i64 R'.most, .int .i64 R'.good, .int .i64 R'.bad]) own own1 := Ext.putCells (fun h => absurd h (by omega)) _ _ _ hE
  refine ⟨fun V2 R2 ok ok' e1 e2 e3 => ?_, (hb.putCells (cs := [z0, z1, z2, z3, z4]) (vs := [sv, kv, .int .i64 R'.most, .int .i64 R'.good, .int .i64 R'.bad]) rfl).at_⟩
  subst e1
  subst e2
  subst e3
  exact ⟨_, own1, rfl, h3, hS.ext h2 (by intro h; exact hBk h), hR.ext h2 (by intro h; exact hBL h)⟩
theorem do_start (w : World) (own : Nat → Nat) (B : Nat) (o1 o2 o3 : Obj) :
    (∀ M, Ext M w (((w.alloc o1).alloc o2).alloc o3) own (ow own w.heap.size B)) ∧ Blk (((w.alloc o1).alloc o2).alloc o3) (ow own w.heap.size B) B w.heap.size o1 ∧
      Blk (((w.alloc o1).alloc o2).alloc o3) (ow own w.heap.size B) B (w.heap.size + 1) o2 ∧ Blk (((w.alloc o1).alloc o2).alloc o3) (ow own w.heap.size B) B (w.heap.size + 1 + 1) o3 := by
  refine ⟨fun M => ((((Ext.refl (M := M)).ow B).alloc _).alloc _).alloc _, ((Blk.new w o1 (ow_ge (by omega))).alloc _).alloc _, ?_, ?_⟩
  · have := (Blk.new (own := ow own w.heap.size B) (k := B) (w.alloc o1) o2 (by rw [World.size_alloc]; exact ow_ge (by omega))).alloc o3
    rwa [World.size_alloc] at this
  · have := Blk.new (own := ow own w.heap.size B) (k := B) ((w.alloc o1).alloc o2) o3 (by rw [World.size_alloc, World.size_alloc]; exact ow_ge (by omega))
    rwa [World.size_alloc, World.size_alloc] at this
theorem five_col {w : World} {own : Nat → Nat} {k b : Nat} {T : TypeId} {x0 x1 x2 : Value} (h : Blk w own k b (.cells #[x0, x1, x2] T (0, 0))) :
    w.cell? ⟨b, 0, none⟩ = some x0 ∧ w.cell? ⟨b, 1, none⟩ = some x1 ∧ w.cell? ⟨b, 2, none⟩ = some x2 := ⟨h.cell 0, h.cell 1, h.cell 2⟩
set_option maxHeartbeats 4000000 in
theorem does_any (hS : Sched w own k s V) (hR : Ref w own L v R) (hkL : k ≠ L) (hl1 : V.ths.length < 6000000000000) (hl2 : R.ths.length < 6000000000000) (hg : V.good < 600000000000000) (hb : V.bad < 600000000000000)
    (hrg : 0 ≤ R.good ∧ R.good < 600000000000000) (hrb : 0 ≤ R.bad ∧ R.bad < 600000000000000) (kd t key : Int) :
    Calls Try.prog 19 #[.pointer (some ⟨s, 0, none⟩), v, .agg #[.int .i64 kd, .int .i64 t, .int .i64 key]] w (DoPost k s L (doV V kd t key) (doR R kd t key) (doOk V R kd t key) w own) := by
  obtain ⟨sa, sc, ka, kc, rfl⟩ := hR.agg
  obtain ⟨hE, hb1, hb2, hb3⟩ := do_start w own (k + L + 1) (.cells #[.slice sa R.ths.length sc, .slice ka R.ths.length kc, .int .i64 R.most, .int .i64 R.good, .int .i64 R.bad] 35 (0, 0)) (.cells #[.int .i64 kd, .int .i64 t, .int .i64 key] 28 (0, 0)) (.cells #[.slice none 0 0, .slice none 0 0, .int .i64 0, .int .i64 0, .int .i64 0] 35 (0, 0))
  have hBk : k ≠ k + L + 1 := by omega
  have hBL : L ≠ k + L + 1 := by omega
  have hSa := hS.ext (hE (fun _ => False)) (by simp)
  have hRa := hR.ext (hE (fun _ => False)) (by simp)
  have hEa := hE (fun c => c = k)
  generalize k + L + 1 = B at *
  have hS0 := hS
  have hR0 := hR
  clear hE hS hR
  unfold refAgg
  go_enter Try.func19, Try.ntmps19
  generalize hown : ow own w.heap.size B = own1 at *
  clear hown
  by_cases h1 : kd = 1
  · subst h1
    have hV : doV V 1 t key = V.spawn := by simp [doV]
    have hRv : doR R 1 t key = R.spawn := by simp [doR]
    have hok : doOk V R 1 t key = (V.spawnId == R.spawnId && V.spawnErr == R.spawnErr) := by simp [doOk]
    have HV := Lib.hid hV
    have HRV := Lib.hid hRv
    have HOK := Lib.hid hok
    clear hV hRv hok
    go_wp2_with fail
    generalize ((w.alloc (.cells #[.slice sa R.ths.length sc, .slice ka R.ths.length kc, .int .i64 R.most, .int .i64 R.good, .int .i64 R.bad] 35)).alloc (.cells #[.int .i64 1, .int .i64 t, .int .i64 key] 28)).alloc (.cells #[.slice none 0 0, .slice none 0 0, .int .i64 0, .int .i64 0, .int .i64 0] 35) = wa at *
    refine (Spawn_any hSa hl1).mono ?_
    rintro e w2 ⟨rfl, own2, hE2, hS2⟩
    have hb1 := hb1.ext hE2 (fun h => hBk h.symm)
    have hb2 := hb2.ext hE2 (fun h => hBk h.symm)
    have hb3 := hb3.ext hE2 (fun h => hBk h.symm)
    have hR2 := hRa.ext hE2 (fun h => hkL h.symm)
    have hE02 := hEa.trans hE2
    have hn2 := hE02.size
    obtain ⟨c0, c1, c2, c3, c4⟩ := five hb1
    obtain ⟨o0, o1, o2⟩ := five_col hb2
    clear hE2 hEa hRa hSa hS0 hR0
    have HS2 := Lib.hid hS2
    have HE02 := Lib.hid hE02
    have HR2 := Lib.hid hR2
    clear hS2 hE02 hR2
    go_wp2_with fail
    refine (rSpawn_any HR2.out hl2).mono ?_
    rintro e w3 ⟨v', rfl, hR3, hB⟩
    have hE3 : ∀ M, Ext M w2 w3 own2 (ow own2 w2.heap.size L) := fun M => Ext.of_below hB _ _
    have hS3 := HS2.out.ext (hE3 (fun _ => False)) (by simp)
    have hb3 := hb3.ext (hE3 (fun _ => False)) (by simp)
    have hE03 := HE02.out.trans (hE3 (fun c => c = k))
    clear hb1 hb2 HS2 HE02 HR2 hB c0 c1 c2 c3 c4 o0 o1 o2 hE3
    generalize ow own2 w2.heap.size L = own3 at *
    obtain ⟨sa', sc', ka', kc', rfl⟩ := hR3.agg
    have hX := Ext.refl (M := fun _ => False) (w := w3) (own := own3)
    have hX := hX.alloc (.cells #[.slice sa' (R.spawn).ths.length sc', .slice ka' (R.spawn).ths.length kc', .int .i64 (R.spawn).most, .int .i64 (R.spawn).good, .int .i64 (R.spawn).bad] 35)
    have hS4 := hS3.ext hX (by simp)
    have hR4 := hR3.ext hX (by simp)
    have hb4 := hb3.ext hX (by simp)
    have hE4 := hE03.trans (hX.mono (M' := fun c => c = k) (by simp))
    have hEND := do_end (by omega) hBk hBL hE4 hb4 hS4 hR4
    obtain ⟨d0, d1, d2, d3, d4⟩ := five hb4
    obtain ⟨f0, f1, f2, f3, f4⟩ := five_free hb4
    simp only [putCells, Nat.reduceAdd] at hEND
    have HEND := Lib.hid hEND
    clear hEND hX hS3 hS4 hR3 hR4 hb3 hb4 hE03 hE4
    unfold refAgg spawnRes
    go_wp2
    all_goals
      ((try simp only [Exit.inBlock, Exit.then]); refine bodyPost_ret (results_ct rfl _ _ ((w.heap.size + 1 + 1)) 35 _ _ _ rfl (HEND.out.2) Try.underlying35 rfl (by kernel_rfl)) rfl ?_)
      refine HEND.out.1 _ _ _ _ HV.out.symm HRV.out.symm ?_
      first | exact HOK.out.symm | (rw [HOK.out]; simp [*])
  by_cases h2 : kd = 2
  · subst h2
    have hV : doV V 2 t key = V.block t key := by simp [doV]
    have hRv : doR R 2 t key = R.move t 1 2 key := by simp [doR]
    have hok : doOk V R 2 t key = (V.err t 1 == R.moveErr t 1) := by simp [doOk]
    have HV := Lib.hid hV
    have HRV := Lib.hid hRv
    have HOK := Lib.hid hok
    clear hV hRv hok
    go_wp2_with fail
    generalize ((w.alloc (.cells #[.slice sa R.ths.length sc, .slice ka R.ths.length kc, .int .i64 R.most, .int .i64 R.good, .int .i64 R.bad] 35)).alloc (.cells #[.int .i64 2, .int .i64 t, .int .i64 key] 28)).alloc (.cells #[.slice none 0 0, .slice none 0 0, .int .i64 0, .int .i64 0, .int .i64 0] 35) = wa at *
    refine (Block_any hSa t key).mono ?_
    rintro e w2 ⟨rfl, own2, hE2, hS2⟩
    have hb1 := hb1.ext hE2 (fun h => hBk h.symm)
    have hb2 := hb2.ext hE2 (fun h => hBk h.symm)
    have hb3 := hb3.ext hE2 (fun h => hBk h.symm)
    have hR2 := hRa.ext hE2 (fun h => hkL h.symm)
    have hE02 := hEa.trans hE2
    have hn2 := hE02.size
    obtain ⟨c0, c1, c2, c3, c4⟩ := five hb1
    obtain ⟨o0, o1, o2⟩ := five_col hb2
    clear hE2 hEa hRa hSa hS0 hR0
    have HS2 := Lib.hid hS2
    have HE02 := Lib.hid hE02
    have HR2 := Lib.hid hR2
    clear hS2 hE02 hR2
    go_wp2_with fail
    refine (rMove_any HR2.out t 1 2 key).mono ?_
    rintro e w3 ⟨v', rfl, hR3, hB⟩
    have hE3 : ∀ M, Ext M w2 w3 own2 (ow own2 w2.heap.size L) := fun M => Ext.of_below hB _ _
    have hS3 := HS2.out.ext (hE3 (fun _ => False)) (by simp)
    have hb3 := hb3.ext (hE3 (fun _ => False)) (by simp)
    have hE03 := HE02.out.trans (hE3 (fun c => c = k))
    clear hb1 hb2 HS2 HE02 HR2 hB c0 c1 c2 c3 c4 o0 o1 o2 hE3
    generalize ow own2 w2.heap.size L = own3 at *
    obtain ⟨sa', sc', ka', kc', rfl⟩ := hR3.agg
    have hX := Ext.refl (M := fun _ => False) (w := w3) (own := own3)
    have hX := hX.alloc (.cells #[.slice sa' (R.move t 1 2 key).ths.length sc', .slice ka' (R.move t 1 2 key).ths.length kc', .int .i64 (R.move t 1 2 key).most, .int .i64 (R.move t 1 2 key).good, .int .i64 (R.move t 1 2 key).bad] 35)
    have hS4 := hS3.ext hX (by simp)
    have hR4 := hR3.ext hX (by simp)
    have hb4 := hb3.ext hX (by simp)
    have hE4 := hE03.trans (hX.mono (M' := fun c => c = k) (by simp))
    have hEND := do_end (by omega) hBk hBL hE4 hb4 hS4 hR4
    obtain ⟨d0, d1, d2, d3, d4⟩ := five hb4
    obtain ⟨f0, f1, f2, f3, f4⟩ := five_free hb4
    simp only [putCells, Nat.reduceAdd] at hEND
    have HEND := Lib.hid hEND
    clear hEND hX hS3 hS4 hR3 hR4 hb3 hb4 hE03 hE4
    unfold refAgg moveRes
    go_wp2
    all_goals
      ((try simp only [Exit.inBlock, Exit.then]); refine bodyPost_ret (results_ct rfl _ _ ((w.heap.size + 1 + 1)) 35 _ _ _ rfl (HEND.out.2) Try.underlying35 rfl (by kernel_rfl)) rfl ?_)
      refine HEND.out.1 _ _ _ _ HV.out.symm HRV.out.symm ?_
      first | exact HOK.out.symm | (rw [HOK.out]; simp [*])
  by_cases h3 : kd = 3
  · subst h3
    have hV : doV V 3 t key = V.end_ t := by simp [doV]
    have hRv : doR R 3 t key = R.move t 1 3 0 := by simp [doR]
    have hok : doOk V R 3 t key = (V.err t 1 == R.moveErr t 1) := by simp [doOk]
    have HV := Lib.hid hV
    have HRV := Lib.hid hRv
    have HOK := Lib.hid hok
    clear hV hRv hok
    go_wp2_with fail
    generalize ((w.alloc (.cells #[.slice sa R.ths.length sc, .slice ka R.ths.length kc, .int .i64 R.most, .int .i64 R.good, .int .i64 R.bad] 35)).alloc (.cells #[.int .i64 3, .int .i64 t, .int .i64 key] 28)).alloc (.cells #[.slice none 0 0, .slice none 0 0, .int .i64 0, .int .i64 0, .int .i64 0] 35) = wa at *
    refine (End_any hSa t).mono ?_
    rintro e w2 ⟨rfl, own2, hE2, hS2⟩
    have hb1 := hb1.ext hE2 (fun h => hBk h.symm)
    have hb2 := hb2.ext hE2 (fun h => hBk h.symm)
    have hb3 := hb3.ext hE2 (fun h => hBk h.symm)
    have hR2 := hRa.ext hE2 (fun h => hkL h.symm)
    have hE02 := hEa.trans hE2
    have hn2 := hE02.size
    obtain ⟨c0, c1, c2, c3, c4⟩ := five hb1
    obtain ⟨o0, o1, o2⟩ := five_col hb2
    clear hE2 hEa hRa hSa hS0 hR0
    have HS2 := Lib.hid hS2
    have HE02 := Lib.hid hE02
    have HR2 := Lib.hid hR2
    clear hS2 hE02 hR2
    go_wp2_with fail
    refine (rMove_any HR2.out t 1 3 0).mono ?_
    rintro e w3 ⟨v', rfl, hR3, hB⟩
    have hE3 : ∀ M, Ext M w2 w3 own2 (ow own2 w2.heap.size L) := fun M => Ext.of_below hB _ _
    have hS3 := HS2.out.ext (hE3 (fun _ => False)) (by simp)
    have hb3 := hb3.ext (hE3 (fun _ => False)) (by simp)
    have hE03 := HE02.out.trans (hE3 (fun c => c = k))
    clear hb1 hb2 HS2 HE02 HR2 hB c0 c1 c2 c3 c4 o0 o1 o2 hE3
    generalize ow own2 w2.heap.size L = own3 at *
    obtain ⟨sa', sc', ka', kc', rfl⟩ := hR3.agg
    have hX := Ext.refl (M := fun _ => False) (w := w3) (own := own3)
    have hX := hX.alloc (.cells #[.slice sa' (R.move t 1 3 0).ths.length sc', .slice ka' (R.move t 1 3 0).ths.length kc', .int .i64 (R.move t 1 3 0).most, .int .i64 (R.move t 1 3 0).good, .int .i64 (R.move t 1 3 0).bad] 35)
    have hS4 := hS3.ext hX (by simp)
    have hR4 := hR3.ext hX (by simp)
    have hb4 := hb3.ext hX (by simp)
    have hE4 := hE03.trans (hX.mono (M' := fun c => c = k) (by simp))
    have hEND := do_end (by omega) hBk hBL hE4 hb4 hS4 hR4
    obtain ⟨d0, d1, d2, d3, d4⟩ := five hb4
    obtain ⟨f0, f1, f2, f3, f4⟩ := five_free hb4
    simp only [putCells, Nat.reduceAdd] at hEND
    have HEND := Lib.hid hEND
    clear hEND hX hS3 hS4 hR3 hR4 hb3 hb4 hE03 hE4
    unfold refAgg moveRes
    go_wp2
    all_goals
      ((try simp only [Exit.inBlock, Exit.then]); refine bodyPost_ret (results_ct rfl _ _ ((w.heap.size + 1 + 1)) 35 _ _ _ rfl (HEND.out.2) Try.underlying35 rfl (by kernel_rfl)) rfl ?_)
      refine HEND.out.1 _ _ _ _ HV.out.symm HRV.out.symm ?_
      first | exact HOK.out.symm | (rw [HOK.out]; simp [*])
  by_cases h4 : kd = 4
  · subst h4
    have hV : doV V 4 t key = V.free t := by simp [doV]
    have hRv : doR R 4 t key = R.move t 3 0 0 := by simp [doR]
    have hok : doOk V R 4 t key = (V.err t 3 == R.moveErr t 3) := by simp [doOk]
    have HV := Lib.hid hV
    have HRV := Lib.hid hRv
    have HOK := Lib.hid hok
    clear hV hRv hok
    go_wp2_with fail
    generalize ((w.alloc (.cells #[.slice sa R.ths.length sc, .slice ka R.ths.length kc, .int .i64 R.most, .int .i64 R.good, .int .i64 R.bad] 35)).alloc (.cells #[.int .i64 4, .int .i64 t, .int .i64 key] 28)).alloc (.cells #[.slice none 0 0, .slice none 0 0, .int .i64 0, .int .i64 0, .int .i64 0] 35) = wa at *
    refine (SFree_any hSa t).mono ?_
    rintro e w2 ⟨rfl, own2, hE2, hS2⟩
    have hb1 := hb1.ext hE2 (fun h => hBk h.symm)
    have hb2 := hb2.ext hE2 (fun h => hBk h.symm)
    have hb3 := hb3.ext hE2 (fun h => hBk h.symm)
    have hR2 := hRa.ext hE2 (fun h => hkL h.symm)
    have hE02 := hEa.trans hE2
    have hn2 := hE02.size
    obtain ⟨c0, c1, c2, c3, c4⟩ := five hb1
    obtain ⟨o0, o1, o2⟩ := five_col hb2
    clear hE2 hEa hRa hSa hS0 hR0
    have HS2 := Lib.hid hS2
    have HE02 := Lib.hid hE02
    have HR2 := Lib.hid hR2
    clear hS2 hE02 hR2
    go_wp2_with fail
    refine (rMove_any HR2.out t 3 0 0).mono ?_
    rintro e w3 ⟨v', rfl, hR3, hB⟩
    have hE3 : ∀ M, Ext M w2 w3 own2 (ow own2 w2.heap.size L) := fun M => Ext.of_below hB _ _
    have hS3 := HS2.out.ext (hE3 (fun _ => False)) (by simp)
    have hb3 := hb3.ext (hE3 (fun _ => False)) (by simp)
    have hE03 := HE02.out.trans (hE3 (fun c => c = k))
    clear hb1 hb2 HS2 HE02 HR2 hB c0 c1 c2 c3 c4 o0 o1 o2 hE3
    generalize ow own2 w2.heap.size L = own3 at *
    obtain ⟨sa', sc', ka', kc', rfl⟩ := hR3.agg
    have hX := Ext.refl (M := fun _ => False) (w := w3) (own := own3)
    have hX := hX.alloc (.cells #[.slice sa' (R.move t 3 0 0).ths.length sc', .slice ka' (R.move t 3 0 0).ths.length kc', .int .i64 (R.move t 3 0 0).most, .int .i64 (R.move t 3 0 0).good, .int .i64 (R.move t 3 0 0).bad] 35)
    have hS4 := hS3.ext hX (by simp)
    have hR4 := hR3.ext hX (by simp)
    have hb4 := hb3.ext hX (by simp)
    have hE4 := hE03.trans (hX.mono (M' := fun c => c = k) (by simp))
    have hEND := do_end (by omega) hBk hBL hE4 hb4 hS4 hR4
    obtain ⟨d0, d1, d2, d3, d4⟩ := five hb4
    obtain ⟨f0, f1, f2, f3, f4⟩ := five_free hb4
    simp only [putCells, Nat.reduceAdd] at hEND
    have HEND := Lib.hid hEND
    clear hEND hX hS3 hS4 hR3 hR4 hb3 hb4 hE03 hE4
    unfold refAgg moveRes
    go_wp2
    all_goals
      ((try simp only [Exit.inBlock, Exit.then]); refine bodyPost_ret (results_ct rfl _ _ ((w.heap.size + 1 + 1)) 35 _ _ _ rfl (HEND.out.2) Try.underlying35 rfl (by kernel_rfl)) rfl ?_)
      refine HEND.out.1 _ _ _ _ HV.out.symm HRV.out.symm ?_
      first | exact HOK.out.symm | (rw [HOK.out]; simp [*])
  by_cases h5 : kd = 5
  · subst h5
    have hV : doV V 5 t key = V.wake key := by simp [doV]
    have hRv : doR R 5 t key = R.wake key := by simp [doR]
    have hok : doOk V R 5 t key = (V.woken key == R.woken key) := by simp [doOk]
    have HV := Lib.hid hV
    have HRV := Lib.hid hRv
    have HOK := Lib.hid hok
    clear hV hRv hok
    go_wp2_with fail
    generalize ((w.alloc (.cells #[.slice sa R.ths.length sc, .slice ka R.ths.length kc, .int .i64 R.most, .int .i64 R.good, .int .i64 R.bad] 35)).alloc (.cells #[.int .i64 5, .int .i64 t, .int .i64 key] 28)).alloc (.cells #[.slice none 0 0, .slice none 0 0, .int .i64 0, .int .i64 0, .int .i64 0] 35) = wa at *
    refine (Wake_any hSa key).mono ?_
    rintro e w2 ⟨rfl, own2, hE2, hS2⟩
    have hb1 := hb1.ext hE2 (fun h => hBk h.symm)
    have hb2 := hb2.ext hE2 (fun h => hBk h.symm)
    have hb3 := hb3.ext hE2 (fun h => hBk h.symm)
    have hR2 := hRa.ext hE2 (fun h => hkL h.symm)
    have hE02 := hEa.trans hE2
    have hn2 := hE02.size
    obtain ⟨c0, c1, c2, c3, c4⟩ := five hb1
    obtain ⟨o0, o1, o2⟩ := five_col hb2
    clear hE2 hEa hRa hSa hS0 hR0
    have HS2 := Lib.hid hS2
    have HE02 := Lib.hid hE02
    have HR2 := Lib.hid hR2
    clear hS2 hE02 hR2
    go_wp2_with fail
    refine (rWake_any HR2.out key).mono ?_
    rintro e w3 ⟨v', rfl, hR3, hB⟩
    have hE3 : ∀ M, Ext M w2 w3 own2 (ow own2 w2.heap.size L) := fun M => Ext.of_below hB _ _
    have hS3 := HS2.out.ext (hE3 (fun _ => False)) (by simp)
    have hb3 := hb3.ext (hE3 (fun _ => False)) (by simp)
    have hE03 := HE02.out.trans (hE3 (fun c => c = k))
    clear hb1 hb2 HS2 HE02 HR2 hB c0 c1 c2 c3 c4 o0 o1 o2 hE3
    generalize ow own2 w2.heap.size L = own3 at *
    obtain ⟨sa', sc', ka', kc', rfl⟩ := hR3.agg
    have hX := Ext.refl (M := fun _ => False) (w := w3) (own := own3)
    have hX := hX.alloc (.cells #[.slice sa' (R.wake key).ths.length sc', .slice ka' (R.wake key).ths.length kc', .int .i64 (R.wake key).most, .int .i64 (R.wake key).good, .int .i64 (R.wake key).bad] 35)
    have hS4 := hS3.ext hX (by simp)
    have hR4 := hR3.ext hX (by simp)
    have hb4 := hb3.ext hX (by simp)
    have hE4 := hE03.trans (hX.mono (M' := fun c => c = k) (by simp))
    have hEND := do_end (by omega) hBk hBL hE4 hb4 hS4 hR4
    obtain ⟨d0, d1, d2, d3, d4⟩ := five hb4
    obtain ⟨f0, f1, f2, f3, f4⟩ := five_free hb4
    simp only [putCells, Nat.reduceAdd] at hEND
    have HEND := Lib.hid hEND
    clear hEND hX hS3 hS4 hR3 hR4 hb3 hb4 hE03 hE4
    unfold refAgg moveRes
    go_wp2
    all_goals
      ((try simp only [Exit.inBlock, Exit.then]); refine bodyPost_ret (results_ct rfl _ _ ((w.heap.size + 1 + 1)) 35 _ _ _ rfl (HEND.out.2) Try.underlying35 rfl (by kernel_rfl)) rfl ?_)
      refine HEND.out.1 _ _ _ _ HV.out.symm HRV.out.symm ?_
      first | exact HOK.out.symm | (rw [HOK.out]; simp [*])
  by_cases h6 : kd = 6
  · subst h6
    have hV : doV V 6 t key = V.pick t := by simp [doV]
    have HV := Lib.hid hV
    have hRv : doR R 6 t key = if R.state t = 1 then { R with good := R.good + 1 } else { R with bad := R.bad + 1 } := by simp [doR]
    have hok : doOk V R 6 t key = if R.state t = 1 then V.state t == 1 else !(V.state t == 1) := by simp [doOk]
    have HRV := Lib.hid hRv
    have HOK := Lib.hid hok
    clear hV hRv hok
    go_wp2_with fail
    generalize ((w.alloc (.cells #[.slice sa R.ths.length sc, .slice ka R.ths.length kc, .int .i64 R.most, .int .i64 R.good, .int .i64 R.bad] 35)).alloc (.cells #[.int .i64 6, .int .i64 t, .int .i64 key] 28)).alloc (.cells #[.slice none 0 0, .slice none 0 0, .int .i64 0, .int .i64 0, .int .i64 0] 35) = wa at *
    refine (Pick_any hSa hg hb t).mono ?_
    rintro e w2 ⟨rfl, own2, hE2, hS2⟩
    have hb1 := hb1.ext hE2 (fun h => hBk h.symm)
    have hb2 := hb2.ext hE2 (fun h => hBk h.symm)
    have hb3 := hb3.ext hE2 (fun h => hBk h.symm)
    have hR2 := hRa.ext hE2 (fun h => hkL h.symm)
    have hE02 := hEa.trans hE2
    have hn2 := hE02.size
    obtain ⟨c0, c1, c2, c3, c4⟩ := five hb1
    obtain ⟨o0, o1, o2⟩ := five_col hb2
    clear hE2 hEa hRa hSa hS0 hR0
    have HS2 := Lib.hid hS2
    have HE02 := Lib.hid hE02
    have HR2 := Lib.hid hR2
    clear hS2 hE02 hR2
    go_wp2_with fail
    refine (rState_any HR2.out t).mono ?_
    rintro e w3 ⟨rfl, hB⟩
    have hE3 : ∀ M, Ext M w2 w3 own2 (ow own2 w2.heap.size L) := fun M => Ext.of_below hB _ _
    have hS3 := HS2.out.ext (hE3 (fun _ => False)) (by simp)
    have hR3 := HR2.out.ext (hE3 (fun _ => False)) (by simp)
    have hb1 := hb1.ext (hE3 (fun _ => False)) (by simp)
    have hb3 := hb3.ext (hE3 (fun _ => False)) (by simp)
    have hE03 := HE02.out.trans (hE3 (fun c => c = k))
    clear hb2 HS2 HE02 HR2 hB c0 c1 c2 c3 c4 o0 o1 o2 hE3
    generalize ow own2 w2.heap.size L = own3 at *
    have hn3 := hE03.size
    have hne : w.heap.size + 1 + 1 ≠ w.heap.size := by omega
    by_cases hst : R.state t = 1
    · rw [hst]
      rw [hst, if_pos rfl] at HRV HOK
      have hX := Ext.refl.setCell (M := fun c => c = B) (w := w3) (own := own3) (a := ⟨w.heap.size, 3, none⟩) (fun _ => hb1.col) (.int .i64 (R.good + 1))
      have hb1' : Blk (w3.setCell ⟨w.heap.size, 3, none⟩ (.int .i64 (R.good + 1))) own3 B w.heap.size (.cells #[.slice sa R.ths.length sc, .slice ka R.ths.length kc, .int .i64 R.most, .int .i64 (R.good + 1), .int .i64 R.bad] 35 (0, 0)) := hb1.setCell 3 _
      have hb3' := hb3.setCell_other (a := ⟨w.heap.size, 3, none⟩) hne (.int .i64 (R.good + 1))
      have hS4 := hS3.ext hX (by intro h; exact hBk h)
      have hR4 : Ref (w3.setCell ⟨w.heap.size, 3, none⟩ (.int .i64 (R.good + 1))) own3 L (refAgg (.slice sa R.ths.length sc) (.slice ka R.ths.length kc) { R with good := R.good + 1 }) { R with good := R.good + 1 } := by
        obtain ⟨r1, r2⟩ := (hR3.ext hX (by intro h; exact hBL h)).rows
        exact ⟨hR3.1, _, _, rfl, r1, r2⟩
      have hE4 : Ext (fun c => c = k) w (w3.setCell ⟨w.heap.size, 3, none⟩ (.int .i64 (R.good + 1))) own own3 := hE03.setCell (fun h => absurd h (by simp)) _
      have hEND := do_end (by omega) hBk hBL hE4 hb3' hS4 hR4
      obtain ⟨c0, c1, c2, c3, c4⟩ := five hb1
      have f3' := hb1.free 3
      obtain ⟨y0, y1, y2, y3, y4⟩ := five hb1'
      obtain ⟨d0, d1, d2, d3, d4⟩ := five hb3'
      obtain ⟨f0, f1, f2, f3, f4⟩ := five_free hb3'
      simp only [putCells, Nat.reduceAdd] at hEND
      have HEND := Lib.hid hEND
      clear hEND hX hS3 hS4 hR3 hR4 hb1 hb3 hb1' hb3' hE03 hE4
      go_wp2
      all_goals
        ((try simp only [Exit.inBlock, Exit.then]); refine bodyPost_ret (results_ct rfl _ _ ((w.heap.size + 1 + 1)) 35 _ _ _ rfl (HEND.out.2) Try.underlying35 rfl (by kernel_rfl)) rfl ?_)
        refine HEND.out.1 _ _ _ _ HV.out.symm HRV.out.symm ?_
        first | exact HOK.out.symm | (rw [HOK.out]; simp [*])
    · have b1 : (R.state t == 1) = false := by simp [hst]
      rw [if_neg hst] at HRV HOK
      clear hst
      generalize R.state t = st at *
      have hX := Ext.refl.setCell (M := fun c => c = B) (w := w3) (own := own3) (a := ⟨w.heap.size, 4, none⟩) (fun _ => hb1.col) (.int .i64 (R.bad + 1))
      have hb1' : Blk (w3.setCell ⟨w.heap.size, 4, none⟩ (.int .i64 (R.bad + 1))) own3 B w.heap.size (.cells #[.slice sa R.ths.length sc, .slice ka R.ths.length kc, .int .i64 R.most, .int .i64 R.good, .int .i64 (R.bad + 1)] 35 (0, 0)) := hb1.setCell 4 _
      have hb3' := hb3.setCell_other (a := ⟨w.heap.size, 4, none⟩) hne (.int .i64 (R.bad + 1))
      have hS4 := hS3.ext hX (by intro h; exact hBk h)
      have hR4 : Ref (w3.setCell ⟨w.heap.size, 4, none⟩ (.int .i64 (R.bad + 1))) own3 L (refAgg (.slice sa R.ths.length sc) (.slice ka R.ths.length kc) { R with bad := R.bad + 1 }) { R with bad := R.bad + 1 } := by
        obtain ⟨r1, r2⟩ := (hR3.ext hX (by intro h; exact hBL h)).rows
        exact ⟨hR3.1, _, _, rfl, r1, r2⟩
      have hE4 : Ext (fun c => c = k) w (w3.setCell ⟨w.heap.size, 4, none⟩ (.int .i64 (R.bad + 1))) own own3 := hE03.setCell (fun h => absurd h (by simp)) _
      have hEND := do_end (by omega) hBk hBL hE4 hb3' hS4 hR4
      obtain ⟨c0, c1, c2, c3, c4⟩ := five hb1
      have f3' := hb1.free 4
      obtain ⟨y0, y1, y2, y3, y4⟩ := five hb1'
      obtain ⟨d0, d1, d2, d3, d4⟩ := five hb3'
      obtain ⟨f0, f1, f2, f3, f4⟩ := five_free hb3'
      simp only [putCells, Nat.reduceAdd] at hEND
      have HEND := Lib.hid hEND
      clear hEND hX hS3 hS4 hR3 hR4 hb1 hb3 hb1' hb3' hE03 hE4
      go_wp2
      all_goals
        ((try simp only [Exit.inBlock, Exit.then]); refine bodyPost_ret (results_ct rfl _ _ ((w.heap.size + 1 + 1)) 35 _ _ _ rfl (HEND.out.2) Try.underlying35 rfl (by kernel_rfl)) rfl ?_)
        refine HEND.out.1 _ _ _ _ HV.out.symm HRV.out.symm ?_
        first | exact HOK.out.symm | (rw [HOK.out]; simp [*])
  · have hV : doV V kd t key = V := by simp [doV, h1, h2, h3, h4, h5, h6]
    have hRv : doR R kd t key = R := by simp [doR, h1, h2, h3, h4, h5, h6]
    have hok : doOk V R kd t key = true := by simp [doOk, h1, h2, h3, h4, h5, h6]
    obtain ⟨hE', _, _, hb3'⟩ := do_start w own B (.cells #[.slice sa R.ths.length sc, .slice ka R.ths.length kc, .int .i64 R.most, .int .i64 R.good, .int .i64 R.bad] 35 (0, 0)) (.cells #[.int .i64 kd, .int .i64 t, .int .i64 key] 28 (0, 0)) (.cells #[.slice sa R.ths.length sc, .slice ka R.ths.length kc, .int .i64 R.most, .int .i64 R.good, .int .i64 R.bad] 35 (0, 0))
    have hp : DoPost k s L (doV V kd t key) (doR R kd t key) (doOk V R kd t key) w own (.returned (.tuple #[refAgg (.slice sa R.ths.length sc) (.slice ka R.ths.length kc) R, .bool true])) (((w.alloc (.cells #[.slice sa R.ths.length sc, .slice ka R.ths.length kc, .int .i64 R.most, .int .i64 R.good, .int .i64 R.bad] 35)).alloc (.cells #[.int .i64 kd, .int .i64 t, .int .i64 key] 28)).alloc (.cells #[.slice sa R.ths.length sc, .slice ka R.ths.length kc, .int .i64 R.most, .int .i64 R.good, .int .i64 R.bad] 35)) := by
      rw [hV, hRv, hok]
      exact ⟨_, _, rfl, hE' _, hS0.ext (hE' (fun _ => False)) (by simp), hR0.ext (hE' (fun _ => False)) (by simp)⟩
    have HEND := Lib.hid (And.intro hp hb3'.at_)
    have b1 : (kd == 1) = false := by simp [h1]
    have b2 : (kd == 2) = false := by simp [h2]
    have b3 : (kd == 3) = false := by simp [h3]
    have b4 : (kd == 4) = false := by simp [h4]
    have b5 : (kd == 5) = false := by simp [h5]
    have b6 : (kd == 6) = false := by simp [h6]
    clear hV hRv hok hp hE' hb3' h1 h2 h3 h4 h5 h6 hEa hb1 hb2 hb3 hSa hRa hS0 hR0
    go_wp2
    ((try simp only [Exit.inBlock, Exit.then]); refine bodyPost_ret (results_ct rfl _ _ ((w.heap.size + 1 + 1)) 35 _ _ _ rfl (HEND.out.2) Try.underlying35 rfl (by kernel_rfl)) rfl ?_)
    exact HEND.out.1
end
end Go.Proofs.Ytemibcglhbjaoaa
