/- SchedPlays: whoever is made, blocked, woken, ended, freed and picked, a scheduler answers as the document says. -/
import Derived.Test.YtemibcglhbjaoaaSchedPure
import Derived.Test.YtemibcglhbjaoaaPlan2
import Derived.Deep.LoopGhost
set_option maxRecDepth 20000
set_option linter.unusedVariables false
set_option linter.unusedSimpArgs false
namespace Go.Proofs.Ytemibcglhbjaoaa
open Go.RowKit Go.PM

/-! ### plain facts: the scheduler and the document's go alike -/
def Sim (p q : Int × Int) : Prop := p.1 = q.1 ∧ (p.1 = 2 → p.2 = q.2)
def SimL : List (Int × Int) → List (Int × Int) → Prop
  | [], [] => True
  | x :: l, y :: m => Sim x y ∧ SimL l m
  | _, _ => False
theorem SimL.len : ∀ {l m : List (Int × Int)}, SimL l m → l.length = m.length
  | [], [], _ => rfl
  | x :: l, y :: m, h => by simp [SimL.len h.2]
  | [], _ :: _, h => h.elim
  | _ :: _, [], h => h.elim
theorem SimL.get : ∀ {l m : List (Int × Int)}, SimL l m → ∀ (i : Nat) (h1 : i < l.length) (h2 : i < m.length), Sim l[i] m[i]
  | x :: l, y :: m, h, 0, _, _ => h.1
  | x :: l, y :: m, h, i + 1, h1, h2 => SimL.get h.2 i (by simpa using h1) (by simpa using h2)
theorem SimL.set : ∀ {l m : List (Int × Int)}, SimL l m → ∀ (i : Nat) {p q : Int × Int}, Sim p q → SimL (l.set i p) (m.set i q)
  | [], [], h, _, _, _, _ => h
  | x :: l, y :: m, h, 0, _, _, hp => ⟨hp, h.2⟩
  | x :: l, y :: m, h, i + 1, _, _, hp => ⟨h.1, SimL.set h.2 i hp⟩
theorem SimL.append : ∀ {l m : List (Int × Int)}, SimL l m → ∀ {p q : Int × Int}, Sim p q → SimL (l ++ [p]) (m ++ [q])
  | [], [], _, _, _, hp => ⟨hp, trivial⟩
  | x :: l, y :: m, h, _, _, hp => ⟨h.1, SimL.append h.2 hp⟩
theorem Sim.wakes {p q : Int × Int} (h : Sim p q) (key : Int) : wakes key p = wakes key q := by
  obtain ⟨h1, h2⟩ := h
  unfold Go.Proofs.Ytemibcglhbjaoaa.wakes
  rw [← h1]
  by_cases hp : p.1 = 2
  · rw [h2 hp]
  · have : (p.1 == 2) = false := by simp [hp]
    rw [this]
    rfl
theorem SimL.wake : ∀ {l m : List (Int × Int)}, SimL l m → ∀ key : Int, SimL (l.map fun p => if wakes key p then (1, p.2) else p) (m.map fun p => if wakes key p then (1, 0) else p)
  | [], [], h, _ => h
  | x :: l, y :: m, h, key => by
    refine ⟨?_, SimL.wake h.2 key⟩
    show Sim (if Go.Proofs.Ytemibcglhbjaoaa.wakes key x = true then (1, x.2) else x) (if Go.Proofs.Ytemibcglhbjaoaa.wakes key y = true then (1, 0) else y)
    rw [← h.1.wakes key]
    split
    · exact ⟨rfl, by simp⟩
    · exact h.1
theorem SimL.count : ∀ {l m : List (Int × Int)}, SimL l m → ∀ {q : Int × Int → Bool}, (∀ x y, Sim x y → q x = q y) → (l.filter q).length = (m.filter q).length
  | [], [], _, _, _ => rfl
  | x :: l, y :: m, h, q, hq => by
    simp only [List.filter_cons, hq x y h.1]
    have := SimL.count h.2 hq
    split <;> simp [this]
theorem SimL.ready : ∀ {l m : List (Int × Int)}, SimL l m → ∀ i, readyFrom l i = readyFrom m i
  | [], [], _, _ => rfl
  | x :: l, y :: m, h, i => by
    simp only [readyFrom, h.1.1, SimL.ready h.2 (i + 1)]
/-- The scheduler is as the document's. -/
structure Rel (V : SV) (R : RV) : Prop where
  ths : ∃ l, V.ths = (0, 0) :: l ∧ SimL l R.ths
  most : V.most = R.most
  good : V.good = R.good
  bad : V.bad = R.bad
section
variable {V : SV} {R : RV}
theorem Rel.len (h : Rel V R) : V.ths.length = R.ths.length + 1 := by
  obtain ⟨l, hl, hs⟩ := h.ths
  rw [hl, List.length_cons, hs.len]
theorem Rel.state (h : Rel V R) (t : Int) : V.state t = R.state t := by
  have hlen := h.len
  obtain ⟨l, hl, hs⟩ := h.ths
  unfold SV.state RV.state
  by_cases ht : t < 1
  · rw [if_pos (.inl ht), if_pos (.inl ht)]
  · by_cases ht2 : (R.ths.length : Int) < t
    · rw [if_pos (.inr (by omega)), if_pos (.inr ht2)]
    · rw [if_neg (by omega), if_neg (by omega)]
      obtain ⟨i, rfl⟩ : ∃ i : Nat, t = (i : Int) + 1 := ⟨(t - 1).toNat, by omega⟩
      have h1 : ((i : Int) + 1).toNat = i + 1 := by omega
      have h2 : ((i : Int) + 1 - 1).toNat = i := by omega
      have hi : i < R.ths.length := by omega
      have hi2 : i < l.length := by rw [hs.len]; exact hi
      rw [h1, h2, hl]
      simp only [List.getD_cons_succ]
      rw [List.getD_eq_getElem?_getD, List.getD_eq_getElem?_getD, List.getElem?_eq_getElem hi, List.getElem?_eq_getElem hi2]
      exact (hs.get i hi2 hi).1
theorem Rel.err (h : Rel V R) (t fr : Int) : V.err t fr = R.moveErr t fr := by
  unfold SV.err RV.moveErr
  rw [h.state]
theorem Rel.put (h : Rel V R) {t : Int} (ht : 1 ≤ t) {p q : Int × Int} (hp : Sim p q) : Rel (V.put t p) (R.put t q) := by
  obtain ⟨l, hl, hs⟩ := h.ths
  obtain ⟨i, rfl⟩ : ∃ i : Nat, t = (i : Int) + 1 := ⟨(t - 1).toNat, by omega⟩
  have h1 : ((i : Int) + 1).toNat = i + 1 := by omega
  have h2 : ((i : Int) + 1 - 1).toNat = i := by omega
  refine ⟨⟨l.set i p, ?_, ?_⟩, h.most, h.good, h.bad⟩
  · simp only [SV.put, hl, h1, List.set_cons_succ]
  · simp only [RV.put, h2]
    exact hs.set i hp
theorem Rel.live (h : Rel V R) : V.live = R.live := by
  obtain ⟨l, hl, hs⟩ := h.ths
  have := hs.count (q := fun p => p.1 != 0) (fun x y hxy => by simp only [hxy.1])
  simp only [SV.live, RV.live, hl, List.filter_cons]
  simp [this]
theorem Rel.woken (h : Rel V R) (key : Int) : V.woken key = R.woken key := by
  obtain ⟨l, hl, hs⟩ := h.ths
  have := hs.count (q := wakes key) (fun x y hxy => hxy.wakes key)
  simp only [SV.woken, RV.woken, hl, List.filter_cons]
  have h0 : wakes key (0, 0) = false := by simp [wakes]
  simp [this, h0]
theorem Rel.ready (h : Rel V R) : V.ready = R.ready := by
  obtain ⟨l, hl, hs⟩ := h.ths
  simp only [SV.ready, RV.ready, hl, readyFrom]
  rw [if_neg (by decide)]
  exact hs.ready 1
theorem Rel.does (h : Rel V R) (kd t key : Int) : doOk V R kd t key = true ∧ Rel (doV V kd t key) (doR R kd t key) := by
  have hlv := h.live
  have hse : V.spawnErr = R.spawnErr := by simp only [SV.spawnErr, RV.spawnErr, h.most, hlv]
  have hsi : V.spawnId = R.spawnId := by
    simp only [SV.spawnId, RV.spawnId, hse, h.len]
    split <;> omega
  refine ⟨?_, ?_⟩
  · unfold doOk
    rw [hsi, hse, h.err, h.err, h.woken, h.state]
    repeat' split
    all_goals simp_all
  · unfold doV doR
    by_cases h1 : kd = 1
    · rw [if_pos h1, if_pos h1]
      unfold SV.spawn RV.spawn
      rw [hse]
      split
      · obtain ⟨l, hl, hs⟩ := h.ths
        exact ⟨⟨l ++ [(1, 0)], by simp [hl], hs.append ⟨rfl, fun _ => rfl⟩⟩, h.most, h.good, h.bad⟩
      · exact h
    rw [if_neg h1, if_neg h1]
    by_cases h2 : kd = 2
    · rw [if_pos h2, if_pos h2]
      unfold SV.block RV.move
      rw [← h.err]
      split
      · rename_i he
        exact h.put (SV.err_pos he).1 ⟨rfl, fun _ => rfl⟩
      · exact h
    rw [if_neg h2, if_neg h2]
    by_cases h3 : kd = 3
    · rw [if_pos h3, if_pos h3]
      unfold SV.end_ RV.move
      rw [← h.err]
      split
      · rename_i he
        exact h.put (SV.err_pos he).1 ⟨rfl, fun h => absurd h (by simp)⟩
      · exact h
    rw [if_neg h3, if_neg h3]
    by_cases h4 : kd = 4
    · rw [if_pos h4, if_pos h4]
      unfold SV.free RV.move
      rw [← h.err]
      split
      · rename_i he
        exact h.put (SV.err_pos he).1 ⟨rfl, fun h => absurd h (by simp)⟩
      · exact h
    rw [if_neg h4, if_neg h4]
    by_cases h5 : kd = 5
    · rw [if_pos h5, if_pos h5]
      obtain ⟨l, hl, hs⟩ := h.ths
      refine ⟨⟨l.map fun p => if wakes key p then (1, p.2) else p, ?_, hs.wake key⟩, h.most, h.good, h.bad⟩
      simp [SV.wake, hl, wakes]
    rw [if_neg h5, if_neg h5]
    by_cases h6 : kd = 6
    · rw [if_pos h6, if_pos h6]
      unfold SV.pick
      rw [h.state]
      split
      · exact ⟨h.ths, h.most, by simp [h.good], h.bad⟩
      · exact ⟨h.ths, h.most, h.good, by simp [h.bad]⟩
    rw [if_neg h6, if_neg h6]
    exact h
theorem Rel.fresh (most : Int) : Rel (SV.fresh most) (RV.fresh most) := ⟨⟨[], rfl, trivial⟩, rfl, rfl, rfl⟩
end

/-! ### the walk -/
def PlInv (w0 : World) (s mb N : Nat) (g : Nat) (iv : Value) (w : World) : Prop :=
  ∃ (own : Nat → Nat) (i : Nat) (V : SV) (R : RV) (sa : Option Addr) (sc : Nat) (ka : Option Addr) (kc : Nat), iv = .int .i64 i ∧ i + g = N ∧ V.ths.length ≤ i + 1 ∧ V.good ≤ i ∧ V.bad ≤ i ∧ Rel V R ∧ Sched w own 1 s V ∧
    Ref w own 5 (refAgg (.slice sa R.ths.length sc) (.slice ka R.ths.length kc) R) R ∧
    Blk w own 2 mb (.cells #[.slice sa R.ths.length sc, .slice ka R.ths.length kc, .int .i64 R.most, .int .i64 R.good, .int .i64 R.bad] 35 (0, 0)) ∧ Ext (fun c => c ≠ 0) w0 w (fun _ => 0) own
/-- The list that was answered is spoilt, element by element. -/
def ClrInv (w1 : World) (own1 : Nat → Nat) (gb n : Nat) (g : Nat) (iv : Value) (w : World) : Prop :=
  ∃ i : Nat, iv = .int .i64 i ∧ i + g = n ∧ Ext (fun c => c = 3) w1 w own1 own1 ∧ (0 < n → ∃ cur, Blk w own1 3 gb (.cells cur 3 (0, 0)) ∧ n ≤ cur.size)
set_option maxHeartbeats 4000000 in
theorem schedPlays_walk (w : World) (most : Int) (hmost : -9223372036854775808 ≤ most ∧ most ≤ 9223372036854775807) (v : Value) (n b off : Nat) (f : Nat → Nat → Int) (hp : Recs Try.prog 22 3 w v n b off f) :
    Calls Try.prog 11 #[.int .i64 most, v] w fun e w' => e = .returned (.bool true) ∧ Below w.heap.size w w' := by
  obtain ⟨i0, hi0, hz0, hs0, hz2⟩ := info_parts info_int
  have hlen := hp.len
  have hidx := hp.idx
  have hsz := hp.size
  go_enter Try.func11, Try.ntmps11
  go_wp2_with fail
  refine (SNew_any most 1 (fun _ => 0) w).mono ?_
  rintro e w1 ⟨rfl, hB, hA⟩
  have h01 : Ext (fun c => c ≠ 0) w w1 (fun _ => 0) (ow (fun _ => 0) w.heap.size 1) := Ext.of_below hB _ _
  generalize ow (fun _ => 0) w.heap.size 1 = own1 at *
  generalize w.heap.size + 1 = s at *
  have H := Lib.hid h01
  clear h01 hB
  go_wp2_with fail
  refine (salive_any w1).mono ?_
  rintro e w2 ⟨rfl, hB⟩
  have h12 : Ext (fun c => c ≠ 0) w1 w2 own1 (ow own1 w1.heap.size 2) := Ext.of_below hB _ _
  have hA2 := hA.ext (M := fun _ => False) (Ext.of_below hB _ 2) (by simp)
  have H2 := Lib.hid (H.out.trans h12)
  generalize ow own1 w1.heap.size 2 = own2 at *
  clear h12 hB hA H
  go_wp2_with fail
  refine (rNew_any most w2 own2 5).mono ?_
  rintro e w3 ⟨v', rfl, hR, hB⟩
  obtain ⟨sa, sc, ka, kc, rfl⟩ := hR.agg
  have hE3 : ∀ M, Ext M w2 w3 own2 (ow own2 w2.heap.size 5) := fun M => Ext.of_below hB _ _
  have hA3 := hA2.ext (hE3 (fun _ => False)) (by simp)
  have hX : ∀ M, Ext M w3 (w3.alloc (.cells #[.slice sa (RV.fresh most).ths.length sc, .slice ka (RV.fresh most).ths.length kc, .int .i64 (RV.fresh most).most, .int .i64 (RV.fresh most).good, .int .i64 (RV.fresh most).bad] 35)) (ow own2 w2.heap.size 5) (ow (ow own2 w2.heap.size 5) w3.heap.size 2) := fun M => (Ext.refl.ow 2).alloc _
  have hinv : PlInv w s w3.heap.size n n (.int .i64 0) (w3.alloc (.cells #[.slice sa (RV.fresh most).ths.length sc, .slice ka (RV.fresh most).ths.length kc, .int .i64 (RV.fresh most).most, .int .i64 (RV.fresh most).good, .int .i64 (RV.fresh most).bad] 35)) :=
    ⟨_, 0, SV.fresh most, RV.fresh most, sa, sc, ka, kc, rfl, by omega, by simp [SV.fresh], by simp [SV.fresh], by simp [SV.fresh], Rel.fresh most, hA3.ext (hX (fun _ => False)) (by simp), hR.ext (hX (fun _ => False)) (by simp),
      Blk.new w3 _ (ow_ge (Nat.le_refl _)), (H2.out.trans (hE3 _)).trans (hX _)⟩
  have HINV := Lib.hid hinv
  unfold refAgg
  clear hinv hX hA3 hE3 hB hR H2 hA2
  simp only [id_eq]
  go_wp2_with fail
  generalize hmb : w3.heap.size = mb at *
  clear hmb
  go_loopg [27] n (fun g iv wr => PlInv w s mb n g iv wr)
  case atStart => exact HINV.out
  case round =>
    clear HINV
    obtain ⟨own, i, V, R, sa, sc, ka, kc, rfl, hi, hl, hg, hbd, hrel, hA, hR, hbx, hE⟩ := hrel
    have HE := Lib.hid hE
    have HREL := Lib.hid hrel
    have hRl := hrel.len
    have hrg := hrel.good
    have hrb := hrel.bad
    have hokg := hA.ok.good
    have hokb := hA.ok.bad
    clear hE hrel
    by_cases hlt : i < n
    · have hlt2 : (i : Int) < n := by omega
      have c0 := hp.at_ (HE.out.below (by simp)) hlt (show 0 < 3 by omega)
      have c1 := hp.at_ (HE.out.below (by simp)) hlt (show 1 < 3 by omega)
      have c2 := hp.at_ (HE.out.below (by simp)) hlt (show 2 < 3 by omega)
      rw [Nat.add_zero] at c0
      generalize f i 0 = kd at *
      generalize f i 1 = t at *
      generalize f i 2 = k2 at *
      have hX : ∀ M, Ext M wr (wr.alloc (.cells #[.int .i64 kd, .int .i64 t, .int .i64 k2] 28)) own (ow own wr.heap.size 2) := fun M => (Ext.refl.ow 2).alloc _
      have hob : Blk (wr.alloc (.cells #[.int .i64 kd, .int .i64 t, .int .i64 k2] 28)) (ow own wr.heap.size 2) 2 wr.heap.size (.cells #[.int .i64 kd, .int .i64 t, .int .i64 k2] 28 (0, 0)) := Blk.new wr _ (ow_ge (Nat.le_refl _))
      have hne : mb ≠ wr.heap.size := Nat.ne_of_lt hbx.lt
      have hA' := hA.ext (hX (fun _ => False)) (by simp)
      have hR' := hR.ext (hX (fun _ => False)) (by simp)
      have hbx' := hbx.ext (hX (fun _ => False)) (by simp)
      have HE' := Lib.hid (HE.out.trans (hX _))
      obtain ⟨b0, b1, b2, b3, b4⟩ := five hbx'
      clear hA hR hbx HE hX
      go_wp2_with fail
      clear b0 b1 b2 b3 b4
      generalize hob2 : wr.heap.size = ob at *
      generalize wr.alloc (.cells #[.int .i64 kd, .int .i64 t, .int .i64 k2] 28) = wa at *
      generalize ow own ob 2 = own2 at *
      refine (does_any hA' hR' (by decide) (by omega) (by omega) (by omega) (by omega) (by omega) (by omega) kd t k2).mono ?_
      rintro e w4 ⟨v', own4, rfl, hE4, hA4, hR4⟩
      obtain ⟨hok, hrel4⟩ := HREL.out.does kd t k2
      rw [hok]
      have hd1 := doV_len V kd t k2
      have hd2 := doV_good V kd t k2
      have hbx4 := hbx'.ext hE4 (by simp)
      have hob4 := hob.ext hE4 (by simp)
      have HE4 := Lib.hid (HE'.out.trans (hE4.mono (M' := fun c => c ≠ 0) (by simp)))
      generalize doV V kd t k2 = V4 at *
      generalize doR R kd t k2 = R4 at *
      have HREL4 := Lib.hid hrel4
      clear hE4 HE' hob hA' hR' hbx' HREL hok hrel4 c0 c1 c2
      obtain ⟨sa', sc', ka', kc', rfl⟩ := hR4.agg
      have hX : ∀ M, Ext M w4 (w4.alloc (.cells #[.slice sa' R4.ths.length sc', .slice ka' R4.ths.length kc', .int .i64 R4.most, .int .i64 R4.good, .int .i64 R4.bad] 35)) own4 own4 := fun M => Ext.refl.alloc _
      have hA5 := hA4.ext (hX (fun _ => False)) (by simp)
      have hR5 := hR4.ext (hX (fun _ => False)) (by simp)
      have hbx5 := hbx4.ext (hX (fun _ => False)) (by simp)
      have hob5 := hob4.ext (hX (fun _ => False)) (by simp)
      have HE5 := Lib.hid (HE4.out.trans (hX _))
      have h2 : Ext (fun c => c = 2) (w4.alloc (.cells #[.slice sa' R4.ths.length sc', .slice ka' R4.ths.length kc', .int .i64 R4.most, .int .i64 R4.good, .int .i64 R4.bad] 35)) (putCells (w4.alloc (.cells #[.slice sa' R4.ths.length sc', .slice ka' R4.ths.length kc', .int .i64 R4.most, .int .i64 R4.good, .int .i64 R4.bad] 35)) mb 0 [.slice sa' R4.ths.length sc', .slice ka' R4.ths.length kc', .int .i64 R4.most, .int .i64 R4.good, .int .i64 R4.bad]) own4 own4 := Ext.putCells (fun _ => hbx5.col) _ _ _ Ext.refl
      have hA6 := hA5.ext h2 (by simp)
      have hR6 := hR5.ext h2 (by simp)
      have hbx6 := hbx5.putCells (cs := [.slice sa R.ths.length sc, .slice ka R.ths.length kc, .int .i64 R.most, .int .i64 R.good, .int .i64 R.bad]) (vs := [.slice sa' R4.ths.length sc', .slice ka' R4.ths.length kc', .int .i64 R4.most, .int .i64 R4.good, .int .i64 R4.bad]) rfl
      have hob6 := Blk.putCells_other (Ne.symm hne) [.slice sa' R4.ths.length sc', .slice ka' R4.ths.length kc', .int .i64 R4.most, .int .i64 R4.good, .int .i64 R4.bad] _ 0 hob5
      have HE6 := Lib.hid (HE5.out.trans (h2.mono (by simp)))
      obtain ⟨p0, p1, p2, p3, p4⟩ := five hbx5
      obtain ⟨q0, q1, q2, q3, q4⟩ := five_free hbx5
      simp only [putCells, Nat.reduceAdd] at hA6 hR6 hbx6 hob6 HE6
      clear h2 hX hA4 hR4 hA5 hR5 hbx4 hob4 hbx5 hob5 HE4 HE5
      unfold refAgg
      have HA6 := Lib.hid hA6
      have HR6 := Lib.hid hR6
      have HBX6 := Lib.hid hbx6
      have HOB6 := Lib.hid hob6
      clear hA6 hR6 hbx6 hob6
      go_wp2_with fail
      generalize (((((w4.alloc (.cells #[.slice sa' R4.ths.length sc', .slice ka' R4.ths.length kc', .int .i64 R4.most, .int .i64 R4.good, .int .i64 R4.bad] 35)).setCell ⟨mb, 0, none⟩ (.slice sa' R4.ths.length sc')).setCell ⟨mb, 1, none⟩ (.slice ka' R4.ths.length kc')).setCell ⟨mb, 2, none⟩ (.int .i64 R4.most)).setCell ⟨mb, 3, none⟩ (.int .i64 R4.good)).setCell ⟨mb, 4, none⟩ (.int .i64 R4.bad) = w5 at *
      clear p0 p1 p2 p3 p4 q0 q1 q2 q3 q4
      have hrg4 := HREL4.out.good
      have hrb4 := HREL4.out.bad
      refine (Counts_any HA6.out).mono ?_
      rintro e w6 ⟨rfl, nd, rfl⟩
      have hN : ∀ M, Ext M w5 (w5.drewN nd) own4 own4 := fun M => Ext.refl.drewN nd
      have HA7 := Lib.hid (HA6.out.ext (hN (fun _ => False)) (by simp))
      have HR7 := Lib.hid (HR6.out.ext (hN (fun _ => False)) (by simp))
      have HBX7 := Lib.hid (HBX6.out.ext (hN (fun _ => False)) (by simp))
      have HOB7 := Lib.hid (HOB6.out.ext (hN (fun _ => False)) (by simp))
      have HE7 := Lib.hid (HE6.out.trans (hN _))
      clear HA6 HR6 HBX6 HOB6 HE6 hN
      generalize w5.drewN nd = w7 at *
      go_wp2_with fail
      refine (Ready_any HA7.out 3).mono ?_
      rintro e w8 ⟨rv, rfl, hrow, hB⟩
      have hN : ∀ M, Ext M w7 w8 own4 (ow own4 w7.heap.size 3) := fun M => Ext.of_below hB _ _
      have HA8 := Lib.hid (HA7.out.ext (hN (fun _ => False)) (by simp))
      have HR8 := Lib.hid (HR7.out.ext (hN (fun _ => False)) (by simp))
      have HBX8 := Lib.hid (HBX7.out.ext (hN (fun _ => False)) (by simp))
      have HOB8 := Lib.hid (HOB7.out.ext (hN (fun _ => False)) (by simp))
      have HE8 := Lib.hid (HE7.out.trans (hN _))
      rw [HREL4.out.ready] at hrow
      have HROW := Lib.hid hrow
      clear HA7 HR7 HBX7 HOB7 HE7 hN hB hrow
      generalize ow own4 w7.heap.size 3 = own8 at *
      have hrl : R4.ready.length ≤ R4.ths.length := readyFrom_length _ _
      have hR4l := HREL4.out.len
      go_wp2_with fail
      obtain ⟨p0, p1, p2, p3, p4⟩ := five HBX8.out
      obtain ⟨o0, o1, o2⟩ := five_col HOB8.out
      have bg : (V4.good != R4.good) = false := by simp [hrg4]
      have bb : (V4.bad != R4.bad) = false := by simp [hrb4]
      refine wp_region_plan2 [(true, 0, [1, 2, 3, 4, 5, 6, 7, 8, 9, 10, 11, 12, 13, 14, 15, 16, 17, 18, 19, 20, 21, 22, 23, 24, 25, 26, 27, 28, 29, 30, 31]), (true, 1, [2, 3, 4, 5, 6, 7, 8, 9, 10, 11, 12, 13, 14, 15, 16, 17, 18, 19, 20, 21, 22, 23, 24, 25, 26, 27, 28, 29, 30, 31]), (true, 2, [3, 4, 5, 6, 7, 8, 9, 10, 11, 12, 13, 14, 15, 16, 17, 18, 19, 20, 21, 22, 23, 24, 25, 26, 27, 28, 29, 30, 31]), (true, 3, [6, 7, 8, 9, 10, 11, 12, 13, 14, 15, 16, 17, 18, 19, 20, 21, 22, 23, 24, 25, 26, 27, 28, 29, 30, 31]), (true, 4, [5, 6, 7, 8, 9, 10, 11, 12, 13, 14, 15, 16, 17, 18, 19, 20, 21, 22, 23, 24, 25, 26, 27, 28, 29, 30, 31]), (true, 5, [6, 7, 8, 9, 10, 11, 12, 13, 14, 15, 16, 17, 18, 19, 20, 21, 22, 23, 24, 25, 26, 27, 28, 29, 30, 31]), (true, 6, [7, 8, 9, 10, 11, 12, 13, 14, 15, 16, 17, 18, 19, 20, 21, 22, 23, 24, 25, 26, 27, 28, 29, 30, 31]), (true, 7, [8, 9, 10, 11, 12, 13, 14, 15, 16, 17, 18, 19, 20, 21, 22, 23, 24, 25, 26, 27, 28, 29, 30, 31]), (true, 8, [9, 10, 11, 12, 13, 14, 15, 16, 17, 18, 19, 20, 21, 22, 23, 24, 25, 26, 27, 28, 29, 30, 31]), (true, 9, [12, 13, 14, 15, 16, 17, 18, 19, 20, 21, 22, 23, 24, 25, 26, 27, 28, 29, 30, 31]), (true, 10, [11, 12, 13, 14, 15, 16, 17, 18, 19, 20, 21, 22, 23, 24, 25, 26, 27, 28, 29, 30, 31]), (true, 11, [12, 13, 14, 15, 16, 17, 18, 19, 20, 21, 22, 23, 24, 25, 26, 27, 28, 29, 30, 31]), (true, 12, [13, 14, 15, 16, 17, 18, 19, 20, 21, 22, 23, 24, 25, 26, 27, 28, 29, 30, 31]), (true, 13, [14, 15, 16, 17, 18, 19, 20, 21, 22, 23, 24, 25, 26, 27, 28, 29, 30, 31]), (true, 14, [15, 16, 17, 18, 19, 20, 21, 22, 23, 24, 25, 26, 27, 28, 29, 30, 31]), (true, 15, [18, 22, 23, 24, 25, 26, 27, 28, 29, 30, 31]), (true, 16, [17, 18, 22, 23, 24, 25, 26, 27, 28, 29, 30, 31]), (true, 17, [18, 22, 23, 24, 25, 26, 27, 28, 29, 30, 31]), (true, 18, [22, 23, 24, 25, 26, 27, 28, 29, 30, 31]), (true, 19, [22, 23, 24, 25, 26, 27, 28, 29, 30, 31]), (true, 20, [21, 22, 23, 24, 25, 26, 27, 28, 29, 30, 31]), (true, 21, [22, 23, 24, 25, 26, 27, 28, 29, 30, 31]), (false, 22, []), (true, 23, [24, 25, 26, 27, 28, 29, 30, 31]), (true, 24, [25, 26, 27, 28, 29, 30, 31]), (true, 25, [26, 27, 28, 29, 30, 31]), (true, 26, [29, 30, 31]), (true, 27, [28, 29, 30, 31]), (false, 28, []), (false, 29, []), (true, 30, [31]), (true, 31, [])] (by kernel_rfl) (by kernel_rfl) (fun _ _ _ d _ h => by cases d <;> exact h) ?_
      have hD : ∀ M, Ext M w8 w8.drew own8 own8 := fun M => Ext.refl.drew
      have HA9 := Lib.hid (HA8.out.ext (hD (fun _ => False)) (by simp))
      have HR9 := Lib.hid (HR8.out.ext (hD (fun _ => False)) (by simp))
      have HROW9 := Lib.hid (HROW.out.ext (hD (fun _ => False)) (by simp))
      have HE9 := Lib.hid (HE8.out.trans (hD _))
      have HST9 := Lib.hid ((State_any HA9.out t).mono fun e w' (h : e = .returned (.int .i64 (V4.state t)) ∧ w8.drew = w') => (⟨h.1, h.2.symm⟩ : e = .returned (.int .i64 (V4.state t)) ∧ w' = w8.drew))
      have bs : (V4.state t != R4.state t) = false := by simp [HREL4.out.state t]
      clear HA8 HR8 HROW HE8 hD
      iterate 18 (refine plan_early rfl ?_; still_step; refine wpStill_nil ?_)
      refine plan_early rfl ?_
      still_call HST9.out
      refine wpStill_nil ?_
      iterate 3 (refine plan_early rfl ?_; still_step; refine wpStill_nil ?_)
      refine plan_big rfl ?_
      go_wp2_with fail
      refine (rState_any HR9.out t).mono ?_
      rintro e w10 ⟨rfl, hB⟩
      have hN : ∀ M, Ext M w8.drew w10 own8 (ow own8 w8.drew.heap.size 5) := fun M => Ext.of_below hB _ _
      have HBX10 := Lib.hid ((HBX8.out.drew).ext (hN (fun _ => False)) (by simp))
      have HA10 := Lib.hid (HA9.out.ext (hN (fun _ => False)) (by simp))
      have HR10 := Lib.hid (HR9.out.ext (hN (fun _ => False)) (by simp))
      have HROW10 := Lib.hid (HROW9.out.ext (hN (fun _ => False)) (by simp))
      have HE10 := Lib.hid (HE9.out.trans (hN _))
      clear HA9 HR9 HROW9 HE9 HST9 hN hB HBX8 HOB8 p0 p1 p2 p3 p4 o0 o1 o2
      generalize ow own8 w8.drew.heap.size 5 = own10 at *
      obtain ⟨p0, p1, p2, p3, p4⟩ := five HBX10.out
      go_wp2_with fail
      iterate 5 (refine plan_early rfl ?_; still_step; refine wpStill_nil ?_)
      refine plan_big rfl ?_
      go_wp2_with fail
      refine (rReady_any HR10.out 4).mono ?_
      rintro e w11 ⟨rv2, rfl, hrow2, hB⟩
      have hN : ∀ M, Ext M w10 w11 own10 (ow own10 w10.heap.size 4) := fun M => Ext.of_below hB _ _
      have HBX11 := Lib.hid (HBX10.out.ext (hN (fun _ => False)) (by simp))
      have HA11 := Lib.hid (HA10.out.ext (hN (fun _ => False)) (by simp))
      have HR11 := Lib.hid (HR10.out.ext (hN (fun _ => False)) (by simp))
      have HROW11 := Lib.hid (HROW10.out.ext (hN (fun _ => False)) (by simp))
      have HE11 := Lib.hid (HE10.out.trans (hN _))
      obtain ⟨rb1, hI1⟩ := Ints.of_row Try.underlying26 hi0 hs0 HROW11.out
      obtain ⟨rb2, hI2⟩ := Ints.of_row Try.underlying26 hi0 hs0 hrow2
      have hsm := SameInts_any hI1 hI2 (by omega)
      simp only [decide_true] at hsm
      have HSM := Lib.hid hsm
      clear HBX10 HA10 HR10 HROW10 HE10 hN hB hrow2 hsm hI1 hI2 p0 p1 p2 p3 p4
      generalize ow own10 w10.heap.size 4 = own11 at *
      go_wp2_with fail
      refine plan_big rfl ?_
      go_wp2_with fail
      refine HSM.out.mono ?_
      rintro e w12 ⟨rfl, nd2, rfl⟩
      have hN : ∀ M, Ext M w11 (w11.drewN nd2) own11 own11 := fun M => Ext.refl.drewN nd2
      have HBX12 := Lib.hid (HBX11.out.ext (hN (fun _ => False)) (by simp))
      have HA12 := Lib.hid (HA11.out.ext (hN (fun _ => False)) (by simp))
      have HR12 := Lib.hid (HR11.out.ext (hN (fun _ => False)) (by simp))
      have HROW12 := Lib.hid (HROW11.out.ext (hN (fun _ => False)) (by simp))
      have HE12 := Lib.hid (HE11.out.trans (hN _))
      clear HBX11 HA11 HR11 HROW11 HE11 hN HSM
      generalize w11.drewN nd2 = w12 at *
      go_wp2_with fail
      iterate 2 (refine plan_early rfl ?_; still_step; refine wpStill_nil ?_)
      refine plan_nil ?_
      obtain ⟨ra, rc, rfl⟩ := HROW12.out.shape
      have hclr : ∃ gb, (0 < R4.ready.length → ra = some ⟨gb, 0, none⟩) ∧ ClrInv w12 own11 gb R4.ready.length R4.ready.length (.int .i64 0) w12 := by
        by_cases h0 : 0 < R4.ready.length
        · obtain ⟨gb, cap, cur, hv, hb, h1, h2, _⟩ := HROW12.out.cells h0
          injection hv with hv1
          exact ⟨gb, fun _ => hv1, 0, rfl, by omega, Ext.refl, fun _ => ⟨cur, hb, by rw [h2]; omega⟩⟩
        · exact ⟨0, fun h => absurd h h0, 0, rfl, by omega, Ext.refl, fun h => absurd h h0⟩
      obtain ⟨gb, hra, hclr⟩ := hclr
      have HRA := Lib.hid hra
      have HCLR := Lib.hid hclr
      clear hra hclr
      go_wp2_with fail
      go_loopg [80] R4.ready.length (fun g iv wx => ClrInv w12 own11 gb R4.ready.length g iv wx)
      case atStart => exact HCLR.out
      case round =>
        clear HCLR
        obtain ⟨j, rfl, hj, hEc, hcur⟩ := hrel
        have HEC := Lib.hid hEc
        clear hEc
        by_cases hjl : j < R4.ready.length
        · have hjl2 : (j : Int) < R4.ready.length := by omega
          have hra := HRA.out (by omega)
          subst hra
          obtain ⟨cur, hb, hsz3⟩ := hcur (by omega)
          obtain ⟨u, hu⟩ : ∃ u, cur[j]? = some u := ⟨_, Array.getElem?_eq_getElem (show j < cur.size by omega)⟩
          have hc := hb.cell j
          rw [hu] at hc
          have hf := hb.free j
          have hb2 := hb.setCell j (.int .i64 (-1))
          have HB2 := Lib.hid hb2
          have HEC2 := Lib.hid (HEC.out.setCell (a := ⟨gb, j, none⟩) (fun _ => hb.col) (.int .i64 (-1)))
          clear hb hb2 hu HEC
          go_wp2_with fail
          go_roundg (R4.ready.length - (j + 1))
          case measure => omega
          case rel => exact ⟨j + 1, by go_num, by omega, HEC2.out, fun _ => ⟨_, HB2.out, by simpa using hsz3⟩⟩
        · obtain rfl : j = R4.ready.length := by omega
          have HA13 := Lib.hid (HA12.out.ext HEC.out (by simp))
          have HR13 := Lib.hid (HR12.out.ext HEC.out (by simp))
          have HBX13 := Lib.hid (HBX12.out.ext HEC.out (by simp))
          have HE13 := Lib.hid (HE12.out.trans (HEC.out.mono (by simp)))
          go_wp2_with fail
          go_roundg (n - (i + 1))
          case measure => omega
          case rel => exact ⟨own11, i + 1, V4, R4, sa', sc', ka', kc', by go_num, by omega, by omega, by omega, by omega, HREL4.out, HA13.out, HR13.out, HBX13.out, HE13.out⟩
    · obtain rfl : i = n := by omega
      go_wp2_with fail
      go_ret
      exact ⟨rfl, HE.out.below (by simp)⟩
end Go.Proofs.Ytemibcglhbjaoaa
