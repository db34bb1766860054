/- Layer 4: Sweep: what waits and isn't held is freed, in order. -/
import Derived.Test.YtefhngbeodnldaaEpoch
set_option maxRecDepth 20000
set_option linter.unusedVariables false
set_option linter.unusedSimpArgs false
namespace Go.PM
open Go.RowKit
variable {P : Program}
/-- 'clear(s)', s a slice of n > 0 elements of some cells each. -/
theorem run_clear_rows (w : World) (t e ty : TypeId) (z : Value) (ht : P.underlying t = some (.slice e)) (hv : ∀ w, (zeroValue e).run P w = .ok z w) (h1 : ∀ v ∈ z.cells, v.oneCell' = true) (g o n c : Nat) (hn : 0 < n)
    (cur : Array Value) (hg : w.heap[g]? = some (.cells cur e (0, 0))) (hb : o + n * z.cells.size ≤ cur.size) (hz : 0 < z.cells.size) :
    (Builtin.clear_ #[t] ty #[.slice (some ⟨g, o, none⟩) n c]).run P w = .ok (.tuple #[]) (w.setRow g (cur.toList.take o ++ (Builtin.zeroCells z.cells n).toList ++ cur.toList.drop (o + n * z.cells.size)).toArray) := by
  have hl : (Builtin.zeroCells z.cells n).toList.length = n * z.cells.size := by rw [Array.length_toList, size_zeroCells]
  have hone : ∀ v ∈ (Builtin.zeroCells z.cells n).toList, v.oneCell' = true := by
    intro v hv
    unfold Builtin.zeroCells at hv
    simp only [Array.toList_map, List.mem_map] at hv
    obtain ⟨j, _, rfl⟩ := hv
    have hlt : j % z.cells.size < z.cells.size := Nat.mod_lt _ hz
    exact h1 _ (by rw [getElem!_pos z.cells _ hlt]; exact Array.getElem_mem hlt)
  have hst := run_storeCells_at (P := P) g o e (Builtin.zeroCells z.cells n).toList 0 cur w hg (by rw [hl]; omega) hone
  simp only [Nat.add_zero, hl] at hst
  obtain ⟨m, rfl⟩ : ∃ m, n = m + 1 := ⟨n - 1, by omega⟩
  simp [Builtin.clear_, run_underlying ht, hv, hst]
end Go.PM
namespace Go.Proofs.Ytefhngbeodnldaa
open Go.RowKit Go.PM

theorem flat_cons (x : Int × Int × Int) (l : List (Int × Int × Int)) : flat (x :: l) = .int .i64 x.1 :: .int .i64 x.2.1 :: .int .i64 x.2.2 :: flat l := by simp [flat, wt]
theorem flat_set (l : List (Int × Int × Int)) : ∀ (i : Nat) (p : Int × Int × Int), i < l.length →
    (((flat l).set (i * 3) (.int .i64 p.1)).set (i * 3 + 1) (.int .i64 p.2.1)).set (i * 3 + 2) (.int .i64 p.2.2) = flat (l.set i p) := by
  induction l with
  | nil => intro i p hi; simp at hi
  | cons x l ih =>
    intro i p hi
    cases i with
    | zero => simp [flat_cons]
    | succ i =>
      have h := ih i p (by simpa using hi)
      have e1 : (i + 1) * 3 = i * 3 + 1 + 1 + 1 := by omega
      have e2 : i * 3 + 1 + 1 + 1 + 2 = (i * 3 + 2) + 1 + 1 + 1 := by omega
      have e3 : i * 3 + 1 + 1 + 1 + 1 = (i * 3 + 1) + 1 + 1 + 1 := rfl
      rw [List.set_cons_succ, flat_cons, flat_cons, e1, e2]
      simp only [List.set_cons_succ]
      rw [h]
theorem Row.flat_set {w : World} {own : Nat → Nat} {k : Nat} {E : TypeId} {g n c : Nat} {l : List (Int × Int × Int)} (h : Row w own k E 3 (.slice (some ⟨g, 0, none⟩) n c) n (flat l)) (hn : l.length = n) {i : Nat} (hi : i < n) (p : Int × Int × Int) :
    Row (((w.setCell ⟨g, i * 3, none⟩ (.int .i64 p.1)).setCell ⟨g, i * 3 + 1, none⟩ (.int .i64 p.2.1)).setCell ⟨g, i * 3 + 2, none⟩ (.int .i64 p.2.2)) own k E 3 (.slice (some ⟨g, 0, none⟩) n c) n (flat (l.set i p)) := by
  obtain ⟨h1, h2 | ⟨g', cap, cur, hv, hb, hnc, hc, hs, ht⟩⟩ := h
  · cases h2.1
  · injection hv with hv1 _ hv2
    injection hv1 with hv1
    injection hv1 with hv1
    subst hv1
    subst hv2
    refine ⟨by rw [flat_len, List.length_set, hn], .inr ⟨g, c, _, rfl, ((hb.setCell (i * 3) _).setCell (i * 3 + 1) _).setCell (i * 3 + 2) _, hnc, hc, by simpa using hs, ?_⟩⟩
    rw [Array.toList_setIfInBounds, Array.toList_setIfInBounds, Array.toList_setIfInBounds, List.take_set, List.take_set, List.take_set, ht]
    exact Go.Proofs.Ytefhngbeodnldaa.flat_set l i p (by omega)
/-- What a Sweep makes of the arena at one that waits. -/
def dropV (Y : YV) (V : AV) (p : Int × Int × Int) : AV := if Y.held p then V else V.free p.1
def keptL (Y : YV) (l : List (Int × Int × Int)) : List (Int × Int × Int) := l.filter Y.held
section
variable {w : World} {own : Nat → Nat} {ka ky kc y a bx : Nat} {V : AV} {Y : YV} {ev lv : Value}
theorem dropV_faults (p : Int × Int × Int) : (dropV Y V p).faults ≤ V.faults + 1 := by
  unfold dropV
  split
  · omega
  · unfold AV.free
    split
    · show V.faults + 1 ≤ _; omega
    · show V.faults ≤ _; omega
set_option maxHeartbeats 1000000 in
theorem Sweep1_any (hA : Arena w own ka a V) (hY : Yard w own ky y a Y ev lv) (hc : w.cell? ⟨bx, 0, none⟩ = some (.pointer (some ⟨y, 0, none⟩))) (hbx : bx < w.heap.size) (hf : V.faults < 1000000000000000) (p : Int × Int × Int) :
    Calls Try.prog 58 #[.agg #[.int .i64 p.1, .int .i64 p.2.1, .int .i64 p.2.2], .pointer (some ⟨bx, 0, none⟩)] w fun e w' =>
      ∃ own', e = .returned (.bool (!Y.held p)) ∧ Ext (fun c => c = ka) w w' own own' ∧ Arena w' own' ka a (dropV Y V p) := by
  have hX : ∀ M, Ext M w (w.alloc (.cells #[.int .i64 p.1, .int .i64 p.2.1, .int .i64 p.2.2] 104)) own (ow own w.heap.size (ka + ky + 1)) := fun M => (Ext.refl.ow _).alloc _
  have hb := Blk.new (own := ow own w.heap.size (ka + ky + 1)) (k := ka + ky + 1) w (.cells #[.int .i64 p.1, .int .i64 p.2.1, .int .i64 p.2.2] 104) (ow_ge (Nat.le_refl _))
  have hA1 := hA.ext (hX (fun _ => False)) (by simp)
  have hY1 := hY.ext (hX (fun _ => False)) (by simp)
  have HX := Lib.hid (hX (fun c => c = ka))
  have HH := Lib.hid (held_any hY1 p)
  have hlt := hY.box.lt
  clear hX hA hY
  go_enter Try.func58, Try.ntmps58
  go_wp2_with fail
  refine HH.out.mono ?_
  rintro e w1 ⟨rfl, hB⟩
  have hE1 : ∀ M, Ext M (w.alloc (.cells #[.int .i64 p.1, .int .i64 p.2.1, .int .i64 p.2.2] 104)) w1 (ow own w.heap.size (ka + ky + 1)) (ow (ow own w.heap.size (ka + ky + 1)) (w.alloc (.cells #[.int .i64 p.1, .int .i64 p.2.1, .int .i64 p.2.2] 104)).heap.size 0) := fun M => Ext.of_below hB _ _
  have hA2 := hA1.ext (hE1 (fun _ => False)) (by simp)
  have hY2 := hY1.ext (hE1 (fun _ => False)) (by simp)
  have hb2 := hb.ext (hE1 (fun _ => False)) (by simp)
  have hc2 : w1.cell? ⟨bx, 0, none⟩ = some (.pointer (some ⟨y, 0, none⟩)) := by
    rw [← hc]
    simp only [World.cell?, hB.block bx (by simp; omega), heap_alloc_old w _ hbx]
  have HX2 := Lib.hid (HX.out.trans (hE1 _))
  generalize ow (ow own w.heap.size (ka + ky + 1)) (w.alloc (.cells #[.int .i64 p.1, .int .i64 p.2.1, .int .i64 p.2.2] 104)).heap.size 0 = own2 at *
  clear hE1 hB hA1 hY1 hb hc HX HH
  generalize w.heap.size = n at *
  rcases Bool.eq_false_or_eq_true (Y.held p) with hh | hh
  · have HV := Lib.hid (show dropV Y V p = V by unfold dropV; rw [if_pos hh])
    clear hb2 hY2
    go_wp2_with fail
    go_ret
    exact ⟨own2, by rw [hh]; rfl, HX2.out, by rw [HV.out]; exact hA2⟩
  · have HV := Lib.hid (show dropV Y V p = V.free p.1 by unfold dropV; rw [if_neg (by rw [hh]; decide)])
    obtain ⟨c0, c1, c2, c3, c4⟩ := five_y hY2.box
    have b0 := hb2.cell 0
    have b1 := hb2.cell 1
    have b2 := hb2.cell 2
    simp only [List.getElem?_toArray, List.getElem?_cons_zero, List.getElem?_cons_succ] at b0 b1 b2
    have HA := Lib.hid hA2
    clear hb2 hY2 hA2
    go_wp2_with fail
    refine wp_region_plan2 [(true, 0, [1, 2, 3, 6]), (true, 1, [2, 3, 6]), (true, 2, [3, 6]), (true, 3, [6]), (true, 4, [5, 6]), (true, 5, [6]), (false, 6, [])] (by kernel_rfl) (by kernel_rfl) (fun _ _ _ d _ h => by cases d <;> exact h) ?_
    iterate 6 (refine plan_early rfl ?_; still_step; refine wpStill_nil ?_)
    have HA3 := Lib.hid (HA.out.ext (M := fun _ => False) (Ext.refl.drew) (by simp))
    have HX3 := Lib.hid (HX2.out.drew)
    clear HA HX2
    generalize w1.drew = w3 at *
    refine plan_big rfl ?_
    go_wp2_with fail
    refine (Free_any HA3.out hf p.1).mono ?_
    rintro e w4 ⟨rfl, own4, hE4, hA4⟩
    go_wp2_with fail
    refine plan_nil ?_
    go_wp2_with fail
    go_ret
    exact ⟨own4, by rw [hh]; rfl, HX3.out.trans hE4, by rw [HV.out]; exact hA4⟩
def dropsV (Y : YV) (V : AV) (l : List (Int × Int × Int)) : AV := l.foldl (dropV Y) V
theorem dropsV_snoc (Y : YV) (V : AV) (l : List (Int × Int × Int)) (p : Int × Int × Int) : dropsV Y V (l ++ [p]) = dropV Y (dropsV Y V l) p := by simp [dropsV]
theorem dropsV_kept (Y : YV) (V : AV) (l : List (Int × Int × Int)) (h : ∀ p ∈ l, Y.held p = true) : dropsV Y V l = V := by
  induction l with
  | nil => rfl
  | cons x l ih =>
    show dropsV Y (dropV Y V x) l = V
    have : dropV Y V x = V := by unfold dropV; rw [if_pos (h x (by simp))]
    rw [this]
    exact ih (fun p hp => h p (by simp [hp]))
theorem dropsV_faults (Y : YV) (l : List (Int × Int × Int)) : ∀ V : AV, (dropsV Y V l).faults ≤ V.faults + l.length := by
  induction l with
  | nil => intro V; simp [dropsV]
  | cons x l ih =>
    intro V
    have h1 := ih (dropV Y V x)
    have h2 := dropV_faults (Y := Y) (V := V) x
    show (dropsV Y (dropV Y V x) l).faults ≤ _
    simp only [List.length_cons]
    omega
def IwInv (w0 : World) (own0 : Nat → Nat) (ka a : Nat) (V : AV) (Y : YV) (l : List (Int × Int × Int)) (g : Nat) (iv : Value) (w : World) : Prop :=
  ∃ (own : Nat → Nat) (i : Nat), iv = .int .i64 i ∧ i + g = l.length ∧ (∀ j (hj : j < l.length), j < i → Y.held l[j] = true) ∧ Arena w own ka a V ∧ Ext (fun c => c = ka) w0 w own0 own
def IwPost (w : World) (own : Nat → Nat) (ka a : Nat) (V : AV) (Y : YV) (l : List (Int × Int × Int)) (e : Ending) (w' : World) : Prop :=
  ∃ own', Ext (fun c => c = ka) w w' own own' ∧ ((∃ (i : Nat) (hi : i < l.length), Y.held l[i] = false ∧ (∀ j (hj : j < l.length), j < i → Y.held l[j] = true) ∧ e = .returned (.int .i64 i) ∧ Arena w' own' ka a (dropV Y V l[i])) ∨
    ((∀ j (hj : j < l.length), Y.held l[j] = true) ∧ e = .returned (.int .i64 (-1)) ∧ Arena w' own' ka a V))
set_option maxHeartbeats 1000000 in
theorem IndexW_any (hA : Arena w own ka a V) (hY : Yard w own ky y a Y ev lv) (hcap : Blk w own kc bx (.cells #[.pointer (some ⟨y, 0, none⟩)] 29 (0, 0))) (hka : ka ≠ ky) (hkc : kc ≠ ka) (hf : V.faults < 1000000000000000) (hn : Y.limbo.length ≤ 4000000000000) :
    Calls Try.prog 64 #[lv, .func (.func 58) #[] #[.pointer (some ⟨bx, 0, none⟩)]] w (IwPost w own ka a V Y Y.limbo) := by
  have HR := Lib.hid hY.lim
  obtain ⟨ra, rc, rfl⟩ := hY.lim.shape
  have HY := Lib.hid hY
  have HC := Lib.hid hcap
  clear hY hcap
  generalize hl : Y.limbo = l at *
  go_enter Try.func64, Try.ntmps64
  go_wp2_with fail
  go_loopg [8] l.length (fun g iv wr => IwInv w own ka a V Y l g iv wr)
  case atStart => exact ⟨own, 0, rfl, by omega, fun j hj h => by omega, hA, Ext.refl⟩
  case round =>
    clear hA
    obtain ⟨own1, i, rfl, hi, hb, hA, hE⟩ := hrel
    have HE := Lib.hid hE
    have HBE := Lib.hid hb
    clear hE hb
    by_cases hlt : i < l.length
    · have hlt2 : (i : Int) < l.length := by omega
      obtain ⟨g, rfl, hg, _, d0, d1, d2⟩ := Row.flat_cells (HR.out.ext HE.out (fun h => hka h.symm)) hlt
      have hc1 := HC.out.ext HE.out hkc
      have HS := Lib.hid (Sweep1_any (bx := bx) hA (HY.out.ext HE.out (fun h => hka h.symm)) (hc1.cell 0) hc1.lt hf l[i])
      have HIX := Lib.hid (show ∃ x, x = l[i] from ⟨_, rfl⟩)
      obtain ⟨p, hp⟩ := HIX.out
      have HP := Lib.hid hp
      rw [← hp] at d0 d1 d2 HS
      clear hc1 hA hp HIX
      go_wp2_with fail
      refine HS.out.mono ?_
      rintro e w1 ⟨own2, rfl, hE2, hA2⟩
      have HE2 := Lib.hid (HE.out.trans hE2)
      clear hE2 d0 d1 d2 HS
      rcases Bool.eq_false_or_eq_true (Y.held p) with hh | hh
      · have HH := Lib.hid hh
        have HV := Lib.hid (show dropV Y V p = V by unfold dropV; rw [if_pos hh])
        rw [HV.out] at hA2
        go_wp2_with fail
        go_roundg (l.length - (i + 1))
        case measure => omega
        case rel =>
          refine ⟨own2, i + 1, by go_num, by omega, fun j hj h => ?_, hA2, HE2.out⟩
          by_cases hji : j = i
          · subst hji; rw [← HP.out]; exact HH.out
          · exact HBE.out j hj (by omega)
      · have HH := Lib.hid hh
        go_wp2_with fail
        go_ret
        exact ⟨own2, HE2.out, .inl ⟨i, hlt, by rw [← HP.out]; exact HH.out, fun j hj h => HBE.out j hj h, rfl, by rw [← HP.out]; exact hA2⟩⟩
    · obtain rfl : i = l.length := by omega
      go_wp2_with fail
      go_ret
      exact ⟨own1, HE.out, .inr ⟨fun j hj => HBE.out j hj hj, rfl, hA⟩⟩
theorem Ext.setRow {M : Nat → Prop} {w0 w' : World} {own0 own' : Nat → Nat} (h : Ext M w0 w' own0 own') {g : Nat} (hm : g < w0.heap.size → M (own0 g)) (cs : Array Value) : Ext M w0 (w'.setRow g cs) own0 own' :=
  ⟨h.os, h.tape, h.output, by simpa using h.size, h.col, fun b hb hn => by
    rw [setRow_other w' g b cs (fun e => hn (by subst e; exact hm hb))]; exact h.same b hb hn⟩
theorem Blk.setRow_other {o : Obj} {b g : Nat} (h : Blk w own ky b o) (hb : b ≠ g) (cs : Array Value) : Blk (w.setRow g cs) own ky b o :=
  ⟨by rw [Go.setRow_other w g b cs hb]; exact h.at_, h.col⟩
theorem flat_take (l : List (Int × Int × Int)) : ∀ i : Nat, (flat l).take (i * 3) = flat (l.take i) := by
  induction l with
  | nil => intro i; simp [flat]
  | cons x l ih =>
    intro i
    cases i with
    | zero => simp [flat]
    | succ i =>
      have e1 : (i + 1) * 3 = i * 3 + 1 + 1 + 1 := by omega
      rw [List.take_succ_cons, flat_cons, flat_cons, e1]
      simp only [List.take_succ_cons]
      rw [ih]
theorem Row.flat_free {E : TypeId} {g n c : Nat} {l : List (Int × Int × Int)} (h : Row w own ky E 3 (.slice (some ⟨g, 0, none⟩) n c) n (flat l)) (q : Nat) : w.frozen? ⟨g, q, none⟩ = false := by
  obtain ⟨_, h2 | ⟨g', cap, cur, hv, hb, _⟩⟩ := h
  · cases h2.1
  · injection hv with hv1
    injection hv1 with hv1
    injection hv1 with hv1
    subst hv1
    exact hb.free q
theorem keptL_snoc (Y : YV) (l : List (Int × Int × Int)) (p : Int × Int × Int) : keptL Y (l ++ [p]) = keptL Y l ++ (if Y.held p then [p] else []) := by
  unfold keptL
  rw [List.filter_append]
  by_cases h : Y.held p = true
  · simp [List.filter_cons, h]
  · simp [List.filter_cons, h]
def DelInv (w0 : World) (own0 : Nat → Nat) (ka ky y a : Nat) (V : AV) (Y : YV) (l : List (Int × Int × Int)) (ev : Value) (g cap : Nat) (gk : Nat) (iv jv : Value) (w : World) : Prop :=
  ∃ (own : Nat → Nat) (i j : Nat) (m : List (Int × Int × Int)), iv = .int .i64 i ∧ jv = .int .i64 j ∧ j + gk = l.length ∧ i = (keptL Y (l.take j)).length ∧ i < j ∧ m.length = l.length ∧ m.take i = keptL Y (l.take j) ∧ m.drop j = l.drop j ∧
    Arena w own ka a (dropsV Y V (l.take j)) ∧ Yard w own ky y a { Y with limbo := m } ev (.slice (some ⟨g, 0, none⟩) l.length cap) ∧ Ext (fun c => c = ka ∨ c = ky) w0 w own0 own
def DelPost (w : World) (own : Nat → Nat) (ka ky y a : Nat) (V : AV) (Y : YV) (ev lv : Value) (e : Ending) (w' : World) : Prop :=
  ∃ v' own', e = .returned v' ∧ Ext (fun c => c = ka ∨ c = ky) w w' own own' ∧ Arena w' own' ka a (dropsV Y V Y.limbo) ∧
    Blk w' own' ky y (.cells #[.pointer (some ⟨a, 0, none⟩), .int .i64 Y.bound, .int .i64 Y.now, ev, lv] 86 (0, 0)) ∧ Row w' own' ky 3 1 ev Y.ent.length (irow Y.ent) ∧
    Row w' own' ky 104 3 v' (keptL Y Y.limbo).length (flat (keptL Y Y.limbo))
/-- The array's rest is cleared. -/
theorem clear_post {cap : Nat} {g i : Nat} {m : List (Int × Int × Int)} (hY : Yard w own ky y a { Y with limbo := m } ev (.slice (some ⟨g, 0, none⟩) m.length cap)) (hi : i < m.length) :
    ∃ w', (∀ ty, (Builtin.clear_ #[84] ty #[.slice (some ⟨g, i * 3, none⟩) (m.length - i) (cap - i)]).run Try.prog w = .ok (.tuple #[]) w') ∧ Ext (fun c => c = ky) w w' own own ∧
      Blk w' own ky y (.cells #[.pointer (some ⟨a, 0, none⟩), .int .i64 Y.bound, .int .i64 Y.now, ev, .slice (some ⟨g, 0, none⟩) m.length cap] 86 (0, 0)) ∧ Row w' own ky 3 1 ev Y.ent.length (irow Y.ent) ∧
      Row w' own ky 104 3 (.slice (some ⟨g, 0, none⟩) i cap) i (flat (m.take i)) ∧ cap ≠ i ∧ i ≤ cap := by
  obtain ⟨h1, h2 | ⟨g', cap', cur, hv, hb, hnc, hcm, hcs, htk⟩⟩ := hY.lim
  · cases h2.1
  · injection hv with hv1 _ hv2
    injection hv1 with hv1
    injection hv1 with hv1
    subst hv1
    subst hv2
    have hnc : m.length ≤ cap := hnc
    have hcs : cur.size = cap * 3 := hcs
    have htk : cur.toList.take (m.length * 3) = flat m := htk
    have hz : ∀ w, (zeroValue 104).run Try.prog w = .ok (.agg #[.int .i64 0, .int .i64 0, .int .i64 0]) w := fun w => by kernel_rfl
    have hmul : m.length * 3 ≤ cap * 3 := Nat.mul_le_mul_right 3 hnc
    have hsplit : i * 3 + (m.length - i) * 3 = m.length * 3 := by rw [← Nat.add_mul]; congr 1; omega
    have hrun := fun ty => run_clear_rows (P := Try.prog) w 84 104 ty (.agg #[.int .i64 0, .int .i64 0, .int .i64 0]) Try.underlying84 hz (by intro v hv; simp [Value.cells] at hv; rw [hv]; rfl) g (i * 3) (m.length - i) (cap - i) (by omega) cur hb.at_ (by show i * 3 + (m.length - i) * 3 ≤ cur.size; omega) (by decide)
    have hne : y ≠ g := hY.box.ne_obj hb (by intro h; injection h with _ h; cases h)
    refine ⟨_, hrun, Ext.setRow Ext.refl (fun _ => hb.col) _, Blk.setRow_other hY.box hne _, ?_, ?_, by omega, by omega⟩
    · obtain ⟨k1, k2 | ⟨ge, ce, cure, kv, kb, kr⟩⟩ := hY.ent
      · exact ⟨k1, .inl k2⟩
      · refine ⟨k1, .inr ⟨ge, ce, cure, kv, Blk.setRow_other kb (fun e => ?_) _, kr⟩⟩
        subst e
        have := kb.at_.symm.trans hb.at_
        injection this with this
        injection this with _ this
        cases this
    · refine ⟨by rw [flat_len, List.length_take]; omega, .inr ⟨g, cap, _, rfl, ⟨setRow_heap w g cur _ _ _ hb.at_, hb.col⟩, by omega, hcm, ?_, ?_⟩⟩
      · have hzs : (Value.cells (.agg #[.int .i64 0, .int .i64 0, .int .i64 0])).size = 3 := rfl
        simp only [List.size_toArray, List.length_append, List.length_take, List.length_drop, Array.length_toList, size_zeroCells, hzs]
        omega
      · simp only [List.append_assoc]
        rw [List.take_append_of_le_length (by rw [List.length_take, Array.length_toList]; omega), List.take_take, Nat.min_self, ← flat_take, ← htk, List.take_take]
        congr 1
        omega
theorem held_limbo (Y : YV) (m : List (Int × Int × Int)) (p : Int × Int × Int) : ({ Y with limbo := m } : YV).held p = Y.held p := rfl
set_option maxHeartbeats 4000000 in
theorem Delete_any (hA : Arena w own ka a V) (hY : Yard w own ky y a Y ev lv) (hcap : Blk w own kc bx (.cells #[.pointer (some ⟨y, 0, none⟩)] 29 (0, 0))) (hka : ka ≠ ky) (hkc : kc ≠ ka) (hkc2 : kc ≠ ky)
    (hf : V.faults + Y.limbo.length < 900000000000000) (hn : Y.limbo.length ≤ 4000000000000) :
    Calls Try.prog 57 #[lv, .func (.func 58) #[] #[.pointer (some ⟨bx, 0, none⟩)]] w (DelPost w own ka ky y a V Y ev lv) := by
  have HIX := Lib.hid (IndexW_any hA hY hcap hka hkc (by omega) hn)
  obtain ⟨ra, rc, rfl⟩ := hY.lim.shape
  have HY := Lib.hid hY
  have HC := Lib.hid hcap
  clear hY hcap hA
  go_enter Try.func57, Try.ntmps57
  go_wp2_with fail
  refine HIX.out.mono ?_
  rintro e w1 ⟨own1, hE1, ⟨i0, hi0, hh0, hb0, rfl, hA1⟩ | ⟨hall, rfl, hA1⟩⟩
  case inr =>
    have hk : keptL Y Y.limbo = Y.limbo := List.filter_eq_self.2 (fun p hp => by obtain ⟨j, hj, rfl⟩ := List.mem_iff_getElem.1 hp; exact hall j hj)
    have hd : dropsV Y V Y.limbo = V := dropsV_kept Y V _ (fun p hp => by obtain ⟨j, hj, rfl⟩ := List.mem_iff_getElem.1 hp; exact hall j hj)
    have hY1 := HY.out.ext hE1 (fun h => hka h.symm)
    have HP := Lib.hid (show DelPost w own ka ky y a V Y ev (.slice ra Y.limbo.length rc) (.returned (.slice ra Y.limbo.length rc)) w1 from ⟨_, own1, rfl, hE1.mono (fun c h => .inl h), by rw [hd]; exact hA1, hY1.box, hY1.ent, by rw [hk]; exact hY1.lim⟩)
    clear hk hd hY1 hall
    go_wp2_with fail
    go_ret
    exact HP.out
  case inl =>
    obtain ⟨g, rfl, -, hgc, -⟩ := Row.flat_cells HY.out.lim hi0
    have hY1 := HY.out.ext hE1 (fun h => hka h.symm)
    have htk : keptL Y (Y.limbo.take i0) = Y.limbo.take i0 := List.filter_eq_self.2 (fun p hp => by
      obtain ⟨j, hj, rfl⟩ := List.mem_iff_getElem.1 hp
      rw [List.length_take] at hj
      rw [List.getElem_take]
      exact hb0 j (by omega) (by omega))
    have hkp : keptL Y (Y.limbo.take (i0 + 1)) = Y.limbo.take i0 := by
      rw [List.take_succ_eq_append_getElem hi0, keptL_snoc, hh0, htk]
      simp
    have hdr : dropsV Y V (Y.limbo.take (i0 + 1)) = dropV Y V Y.limbo[i0] := by
      rw [List.take_succ_eq_append_getElem hi0, dropsV_snoc, dropsV_kept]
      intro p hp
      obtain ⟨j, hj, rfl⟩ := List.mem_iff_getElem.1 hp
      rw [List.length_take] at hj
      rw [List.getElem_take]
      exact hb0 j (by omega) (by omega)
    have hinv : DelInv w own ka ky y a V Y Y.limbo ev g rc (Y.limbo.length - (i0 + 1)) (.int .i64 i0) (.int .i64 ((i0 + 1 : Nat) : Int)) w1 :=
      ⟨own1, i0, i0 + 1, Y.limbo, rfl, rfl, by omega, by rw [hkp, List.length_take]; omega, by omega, rfl, by rw [hkp], rfl, by rw [hdr]; exact hA1, hY1, hE1.mono (fun c h => .inl h)⟩
    have HINV := Lib.hid hinv
    have hi02 : ((i0 : Int) == -1) = false := by simp
    clear hinv hdr hkp htk hY1 hA1 hE1 hb0 hh0 HIX
    go_wp2_with fail
    go_loopg [5, 6] (Y.limbo.length - (i0 + 1)) (fun g2 iv jv wr => DelInv w own ka ky y a V Y Y.limbo ev g rc g2 iv jv wr)
    case atStart => exact HINV.out
    case round =>
      clear HINV hi0 hi02
      obtain ⟨own2, i, j, m, rfl, rfl, hj, hi, hij, hml, hmt, hmd, hA, hY, hE⟩ := hrel
      have HE := Lib.hid hE
      have HMT := Lib.hid hmt
      have HMD := Lib.hid hmd
      have HI := Lib.hid hi
      clear hE hmt hmd hi
      have hC1 := HC.out.ext HE.out (fun h => h.elim hkc hkc2)
      obtain ⟨ge, hge, hgl, hgc2, d0, d1, d2⟩ := Row.flat_cells hY.lim (i := i) (by show i < m.length; omega)
      have hgy : own2 g = ky := by injection hge with hge; injection hge with hge; rw [hge]; exact hgc2
      have hglt : g < wr.heap.size := by injection hge with hge; injection hge with hge; rw [hge]; exact hgl
      have hne : y ≠ g := by
        obtain ⟨g4, _, _, hv4, hb4, _⟩ := hY.lim.cells (by show 0 < m.length; omega)
        injection hv4 with hv4
        injection hv4 with hv4
        injection hv4 with hv4
        subst hv4
        exact hY.box.ne_obj hb4 (by intro h; injection h with _ h; cases h)
      clear hge hgl hgc2 d0 d1 d2
      by_cases hlt : j < Y.limbo.length
      · have hlt2 : (j : Int) < Y.limbo.length := by omega
        have hmj : m[j]'(by omega) = Y.limbo[j] := by
          have h := congrArg (fun q => q[0]?) HMD.out
          simp only [List.getElem?_drop, Nat.add_zero] at h
          rw [List.getElem?_eq_getElem (by omega), List.getElem?_eq_getElem hlt] at h
          exact Option.some.inj h
        obtain ⟨gj, hgj, _, _, d0, d1, d2⟩ := Row.flat_cells hY.lim (i := j) (by show j < m.length; omega)
        injection hgj with hgj
        injection hgj with hgj
        subst hgj
        have hX : ∀ M, Ext M wr (wr.alloc (.cells #[.int .i64 Y.limbo[j].1, .int .i64 Y.limbo[j].2.1, .int .i64 Y.limbo[j].2.2] 104)) own2 (ow own2 wr.heap.size (ka + ky + kc + 1)) := fun M => (Ext.refl.ow _).alloc _
        have hbx := Blk.new (own := ow own2 wr.heap.size (ka + ky + kc + 1)) (k := ka + ky + kc + 1) wr (.cells #[.int .i64 Y.limbo[j].1, .int .i64 Y.limbo[j].2.1, .int .i64 Y.limbo[j].2.2] 104) (ow_ge (Nat.le_refl _))
        have hA1 := hA.ext (hX (fun _ => False)) (by simp)
        have hY1 := hY.ext (hX (fun _ => False)) (by simp)
        have hC2 := hC1.ext (hX (fun _ => False)) (by simp)
        have hfs : (dropsV Y V (Y.limbo.take j)).faults < 1000000000000000 := by
          have h := dropsV_faults Y (Y.limbo.take j) V
          rw [List.length_take] at h
          omega
        have HS := Lib.hid (Sweep1_any (bx := bx) hA1 hY1 (hC2.cell 0) hC2.lt hfs Y.limbo[j])
        have HE1 := Lib.hid (HE.out.trans (hX _))
        have HTK := Lib.hid (show Y.limbo.take (j + 1) = Y.limbo.take j ++ [Y.limbo[j]] from List.take_succ_eq_append_getElem hlt)
        have hmj0 : m[j]'(show j < m.length by omega) = Y.limbo[j] := hmj
        change wr.cell? ⟨g, j * 3, none⟩ = some (.int .i64 (m[j]'(by omega)).1) at d0
        change wr.cell? ⟨g, j * 3 + 1, none⟩ = some (.int .i64 (m[j]'(by omega)).2.1) at d1
        change wr.cell? ⟨g, j * 3 + 2, none⟩ = some (.int .i64 (m[j]'(by omega)).2.2) at d2
        rw [hmj0] at d0 d1 d2
        have HQ := Lib.hid (show ∃ q, q = Y.limbo[j] from ⟨_, rfl⟩)
        obtain ⟨p, hp⟩ := HQ.out
        have HP := Lib.hid hp
        rw [← hp] at d0 d1 d2 HS HTK hbx hA1 hY1 HE1
        clear hX hC1 hC2 hA hY hmj hmj0 hp HQ HE
        go_wp2_with fail
        refine HS.out.mono ?_
        rintro e w5 ⟨own5, rfl, hE5, hA5⟩
        have hA6 : Arena w5 own5 ka a (dropsV Y V (Y.limbo.take (j + 1))) := by rw [HTK.out, dropsV_snoc]; exact hA5
        have hY5 := hY1.ext hE5 (fun h => hka h.symm)
        have hb5 := hbx.ext hE5 (by omega)
        have HE5 := Lib.hid (HE1.out.trans (hE5.mono (M' := fun c => c = ka ∨ c = ky) (fun c h => .inl h)))
        have hgy5 : own5 g = ky := by rw [hE5.col g (by simp; omega), ow_lt hglt]; exact hgy
        clear hE5 HE1 HS hA5 hA1 hY1 hbx d0 d1 d2 hgy
        have b0 := hb5.cell 0
        have b1 := hb5.cell 1
        have b2 := hb5.cell 2
        simp only [List.getElem?_toArray, List.getElem?_cons_zero, List.getElem?_cons_succ] at b0 b1 b2
        clear hb5
        have hds : ∀ q : List (Int × Int × Int), q.drop (j + 1) = (q.drop j).drop 1 := fun q => by rw [List.drop_drop]
        rcases Bool.eq_false_or_eq_true (Y.held p) with hh | hh
        · have hhm : ({ Y with limbo := m } : YV).held p = true := hh
          have hkp : keptL Y (Y.limbo.take (j + 1)) = keptL Y (Y.limbo.take j) ++ [p] := by rw [HTK.out, keptL_snoc, hh, if_pos rfl]
          have hK := Lib.hid (show i + 1 = (keptL Y (Y.limbo.take (j + 1))).length by rw [hkp, List.length_append, ← HI.out]; rfl)
          have hM1 := Lib.hid (show (m.set i p).take (i + 1) = keptL Y (Y.limbo.take (j + 1)) by
            rw [hkp, ← HMT.out, List.take_succ_eq_append_getElem (by rw [List.length_set]; omega), List.getElem_set_self, List.take_set_of_le (Nat.le_refl i)])
          have hM2 := Lib.hid (show (m.set i p).drop (j + 1) = Y.limbo.drop (j + 1) by
            rw [List.drop_set_of_lt (by omega), hds m, HMD.out, ← hds])
          obtain ⟨gi, hgi, -, -, e0, e1, e2⟩ := Row.flat_cells hY5.lim (i := i) (by show i < m.length; omega)
          injection hgi with hgi
          injection hgi with hgi
          subst hgi
          have hq : Row w5 own5 ky 104 3 (.slice (some ⟨g, 0, none⟩) Y.limbo.length rc) Y.limbo.length (flat m) := by rw [← hml]; have h := hY5.lim; rw [← hml] at h; exact h
          have z0 := Row.flat_free hq (i * 3)
          have z1 := Row.flat_free hq (i * 3 + 1)
          have z2 := Row.flat_free hq (i * 3 + 2)
          have hlim := Row.flat_set hq hml (show i < Y.limbo.length by omega) p
          have hbox := ((hY5.box.setCell_other (a := ⟨g, i * 3, none⟩) hne (.int .i64 p.1)).setCell_other (a := ⟨g, i * 3 + 1, none⟩) hne (.int .i64 p.2.1)).setCell_other (a := ⟨g, i * 3 + 2, none⟩) hne (.int .i64 p.2.2)
          have hE6 : Ext (fun c => c = ky) w5 (((w5.setCell ⟨g, i * 3, none⟩ (.int .i64 p.1)).setCell ⟨g, i * 3 + 1, none⟩ (.int .i64 p.2.1)).setCell ⟨g, i * 3 + 2, none⟩ (.int .i64 p.2.2)) own5 own5 :=
            ((Ext.refl.setCell (a := ⟨g, i * 3, none⟩) (fun _ => hgy5) _).setCell (a := ⟨g, i * 3 + 1, none⟩) (fun _ => hgy5) _).setCell (a := ⟨g, i * 3 + 2, none⟩) (fun _ => hgy5) _
          have hent : Row (((w5.setCell ⟨g, i * 3, none⟩ (.int .i64 p.1)).setCell ⟨g, i * 3 + 1, none⟩ (.int .i64 p.2.1)).setCell ⟨g, i * 3 + 2, none⟩ (.int .i64 p.2.2)) own5 ky 3 1 ev Y.ent.length (irow Y.ent) := by
            obtain ⟨k1, k2 | ⟨ge2, ce, cure, kv, kb, kr⟩⟩ := hY5.ent
            · exact ⟨k1, .inl k2⟩
            · have hgg : ge2 ≠ g := by
                intro h
                subst h
                obtain ⟨g4, _, _, hv4, hb4, _⟩ := hq.cells (by omega)
                injection hv4 with hv4
                injection hv4 with hv4
                injection hv4 with hv4
                subst hv4
                have := kb.at_.symm.trans hb4.at_
                injection this with this
                injection this with _ this
                cases this
              exact ⟨k1, .inr ⟨ge2, ce, cure, kv, ((kb.setCell_other (a := ⟨g, i * 3, none⟩) hgg _).setCell_other (a := ⟨g, i * 3 + 1, none⟩) hgg _).setCell_other (a := ⟨g, i * 3 + 2, none⟩) hgg _, kr⟩⟩
          have hY6 : Yard (((w5.setCell ⟨g, i * 3, none⟩ (.int .i64 p.1)).setCell ⟨g, i * 3 + 1, none⟩ (.int .i64 p.2.1)).setCell ⟨g, i * 3 + 2, none⟩ (.int .i64 p.2.2)) own5 ky y a { Y with limbo := m.set i p } ev (.slice (some ⟨g, 0, none⟩) Y.limbo.length rc) :=
            ⟨hbox, hent, by show Row _ _ _ _ _ _ (m.set i p).length _; rw [List.length_set, hml]; exact hlim, ⟨hY5.ok.ent, hY5.ok.now, hY5.ok.bound, hY5.ok.since⟩⟩
          have HY6 := Lib.hid hY6
          have HA6 := Lib.hid (hA6.ext hE6 hka)
          have HE6 := Lib.hid (HE5.out.trans (hE6.mono (M' := fun c => c = ka ∨ c = ky) (fun c h => .inr h)))
          clear hlim hbox hq hY5 hA6 hkp hE6 hent hY6 HE5
          go_wp2_with fail
          go_roundg (Y.limbo.length - (j + 1))
          case measure => omega
          case rel => exact ⟨own5, i + 1, j + 1, m.set i p, by go_num, by go_num, by omega, hK.out, by omega, by rw [List.length_set]; exact hml, hM1.out, hM2.out, HA6.out, HY6.out, HE6.out⟩
        · have hhm : ({ Y with limbo := m } : YV).held p = false := hh
          have hkp : keptL Y (Y.limbo.take (j + 1)) = keptL Y (Y.limbo.take j) := by rw [HTK.out, keptL_snoc, hh]; simp
          have hK := Lib.hid (show i = (keptL Y (Y.limbo.take (j + 1))).length by rw [hkp]; exact HI.out)
          have hM1 := Lib.hid (show m.take i = keptL Y (Y.limbo.take (j + 1)) by rw [hkp]; exact HMT.out)
          have hM2 := Lib.hid (show m.drop (j + 1) = Y.limbo.drop (j + 1) by rw [hds m, HMD.out, ← hds])
          have HY5 := Lib.hid hY5
          have HA6 := Lib.hid hA6
          clear hkp hY5 hA6
          go_wp2_with fail
          go_roundg (Y.limbo.length - (j + 1))
          case measure => omega
          case rel => exact ⟨own5, i, j + 1, m, rfl, by go_num, by omega, hK.out, by omega, hml, hM1.out, hM2.out, HA6.out, HY5.out, HE5.out⟩
      · have hje : j = Y.limbo.length := by omega
        subst hje
        have hY2 : Yard wr own2 ky y a { Y with limbo := m } ev (.slice (some ⟨g, 0, none⟩) m.length rc) := by rw [hml]; exact hY
        obtain ⟨w6, hclr, hE6, hbox, hent, hlim, hrc, hrc2⟩ := clear_post hY2 (show i < m.length by omega)
        rw [hml] at hclr hbox
        have hmt := HMT.out
        rw [List.take_length] at hmt
        rw [hmt] at hlim
        have hi := HI.out
        rw [List.take_length] at hi hA
        have HP := Lib.hid (show DelPost w own ka ky y a V Y ev (.slice (some ⟨g, 0, none⟩) Y.limbo.length rc) (.returned (.slice (some ⟨g, 0, none⟩) i rc)) w6 from
          ⟨_, own2, rfl, HE.out.trans (hE6.mono (fun c h => .inr h)), hA.ext hE6 hka, hbox, hent, by rw [← hi]; exact hlim⟩)
        have hrc3 : rc ≠ 0 := by omega
        clear hY2 hE6 hbox hent hlim hmt hi hA hY hC1 HE
        go_wp2_with fail
        go_ret
        exact HP.out
/-! ### Sweep -/
def YI (y : Nat) (x0 x1 x2 x3 : Value) (c : Nat) (u : Value) (w : World) : Prop :=
  w.cell? ⟨y, 0, none⟩ = some x0 ∧ w.cell? ⟨y, 1, none⟩ = some x1 ∧ w.cell? ⟨y, 2, none⟩ = some x2 ∧ w.cell? ⟨y, 3, none⟩ = some x3 ∧ (∃ x, w.cell? ⟨y, 4, none⟩ = some x) ∧ w.cell? ⟨c, 0, none⟩ = some u
theorem YI.of {c : Nat} {u x0 x1 x2 x3 x4 : Value} {T T2 : TypeId} (hb : Blk w own ky y (.cells #[x0, x1, x2, x3, x4] T (0, 0))) (hc : Blk w own kc c (.cells #[u] T2 (0, 0))) : YI y x0 x1 x2 x3 c u w :=
  ⟨hb.cell 0, hb.cell 1, hb.cell 2, hb.cell 3, ⟨x4, hb.cell 4⟩, hc.cell 0⟩
def YV.sweep (Y : YV) : YV := { Y with limbo := keptL Y Y.limbo }
def SwPost (w : World) (own : Nat → Nat) (ka ky y a : Nat) (V' : AV) (Y' : YV) (ev : Value) (r : Value) (e : Ending) (w' : World) : Prop :=
  ∃ lv' own', e = .returned r ∧ Ext (fun c => c = ka ∨ c = ky) w w' own own' ∧ Arena w' own' ka a V' ∧ Yard w' own' ky y a Y' ev lv'
theorem Yard.set_lim {lv' : Value} (hb : Blk w own ky y (.cells #[.pointer (some ⟨a, 0, none⟩), .int .i64 Y.bound, .int .i64 Y.now, ev, lv] 86 (0, 0))) (he : Row w own ky 3 1 ev Y.ent.length (irow Y.ent))
    {m : List (Int × Int × Int)} (hl : Row w own ky 104 3 lv' m.length (flat m)) (hok : Y.Ok) :
    Yard (w.setCell ⟨y, 4, none⟩ lv') own ky y a { Y with limbo := m } ev lv' ∧ Ext (fun c => c = ky) w (w.setCell ⟨y, 4, none⟩ lv') own own := by
  refine ⟨⟨?_, ?_, ?_, ⟨hok.ent, hok.now, hok.bound, hok.since⟩⟩, Ext.refl.setCell (fun _ => hb.col) _⟩
  · have := hb.setCell 4 lv'
    simpa using this
  · exact he.setCell_other hb.at_ (by intro cs h; injection h with _ h; cases h) _
  · exact hl.setCell_other hb.at_ (by intro cs h; injection h with _ h; cases h) _
set_option maxHeartbeats 4000000 in
theorem Sweep_any (hA : Arena w own ka a V) (hY : Yard w own ky y a Y ev lv) (hka : ka ≠ ky) (hf : V.faults + Y.limbo.length < 900000000000000) (hn : Y.limbo.length ≤ 4000000000000) :
    Calls Try.prog 46 #[.pointer (some ⟨y, 0, none⟩)] w (SwPost w own ka ky y a (dropsV Y V Y.limbo) Y.sweep ev (.int .i64 ((Y.limbo.length : Int) - (keptL Y Y.limbo).length))) := by
  have hmf : ∀ (fn : Fn) (first cap : Array Value) (w : World), (Instr.makeFunc fn first cap).run Try.prog w = .ok (.func fn first cap) w := fun _ _ _ _ => rfl
  have hX : ∀ M, Ext M w (w.alloc (.cells #[.pointer (some ⟨y, 0, none⟩)] 29)) own (ow own w.heap.size (ka + ky + 1)) := fun M => (Ext.refl.ow _).alloc _
  have hc := Blk.new (own := ow own w.heap.size (ka + ky + 1)) (k := ka + ky + 1) w (.cells #[.pointer (some ⟨y, 0, none⟩)] 29) (ow_ge (Nat.le_refl _))
  have hA1 := hA.ext (hX (fun _ => False)) (by simp)
  have hY1 := hY.ext (hX (fun _ => False)) (by simp)
  have HX := Lib.hid (hX (fun c => c = ka ∨ c = ky))
  have hlt := hY.box.lt
  have hk : (keptL Y Y.limbo).length ≤ Y.limbo.length := List.length_filter_le _ _
  have hne : w.heap.size ≠ y := by omega
  obtain ⟨ra, rc, rfl⟩ := hY.lim.shape
  obtain ⟨c0, c1, c2, c3, c4⟩ := five_y hY1.box
  clear hX hA hY
  go_enter Try.func46, Try.ntmps46
  generalize hcb : w.heap.size = cb at *
  generalize hwa : w.alloc (.cells #[.pointer (some ⟨y, 0, none⟩)] 29) = wa at *
  generalize ow own cb (ka + ky + 1) = own1 at *
  have hcc := hc.cell 0
  simp only [List.getElem?_toArray, List.getElem?_cons_zero] at hcc
  go_wp2_with fail
  try simp only [hwa]
  have hD : ∀ M, Ext M wa wa.drew own1 own1 := fun M => Ext.refl.drew
  have hc2 := hc.ext (hD (fun _ => False)) (by simp)
  have HA2 := Lib.hid (hA1.ext (hD (fun _ => False)) (by simp))
  have hY2 := hY1.ext (hD (fun _ => False)) (by simp)
  have HX2 := Lib.hid (HX.out.trans (hD _))
  have HI := Lib.hid (YI.of hY2.box hc2)
  refine wp_region_plan3 [(true, 0, [7, 8, 9]), (true, 1, [2, 3, 4, 6, 7, 8, 9]), (true, 2, [3, 4, 6, 7, 8, 9]), (true, 3, [4, 6, 7, 8, 9]), (true, 5, [6, 7, 8, 9]), (false, 4, []), (false, 6, []), (true, 7, [8, 9]), (true, 8, [9]), (false, 9, [])] (YI y (.pointer (some ⟨a, 0, none⟩)) (.int .i64 Y.bound) (.int .i64 Y.now) ev cb (.pointer (some ⟨y, 0, none⟩))) (by kernel_rfl) (by kernel_rfl) (fun _ _ _ d _ h => by cases d <;> exact h) HI.out ?_
  clear hD HX hA1 hY1 hc hcc c0 c1 c2 c3 c4 hwa hcb
  generalize wa.drew = wb at *
  iterate 5
    apply plan3_early
    case hi => rfl
    case h =>
      rintro w1 ⟨y0, y1, y2, y3, ⟨x4, y4⟩, cc⟩
      still_step
      exact wpStill_nil rfl
  obtain ⟨c0, c1, c2, c3, c4⟩ := five_y hY2.box
  refine plan3_big rfl ?_
  go_wp2_with fail
  refine ⟨HI.out, ?_⟩
  have HDL := Lib.hid (Delete_any HA2.out hY2 hc2 hka (by omega) (by omega) hf hn)
  have HOK := Lib.hid hY2.ok
  have HC2 := Lib.hid hc2
  clear hY2 hc2 c0 c1 c2 c3 c4 HA2
  refine plan3_big rfl ?_
  go_wp2_with fail
  refine HDL.out.mono ?_
  rintro e w6 ⟨v', own6, rfl, hE6, hA6, hb6, he6, hl6⟩
  have hc6 := HC2.out.ext hE6 (by omega)
  have HI6 := Lib.hid (YI.of hb6 hc6)
  obtain ⟨hY7, hE7⟩ := Yard.set_lim hb6 he6 hl6 HOK.out
  have HY7 := Lib.hid hY7
  have HA7 := Lib.hid (hA6.ext hE7 hka)
  have HE7 := Lib.hid ((HX2.out.trans hE6).trans (hE7.mono (M' := fun c => c = ka ∨ c = ky) (fun c h => .inr h)))
  have hcb2 := hc6.setCell_other (a := ⟨y, 4, none⟩) hne v'
  have HI7 := Lib.hid (YI.of hY7.box hcb2)
  obtain ⟨c0, c1, c2, c3, c4⟩ := five_y hb6
  obtain ⟨f0, f1, f2, f3, f4⟩ : w6.frozen? ⟨y, 0, none⟩ = false ∧ w6.frozen? ⟨y, 1, none⟩ = false ∧ w6.frozen? ⟨y, 2, none⟩ = false ∧ w6.frozen? ⟨y, 3, none⟩ = false ∧ w6.frozen? ⟨y, 4, none⟩ = false := ⟨hb6.free 0, hb6.free 1, hb6.free 2, hb6.free 3, hb6.free 4⟩
  obtain ⟨va, vc, rfl⟩ := hl6.shape
  clear HDL HX2 HC2 hE6 hA6 hb6 he6 hl6 hc6 hY7 hE7
  go_wp2_with fail
  refine ⟨HI6.out, ?_⟩
  iterate 2
    apply plan3_early
    case hi => rfl
    case h =>
      rintro w1 ⟨y0, y1, y2, y3, ⟨x4, y4⟩, cc⟩
      still_step
      exact wpStill_nil rfl
  refine plan3_big rfl ?_
  go_wp2_with fail
  refine ⟨HI7.out, ?_⟩
  refine plan3_nil ?_
  obtain ⟨y0, y1, y2, y3, -, yc⟩ := HI7.out
  have y4 := HY7.out.box.cell 4
  simp only [List.getElem?_toArray, List.getElem?_cons_zero, List.getElem?_cons_succ] at y4
  clear c0 c1 c2 c3 c4 f0 f1 f2 f3 f4 hcb2 HI6
  generalize w6.setCell ⟨y, 4, none⟩ (.slice va (keptL Y Y.limbo).length vc) = w7 at *
  go_wp2_with fail
  go_ret
  exact ⟨_, own6, rfl, HE7.out, HA7.out, HY7.out⟩
end
end Go.Proofs.Ytefhngbeodnldaa
