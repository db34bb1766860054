/- Slices of int64: what slices.Clone, Index, Delete and Insert do to rows. -/
import Derived.Test.YtefhngbeodnldaaEpoch
import Derived.Test.YtefhngbeodnldaaEpochSweep
import Derived.Deep.RegionLaw
import Derived.Lib.Overlaps
import Derived.Lib.AppendZerosOnto
import Derived.Shelf.Spec.SlicesInsert
set_option maxRecDepth 20000
set_option linter.unusedVariables false
set_option linter.unusedSimpArgs false
namespace Go.PM
open Go.RowKit
/-- A list with a stretch put anew. -/
def setL {α : Type} (cs : List α) : Nat → List α → List α
  | _, [] => cs
  | o, v :: r => setL (cs.set o v) (o + 1) r
theorem setL_len {α : Type} : ∀ (vs : List α) (o : Nat) (cs : List α), (setL cs o vs).length = cs.length
  | [], _, _ => rfl
  | v :: r, o, cs => by rw [setL, setL_len r, List.length_set]
theorem setL_get {α : Type} : ∀ (vs : List α) (o : Nat) (cs : List α) (j : Nat), o + vs.length ≤ cs.length → (setL cs o vs)[j]? = if o ≤ j ∧ j < o + vs.length then vs[j - o]? else cs[j]?
  | [], o, cs, j, _ => by rw [setL, if_neg (by simp)]
  | v :: r, o, cs, j, h => by
    simp only [List.length_cons] at h ⊢
    rw [setL, setL_get r (o + 1) _ j (by rw [List.length_set]; omega)]
    by_cases h1 : o + 1 ≤ j ∧ j < o + 1 + r.length
    · rw [if_pos h1, if_pos (by omega), show j - o = (j - (o + 1)) + 1 by omega, List.getElem?_cons_succ]
    · rw [if_neg h1]
      by_cases h2 : j = o
      · subst h2
        rw [if_pos (by omega), Nat.sub_self, List.getElem?_cons_zero, List.getElem?_set_self (by omega)]
      · rw [if_neg (by omega), List.getElem?_set_ne (by omega)]
section
variable {M : Nat → Prop} {w w' : World} {own own' : Nat → Nat} {k b : Nat} {T : TypeId}
theorem Blk.setCells : ∀ (vs : List Value) (o : Nat) {w : World} {cs : List Value}, Blk w own k b (.cells cs.toArray T (0, 0)) → Blk (w.setCells b o vs) own k b (.cells (setL cs o vs).toArray T (0, 0))
  | [], _, _, _, h => h
  | v :: r, o, w, cs, h => by
    rw [World.setCells, setL]
    refine Blk.setCells r (o + 1) ?_
    have := Blk.setCell h o v
    simpa using this
theorem Ext.setCells : ∀ (vs : List Value) (o : Nat) {w' : World}, Ext M w w' own own' → (b < w.heap.size → M (own b)) → Ext M w (w'.setCells b o vs) own own'
  | [], _, _, h, _ => h
  | v :: r, o, w', h, hm => by
    rw [World.setCells]
    exact Ext.setCells r (o + 1) (h.setCell (a := ⟨b, o, none⟩) hm v) hm
theorem Blk.setCells_other : ∀ (vs : List Value) (o : Nat) {w : World} {x : Obj} {c : Nat}, Blk w own k b x → b ≠ c → Blk (w.setCells c o vs) own k b x
  | [], _, _, _, _, h, _ => h
  | v :: r, o, w, x, c, h, hc => by
    rw [World.setCells]
    exact Blk.setCells_other r (o + 1) (Blk.setCell_other h (a := ⟨c, o, none⟩) hc v) hc
end
end Go.PM
namespace Go.Proofs.Ytefhngbeodnldaa
open Go.RowKit Go.PM
theorem info_sl64 : (Try.prog.info? 2).map (fun i => (i.zero, i.size, i.bytes)) = some (some (.int .i64 0), 1, 8) := by kernel_rfl
theorem parts_i64 : ∃ i, Try.prog.info? 2 = some i ∧ i.zero = some (.int .i64 0) ∧ i.size = 1 ∧ i.bytes = 8 := by
  have h := info_sl64
  cases hx : Try.prog.info? 2 with
  | none => rw [hx] at h; cases h
  | some i =>
    rw [hx] at h
    simp only [Option.map_some, Option.some.injEq, Prod.mk.injEq] at h
    exact ⟨i, rfl, h.1, h.2.1, h.2.2⟩
theorem irow_get (xs : List Int) (j : Nat) : (irow xs)[j]? = (xs[j]?).map (Value.int .i64) := by simp [irow]
theorem irow_len (xs : List Int) : (irow xs).length = xs.length := by simp [irow]
theorem irow_one (xs : List Int) : ∀ v ∈ irow xs, v.oneCell' = true := by
  intro v hv
  simp only [irow, List.mem_map] at hv
  obtain ⟨x, _, rfl⟩ := hv
  rfl
/-- A slice of int64 that is only looked at. -/
def Vw (w : World) (v : Value) (xs : List Int) : Prop :=
  xs.length ≤ 1000 ∧ ((v = .slice none 0 0 ∧ xs = []) ∨
    ∃ g off c, v = .slice (some ⟨g, off, none⟩) xs.length c ∧ xs.length ≤ c ∧ c ≤ maxLen ∧ g < w.heap.size ∧ ∀ j x, xs[j]? = some x → w.cell? ⟨g, off + j, none⟩ = some (.int .i64 x))
theorem Vw.below {w w' : World} {v : Value} {xs : List Int} (h : Vw w v xs) (hB : Below w.heap.size w w') : Vw w' v xs := by
  obtain ⟨h1, h | ⟨g, off, c, h2, h3, h4, h5, h6⟩⟩ := h
  · exact ⟨h1, .inl h⟩
  · exact ⟨h1, .inr ⟨g, off, c, h2, h3, h4, Nat.lt_of_lt_of_le h5 hB.size, fun j x hj => by rw [hB.cell (p := ⟨g, off + j, none⟩) h5]; exact h6 j x hj⟩⟩
/-- The elements from the d-th on of a row. -/
theorem Row.vw {w : World} {own : Nat → Nat} {k : Nat} {a : Option Addr} {n c : Nat} {xs : List Int} (h : Row w own k 2 1 (.slice a n c) n (irow xs)) (hn : n = xs.length) (hl : n ≤ 1000) (d : Nat) (hd : d ≤ n) (h0 : 0 < n) :
    ∃ g, a = some ⟨g, 0, none⟩ ∧ g < w.heap.size ∧ n ≤ c ∧ c ≤ maxLen ∧ own g = k ∧ Vw w (.slice (some ⟨g, d, none⟩) (n - d) (c - d)) (xs.drop d) := by
  subst hn
  obtain ⟨h1, h | ⟨g, cap, cur, hv, hb, hc, hm, hs, ht⟩⟩ := h
  · omega
  · injection hv with e1 e2 e3
    subst e1
    subst e3
    refine ⟨g, rfl, hb.lt, hc, hm, hb.col, by rw [List.length_drop]; omega, .inr ⟨g, d, c - d, by rw [List.length_drop], by rw [List.length_drop]; omega, by omega, hb.lt, fun j x hj => ?_⟩⟩
    rw [List.getElem?_drop] at hj
    have hlt : d + j < xs.length := (List.getElem?_eq_some_iff.1 hj).1
    rw [hb.cell]
    have h2 : (irow xs)[d + j]? = some (.int .i64 x) := by rw [irow_get, hj]; rfl
    rw [← ht, List.getElem?_take, if_pos (by omega)] at h2
    simpa using h2
theorem Row.vw0 {w : World} {own : Nat → Nat} {k : Nat} {v : Value} {n : Nat} {xs : List Int} (h : Row w own k 2 1 v n (irow xs)) (hn : n = xs.length) (hl : n ≤ 1000) : Vw w v xs := by
  obtain ⟨a, c, rfl⟩ := h.shape
  by_cases h0 : 0 < n
  · obtain ⟨g, rfl, _, _, _, _, h2⟩ := Row.vw h hn hl 0 (Nat.zero_le _) h0
    exact h2
  · obtain rfl : n = 0 := by omega
    obtain rfl : xs = [] := List.length_eq_zero_iff.1 hn.symm
    obtain ⟨h1, h | ⟨g, cap, cur, hv, hb, hc, hm, hs, ht⟩⟩ := h
    · exact ⟨by simp, .inl ⟨h.1, rfl⟩⟩
    · injection hv with e1 e2 e3
      subst e1
      subst e3
      exact ⟨by simp, .inr ⟨g, 0, _, rfl, by simp, hm, hb.lt, fun j x hj => by simp at hj⟩⟩
section
variable {w : World} {own : Nat → Nat} {k : Nat}
set_option maxHeartbeats 1000000 in
/-- slices.Clone: a row of its own. -/
theorem Clone_any {v : Value} {xs : List Int} (hv : Vw w v xs) (own' : Nat → Nat) (hk : ∀ b, w.heap.size ≤ b → own' b = k) :
    Calls Try.prog 29 #[v] w fun e w' => ∃ v', e = .returned v' ∧ Below w.heap.size w w' ∧ Row w' own' k 2 1 v' xs.length (irow xs) := by
  obtain ⟨hlen, h⟩ := hv
  have hq := eqn
  obtain ⟨i0, hi0, hz0, hz1, hz2⟩ := parts_i64
  rcases h with ⟨rfl, rfl⟩ | ⟨g, off, c, rfl, hc, hm, hg, hcell⟩
  · clear hlen
    go_enter Try.func29, Try.ntmps29
    go_wp2_with fail
    go_ret
    exact ⟨_, rfl, Below.refl _ _, Row.nil _ _ _ _ _⟩
  · have hrow : Row (w.alloc (.cells #[] 2)) (PM.ow (fun _ => k + 1) w.heap.size k) k 2 1 (.slice (some ⟨w.heap.size, 0, none⟩) 0 0) 0 [] := Row.start (Blk.new w _ (ow_ge (Nat.le_refl _)))
    have HR := Lib.hid hrow
    have HC := Lib.hid hcell
    have hmx : xs.length ≤ maxLen := by omega
    generalize hn : xs.length = n at *
    have HN := Lib.hid hn
    clear hrow hcell hn
    go_enter Try.func29, Try.ntmps29
    go_wp2_with (at_builtin; refine wpList_append_row (w := w.alloc (.cells #[] 2)) (n := 0) (xs := []) rfl _ _ 22 rfl i0 (.int .i64 0) 8 Try.underlying22 hi0 hz0 hz1 hz2 rfl (by decide) rfl HR.out ⟨g, off, none⟩ n c (irow xs) rfl (by rw [irow_len, HN.out]; omega) ?c1 (irow_one xs) (by omega) (by omega) ?_)
    case c1 =>
      intro j u hj
      rw [irow_get] at hj
      obtain ⟨x, hx, rfl⟩ := Option.map_eq_some_iff.1 hj
      rw [Addr.add_lit]
      exact Lib.cell?_alloc_some _ (HC.out j x hx)
    intro v' w1 hr hE _
    have HR1 := Lib.hid hr
    have HE1 := Lib.hid ((((Ext.refl (M := fun c => c = k) (w := w) (own := fun _ => k + 1)).ow k).alloc (.cells #[] 2)).trans hE)
    clear hr hE
    go_wp2_with fail
    go_ret
    have hr := HR1.out
    refine ⟨_, rfl, HE1.out.below fun b _ h => by omega, ?_⟩
    refine hr.recol fun b hb h => ?_
    by_cases hb2 : b < w.heap.size
    · have := HE1.out.col b hb2
      rw [h] at this
      omega
    · exact hk b (by omega)
def IxInv (w0 : World) (n : Nat) (p : Nat → Bool) (g : Nat) (iv : Value) (w : World) : Prop :=
  ∃ i : Nat, iv = .int .i64 i ∧ i + g = n ∧ w = w0 ∧ ∀ j, j < i → p j = false
def lidx (xs : List Int) (x : Int) : Int := idxP (fun y => x == y) xs
set_option maxHeartbeats 1000000 in
/-- slices.Index. -/
theorem Index_any {v : Value} {xs : List Int} (hv : Vw w v xs) (x : Int) :
    Calls Try.prog 40 #[v, .int .i64 x] w fun e w' => e = .returned (.int .i64 (lidx xs x)) ∧ w' = w := by
  obtain ⟨a, c, rfl, hlen, hcell⟩ : ∃ a c, v = .slice a xs.length c ∧ xs.length ≤ 1000 ∧ ∀ j (hj : j < xs.length), ∃ g off, a = some ⟨g, off, none⟩ ∧ w.cell? ⟨g, off + j, none⟩ = some (.int .i64 xs[j]) := by
    obtain ⟨hlen, h⟩ := hv
    rcases h with ⟨rfl, rfl⟩ | ⟨g, off, c, rfl, hc, hm, hg, hcell⟩
    · exact ⟨none, 0, rfl, hlen, fun j hj => by simp at hj⟩
    · exact ⟨_, c, rfl, hlen, fun j hj => ⟨g, off, rfl, hcell j _ (List.getElem?_eq_getElem hj)⟩⟩
  have HC := Lib.hid hcell
  have hh : ∀ (i : Nat) (hi : i < xs.length) (h : (x == xs[i]) = true) (hb : ∀ j, (hj : j < i) → (x == xs[j]'(by omega)) = false), lidx xs x = i := fun i hi h hb => idxP_hit (p := fun y => x == y) hi h hb
  have hm : ∀ (hb : ∀ j, (hj : j < xs.length) → (x == xs[j]) = false), lidx xs x = -1 := fun hb => idxP_miss (p := fun y => x == y) hb
  have HH := Lib.hid hh
  have HM := Lib.hid hm
  clear hh hm
  clear hcell hv
  generalize hr : lidx xs x = r at *
  clear hr
  go_enter Try.func40, Try.ntmps40
  go_wp2_with fail
  go_loopg [8] xs.length (fun g iv wr => IxInv w xs.length (fun j => if hj : j < xs.length then x == xs[j] else true) g iv wr)
  case atStart => exact ⟨0, rfl, by omega, rfl, fun j hj => by omega⟩
  case round =>
    obtain ⟨i, rfl, hi, rfl, hb⟩ := hrel
    by_cases hlt : i < xs.length
    · have hlt2 : (i : Int) < (xs.length : Int) := by omega
      obtain ⟨g, off, rfl, hcl⟩ := HC.out i hlt
      by_cases he : (x == xs[i]) = true
      · have HE := Lib.hid (HH.out i hlt he fun j hj => by have := hb j hj; simpa [show j < xs.length by omega] using this)
        clear hb
        generalize xs[i] = y at *
        go_wp2_with fail
        go_ret
        exact ⟨by rw [HE.out]; rfl, rfl⟩
      · have he2 : (x == xs[i]) = false := by simpa using he
        have HB := Lib.hid (fun j (hj : j < i + 1) => (show (if hj : j < xs.length then x == xs[j] else true) = false from by
          by_cases hji : j = i
          · subst hji; rw [dif_pos hlt]; exact he2
          · exact hb j (by omega)))
        clear hb he
        generalize hy : xs[i] = y at *
        clear hy
        go_wp2_with fail
        go_roundg (xs.length - (i + 1))
        case measure => omega
        case rel => exact ⟨i + 1, by go_num, by omega, rfl, HB.out⟩
    · obtain rfl : i = xs.length := by omega
      have HE := Lib.hid (HM.out fun j hj => by have := hb j hj; simpa [hj] using this)
      clear hb
      go_wp2_with fail
      go_ret
      exact ⟨by rw [HE.out]; rfl, rfl⟩
set_option maxHeartbeats 1000000 in
/-- slices.Insert of one element at the end. -/
theorem InsertE_any {v : Value} {n q : Nat} {xs : List Int} (hR : Row w own k 2 1 v n (irow xs)) (hn : n = xs.length) (hl : n ≤ 1000) (x : Int) (hq : w.heap.size = q) :
    Calls Try.prog 43 #[v, .int .i64 n, .slice (some ⟨q, 0, none⟩) 1 1] (w.alloc (.cells #[.int .i64 x] 2)) fun e w' => ∃ v' own', e = .returned v' ∧ Row w' own' k 2 1 v' (n + 1) (irow (xs ++ [x])) ∧ Ext (fun c => c = k) w w' own own' := by
  subst hq
  obtain ⟨i0, hi0, hz0, hz1, hz2⟩ := parts_i64
  obtain ⟨a, c, rfl⟩ := hR.shape
  obtain ⟨hnc, hc63⟩ : n ≤ c ∧ c ≤ maxLen := by
    obtain ⟨_, h | ⟨g, cap, cur, hv, hb, hc, hm, _⟩⟩ := hR
    · have h1 := h.1; injection h1 with _ _ h3; omega
    · injection hv with _ _ h3; omega
  have hR1 := hR.alloc (.cells #[.int .i64 x] 2)
  have HR := Lib.hid hR1
  have hc64 : c ≤ 9223372036854775807 := hc63
  have hb1 : n + 1 ≤ maxLen := by unfold maxLen; omega
  have hb2 : (n + 1) * 8 ≤ 140737488355328 := by omega
  clear hR hR1 hn
  go_enter Try.func43, Try.ntmps43
  go_wp2_with (at_builtin; refine wpList_append_row (w := w.alloc (.cells #[.int .i64 x] 2)) (n := n) (xs := irow xs) rfl _ _ 22 rfl i0 (.int .i64 0) 8 Try.underlying22 hi0 hz0 hz1 hz2 rfl (by decide) rfl HR.out ⟨w.heap.size, 0, none⟩ 1 1 [.int .i64 x] rfl rfl (one_cell (new_cell rfl)) (one_ok rfl) hb1 hb2 ?_)
  all_goals
    intro v' w1 hr hE _
    have HR1 := Lib.hid hr
    have HE1 := Lib.hid ((Ext.refl.alloc (.cells #[.int .i64 x] 2)).trans hE)
    clear hr hE
    go_wp2_with fail
    go_ret
    exact ⟨_, _, rfl, by simpa [irow] using HR1.out, HE1.out⟩
/-- The row that grew by one in front. -/
theorem row_front {w1 : World} {own1 : Nat → Nat} {g cap : Nat} {cur : List Value} {xs : List Int} {x : Int} {n : Nat} (hb : Blk w1 own1 k g (.cells cur.toArray 2 (0, 0))) (hn : n = xs.length) (hc : n + 1 ≤ cap) (hm : cap ≤ maxLen) (hs : cur.length = cap)
    (hg : ∀ j, j < n + 1 → cur[j]? = (Value.int .i64 x :: irow xs)[j]?) : Row w1 own1 k 2 1 (.slice (some ⟨g, 0, none⟩) (n + 1) cap) (n + 1) (irow (x :: xs)) := by
  refine ⟨by simp [irow, hn], .inr ⟨g, cap, cur.toArray, rfl, hb, hc, hm, by simp [hs], ?_⟩⟩
  apply List.ext_getElem?
  intro j
  rw [List.getElem?_take]
  by_cases hj : j < (n + 1) * 1
  · rw [if_pos hj]
    exact hg j (by omega)
  · rw [if_neg hj, List.getElem?_eq_none (by simp [irow]; omega)]
set_option maxHeartbeats 2000000 in
/-- slices.Insert of one element in front, where there is room. -/
theorem InsertS_any {n g c : Nat} {xs : List Int} (hR : Row w own k 2 1 (.slice (some ⟨g, 0, none⟩) n c) n (irow xs)) (hn : n = xs.length) (h0 : 0 < n) (hl : n ≤ 1000) (hroom : n + 1 ≤ c) (x : Int) {q : Nat} (hq : w.heap.size = q) :
    Calls Try.prog 43 #[.slice (some ⟨g, 0, none⟩) n c, .int .i64 0, .slice (some ⟨q, 0, none⟩) 1 1] (w.alloc (.cells #[.int .i64 x] 2)) fun e w' => ∃ v' own', e = .returned v' ∧ Row w' own' k 2 1 v' (n + 1) (irow (x :: xs)) ∧ Ext (fun c => c = k) w w' own own' := by
  subst hq
  obtain ⟨h1, h | ⟨g', cap, cur, hv, hb, hc, hm, hs, ht⟩⟩ := hR
  · omega
  injection hv with e1 _ e3
  injection e1 with e1
  injection e1 with e1
  subst e1
  subst e3
  have hsz : (Try.prog.info? 2).map (·.size) = some 1 := by
    obtain ⟨i0, hi0, h0, h1, h2⟩ := parts_i64
    rw [hi0]; simp [h1]
  have hc64 : c ≤ 9223372036854775807 := hm
  have hcl : cur.toList.length = c := by simp [hs]
  have hb0 : Blk (w.alloc (.cells #[.int .i64 x] 2)) own k g (.cells cur.toList.toArray 2 (0, 0)) := by simpa using hb.alloc (.cells #[.int .i64 x] 2)
  have hgq : g ≠ w.heap.size := by have := hb.lt; omega
  generalize hw1 : w.alloc (.cells #[.int .i64 x] 2) = w1 at *
  have hx0 : w1.cell? ⟨w.heap.size, 0, none⟩ = some (.int .i64 x) := by rw [← hw1]; exact new_cell rfl
  have hq0 : w1.heap[w.heap.size]? = some (.cells #[.int .i64 x] 2 (0, 0)) := by rw [← hw1]; exact heap_alloc_new w _
  have hov : ∀ lb cb, (callFunc 55 #[.slice (some ⟨w.heap.size, 0, none⟩) 1 1, .slice (some ⟨g, 1, none⟩) lb cb]).run Try.prog w1 = .ok (.value (.bool false)) w1 := fun lb cb => by
    rw [run_callFunc_extern Try.func55 (by kernel_rfl) (by kernel_rfl) (by kernel_rfl) (e := Extern.SlicesOverlaps.overlaps #[22, 22] #[4]) (by kernel_rfl)]
    rw [Lib.run_overlaps_apart w1 22 4 2 Try.underlying22 1 (fun w => by kernel_rfl) ⟨w.heap.size, 0, none⟩ ⟨g, 1, none⟩ 1 1 lb cb (fun h => hgq h.symm) 2 2 1 c ?_ ?_ (by omega) ?_ ?_]
    · rfl
    · simp [World.shape?, hq0]
    · simp [World.shape?, hb0.at_, hs]
    · simp [World.frozen?, hq0]
    · simp [World.frozen?, hq0]
  have hcell : ∀ j, j < c → (w1.drew.cell? ⟨g, j, none⟩).isSome = true := fun j hj => by
    rw [hb0.drew.cell]
    simp only [List.getElem?_toArray]
    rw [List.getElem?_eq_getElem (by omega)]; rfl
  have hsrc : ∀ j v, (irow xs)[j]? = some v → w1.drew.cell? ⟨g, j, none⟩ = some v := fun j v hj => by
    rw [hb0.drew.cell]
    rw [← ht, List.getElem?_take] at hj
    simp only [List.getElem?_toArray]
    split at hj
    · exact hj
    · cases hj
  have hcp1 : ∀ ty dc sc, (Builtin.copy_ #[22, 22] ty #[.slice (some ⟨g, 1, none⟩) n dc, .slice (some ⟨g, 0, none⟩) (n + 1) sc]).run Try.prog w1.drew = .ok (goInt (irow xs).length) (w1.drew.setCells g 1 (irow xs)) := fun ty dc sc =>
    run_copy_cells w1.drew _ _ ty 2 g 1 n dc ⟨g, 0, none⟩ (n + 1) sc (irow xs) Try.underlying22 hsz (by rw [irow_len, ← hn]; exact (Nat.min_eq_right (by omega)).symm)
      (fun j v hj => by rw [Addr.add_lit, Nat.zero_add]; exact hsrc j v hj)
      (fun j hj => hcell _ (by rw [irow_len] at hj; omega)) (fun j hj => hb0.drew.free _) (irow_one xs)
  have hbA : Blk (w1.drew.setCells g 1 (irow xs)) own k g (.cells (setL cur.toList 1 (irow xs)).toArray 2 (0, 0)) := Blk.setCells (irow xs) 1 hb0.drew
  have hxA : (w1.drew.setCells g 1 (irow xs)).cell? ⟨w.heap.size, 0, none⟩ = some (.int .i64 x) := by
    rw [World.cell?_setCells_out _ _ _ _ _ (fun h _ => absurd h.symm hgq)]
    exact hx0
  have hcp2 : ∀ (W : World), (∀ x, W.cell? x = (w1.drew.setCells g 1 (irow xs)).cell? x) → (∀ x, W.frozen? x = (w1.drew.setCells g 1 (irow xs)).frozen? x) → ∀ ty dc, (Builtin.copy_ #[22, 22] ty #[.slice (some ⟨g, 0, none⟩) (n + 1) dc, .slice (some ⟨w.heap.size, 0, none⟩) 1 1]).run Try.prog W = .ok (goInt ([.int .i64 x] : List Value).length) (W.setCells g 0 [.int .i64 x]) := fun W hWc hWf ty dc =>
    run_copy_cells W _ _ ty 2 g 0 (n + 1) dc ⟨w.heap.size, 0, none⟩ 1 1 [.int .i64 x] Try.underlying22 hsz (by show 1 = Nat.min 1 (n + 1); exact (Nat.min_eq_left (by omega)).symm)
      (one_cell (by rw [hWc]; exact hxA))
      (fun j hj => by
        rw [hWc, hbA.cell]
        simp only [List.getElem?_toArray]
        rw [List.getElem?_eq_getElem (by rw [setL_len, hcl]; simp only [List.length_cons, List.length_nil] at hj; omega)]; rfl) (fun j hj => by rw [hWf]; exact hbA.free _) (one_ok rfl)
  have hEA : Ext (fun c => c = k) w (w1.drew.setCells g 1 (irow xs)) own own := Ext.setCells _ _ (by rw [← hw1]; exact (Ext.refl.alloc _).drew) (fun _ => hb.col)
  have HP := Lib.hid (show Row ((w1.drew.setCells g 1 (irow xs)).setCells g 0 [.int .i64 x]) own k 2 1 (.slice (some ⟨g, 0, none⟩) (n + 1) c) (n + 1) (irow (x :: xs)) from by
    refine row_front (cur := setL (setL cur.toList 1 (irow xs)) 0 [.int .i64 x]) (Blk.setCells [.int .i64 x] 0 hbA) hn hroom hm (by rw [setL_len, setL_len]; exact hcl) fun j hj => ?_
    rw [setL_get _ _ _ _ (by rw [setL_len]; simp; omega)]
    cases j with
    | zero => rw [if_pos (by simp)]; rfl
    | succ j =>
      rw [if_neg (by simp), setL_get _ _ _ _ (by rw [irow_len]; omega), if_pos (by rw [irow_len]; omega)]
      simp)
  have HE := Lib.hid (Ext.setCells (b := g) [.int .i64 x] 0 hEA (fun _ => hb.col))
  have hz2 : ¬ ((0 : Int) = (n : Int)) := by omega
  have hwr : IntKind.i64.wrap (1 : Int) = 1 := by rw [IntKind.wrap_i64]; omega
  have hb3 : (1 : Int) ≤ (n : Int) + 1 := by omega
  have hb4 : ¬ (c = 1) := by omega
  have hb5 : ¬ (c = 0) := by omega
  have hb6 : (0 : Int) ≤ (n : Int) + 1 := by omega
  clear hb0 hb hbA hxA hEA hsrc hcell hcl ht hs hx0 hw1 hn h1
  go_enter Try.func43, Try.ntmps43
  go_wp2_with (simp only [hov])
  go_region_law (refine step_copy_runI rfl _ _ 22 22 rfl _ _ (by simp [Act.eval, Act.put]) (by simp [Act.eval, Act.put]) (hcp1 _ _ _) ?_)
  go_wp2_with (at_builtin; refine wpList_copy_runI _ rfl _ _ 22 22 rfl _ _ rfl rfl (hcp2 _ (fun _ => rfl) (fun _ => rfl) _ _) ?_)
  go_ret
  exact ⟨_, _, rfl, HP.out, HE.out⟩
set_option maxHeartbeats 2000000 in
/-- slices.Insert of one element in front, where there is no room. -/
theorem InsertG_any {n g c : Nat} {xs : List Int} (hR : Row w own k 2 1 (.slice (some ⟨g, 0, none⟩) n c) n (irow xs)) (hn : n = xs.length) (h0 : 0 < n) (hl : n ≤ 1000) (hroom : ¬ (n + 1 ≤ c)) (x : Int) {q : Nat} (hq : w.heap.size = q) :
    Calls Try.prog 43 #[.slice (some ⟨g, 0, none⟩) n c, .int .i64 0, .slice (some ⟨q, 0, none⟩) 1 1] (w.alloc (.cells #[.int .i64 x] 2)) fun e w' => ∃ v' own', e = .returned v' ∧ Row w' own' k 2 1 v' (n + 1) (irow (x :: xs)) ∧ Ext (fun c => c = k) w w' own own' := by
  subst hq
  obtain ⟨h1, h | ⟨g', cap, cur, hv, hb, hc, hm, hs, ht⟩⟩ := hR
  · omega
  injection hv with e1 _ e3
  injection e1 with e1
  injection e1 with e1
  subst e1
  subst e3
  obtain rfl : c = n := by omega
  obtain ⟨i0, hi0, hz0, hzs, hzb⟩ := parts_i64
  have hsz : (Try.prog.info? 2).map (·.size) = some 1 := by rw [hi0]; simp [hzs]
  have hcl : cur.toList.length = c := by simp [hs]
  have hb0 : Blk (w.alloc (.cells #[.int .i64 x] 2)) (PM.ow own w.heap.size k) k g (.cells cur.toList.toArray 2 (0, 0)) := by
    have := (hb.ow k).alloc (.cells #[.int .i64 x] 2)
    simpa using this
  have hgq : g < w.heap.size := hb.lt
  have hsize1 : (w.alloc (.cells #[.int .i64 x] 2)).heap.size = w.heap.size + 1 := World.size_alloc _ _
  have hE0 : Ext (fun c => c = k) w (w.alloc (.cells #[.int .i64 x] 2)).drew own (PM.ow own w.heap.size k) := ((Ext.refl.ow k).alloc _).drew
  have hx0 : (w.alloc (.cells #[.int .i64 x] 2)).cell? ⟨w.heap.size, 0, none⟩ = some (.int .i64 x) := new_cell rfl
  generalize w.alloc (.cells #[.int .i64 x] 2) = w1 at *
  generalize hN : w.heap.size = q at *
  have hold : (Builtin.firstCells i0.size 0 (.slice (some ⟨g, 0, none⟩) 0 c)).run Try.prog w1.drew = .ok ([] : List Value).toArray w1.drew := by
    rw [hzs]
    exact run_firstCells_some w1.drew 1 0 ⟨g, 0, none⟩ 0 c [] rfl (fun j v hj => by cases hj)
  have hrz : ∀ ty, (Builtin.append_ #[22, 3] ty #[.slice (some ⟨g, 0, none⟩) 0 c, .int .i64 ((c : Int) + 1)]).run Try.prog w1 = _ := fun ty =>
    Lib.run_append_grow_zeros w1 22 3 ty 2 i0 _ .i64 .i64 Try.underlying22 Try.underlying3 hi0 hz0 (some ⟨g, 0, none⟩) 0 c [] hold (c + 1) (by omega) (by omega) (by omega) (by omega) (by rw [hzb]; omega) (by rw [hzb]; exact growslice_fits (by omega) (by omega))
  obtain ⟨ROW, hROW⟩ : ∃ r : Array Value, r = ([] : List Value).toArray ++ Builtin.zeroCells (Value.int .i64 0).cells (c + 1) ++ Builtin.zeroCells (Value.int .i64 0).cells (grownCap w1 (0 + (c + 1)) c 2 - (0 + (c + 1))) := ⟨_, rfl⟩
  obtain ⟨G, hG⟩ : ∃ G : Nat, G = grownCap w1 (0 + (c + 1)) c 2 := ⟨_, rfl⟩
  have hG1 : c + 1 ≤ G := by have := grownCap_ge w1 (0 + (c + 1)) c 2; omega
  have hG2 : G ≤ maxLen := by rw [hG]; exact grownCap_le_maxLen w1 _ c 2 (by unfold maxLen; omega)
  have hRl : ROW.toList.length = G := by
    rw [hROW]
    simp only [Array.toList_append, List.length_append, Array.length_toList, size_zeroCells, List.length_nil, List.size_toArray]
    rw [← hG]
    show 0 + (c + 1) * 1 + (G - (0 + (c + 1))) * 1 = G
    omega
  rw [← hROW, ← hG, hsize1] at hrz
  have hsz1 : w1.drew.heap.size = q + 1 := hsize1
  have hnew : Blk (w1.drew.alloc (.cells ROW.toList.toArray 2)) (PM.ow own q k) k (q + 1) (.cells ROW.toList.toArray 2 (0, 0)) := by
    have := Blk.new (own := PM.ow own q k) (k := k) w1.drew (.cells ROW.toList.toArray 2) (ow_ge (by omega))
    rw [hsz1] at this
    exact this
  have hxn : (w1.drew.alloc (.cells ROW 2)).cell? ⟨q, 0, none⟩ = some (.int .i64 x) := by
    exact Lib.cell?_alloc_some _ hx0
  have hsn : ∀ j v, (irow xs)[j]? = some v → (w1.drew.alloc (.cells ROW 2)).cell? ⟨g, j, none⟩ = some v := fun j v hj => by
    refine Lib.cell?_alloc_some _ ?_
    rw [hb0.drew.cell]
    rw [← ht, List.getElem?_take] at hj
    simp only [List.getElem?_toArray]
    split at hj
    · exact hj
    · cases hj
  have hEn : Ext (fun c => c = k) w (w1.drew.alloc (.cells ROW 2)) own (PM.ow own q k) := hE0.alloc _
  rw [Array.toArray_toList] at hnew
  generalize hw2 : w1.drew.alloc (.cells ROW 2) = w2 at *
  have hnew' : Blk w2 (PM.ow own q k) k (q + 1) (.cells ROW.toList.toArray 2 (0, 0)) := by rw [Array.toArray_toList]; exact hnew
  have hbA := Blk.setCells [.int .i64 x] 0 hnew'
  have hxsl : (irow xs).length = c := by rw [irow_len]; exact hn.symm
  have hcpA : ∀ (W : World), (∀ x, W.cell? x = w2.cell? x) → (∀ x, W.frozen? x = w2.frozen? x) → ∀ ty dc, (Builtin.copy_ #[22, 22] ty #[.slice (some ⟨q + 1, 0, none⟩) (c + 1) dc, .slice (some ⟨q, 0, none⟩) 1 1]).run Try.prog W = .ok (goInt ([.int .i64 x] : List Value).length) (W.setCells (q + 1) 0 [.int .i64 x]) := fun W hWc hWf ty dc =>
    run_copy_cells W _ _ ty 2 (q + 1) 0 (c + 1) dc ⟨q, 0, none⟩ 1 1 [.int .i64 x] Try.underlying22 hsz (by show 1 = Nat.min 1 (c + 1); exact (Nat.min_eq_left (by omega)).symm)
      (one_cell (by rw [hWc]; exact hxn))
      (fun j hj => by
        rw [hWc, hnew'.cell]
        simp only [List.getElem?_toArray]
        rw [List.getElem?_eq_getElem (by rw [hRl]; simp only [List.length_cons, List.length_nil] at hj; omega)]; rfl) (fun j hj => by rw [hWf]; exact hnew.free _) (one_ok rfl)
  have hcpB : ∀ (W : World), (∀ z, W.cell? z = (w2.setCells (q + 1) 0 [.int .i64 x]).cell? z) → (∀ z, W.frozen? z = (w2.setCells (q + 1) 0 [.int .i64 x]).frozen? z) → ∀ ty dc sc, (Builtin.copy_ #[22, 22] ty #[.slice (some ⟨q + 1, 1, none⟩) c dc, .slice (some ⟨g, 0, none⟩) c sc]).run Try.prog W = .ok (goInt (irow xs).length) (W.setCells (q + 1) 1 (irow xs)) := fun W hWc hWf ty dc sc =>
    run_copy_cells W _ _ ty 2 (q + 1) 1 c dc ⟨g, 0, none⟩ c sc (irow xs) Try.underlying22 hsz (by rw [hxsl]; exact (Nat.min_self c).symm)
      (fun j v hj => by rw [Addr.add_lit, Nat.zero_add, hWc, World.cell?_setCells_out _ _ _ _ _ (fun h _ => absurd h (by show ¬ (g = q + 1); omega))]; exact hsn j v hj)
      (fun j hj => by
        rw [hWc, hbA.cell]
        simp only [List.getElem?_toArray]
        rw [List.getElem?_eq_getElem (by rw [setL_len, hRl]; omega)]; rfl) (fun j hj => by rw [hWf]; exact hbA.free _) (irow_one xs)
  have HP := Lib.hid (fun (W : World) (hW : W.heap = (w2.setCells (q + 1) 0 [.int .i64 x]).heap) => (show Row (W.setCells (q + 1) 1 (irow xs)) (PM.ow own q k) k 2 1 (.slice (some ⟨q + 1, 0, none⟩) (c + 1) G) (c + 1) (irow (x :: xs)) from by
    have hbW : Blk W (PM.ow own q k) k (q + 1) (.cells (setL ROW.toList 0 [.int .i64 x]).toArray 2 (0, 0)) := ⟨by rw [hW]; exact hbA.at_, hbA.col⟩
    refine row_front (cur := setL (setL ROW.toList 0 [.int .i64 x]) 1 (irow xs)) (Blk.setCells (irow xs) 1 hbW) hn hG1 hG2 (by rw [setL_len, setL_len]; exact hRl) fun j hj => ?_
    rw [setL_get _ _ _ _ (by rw [setL_len, hRl, hxsl]; omega)]
    cases j with
    | zero =>
      rw [if_neg (by simp), setL_get _ _ _ _ (by rw [hRl]; simp; omega), if_pos (by simp)]
      rfl
    | succ j =>
      rw [if_pos (by rw [hxsl]; omega)]
      simp))
  have hEA : Ext (fun c => c = k) w (w2.setCells (q + 1) 0 [.int .i64 x]) own (PM.ow own q k) := Ext.setCells _ _ hEn (fun h => by omega)
  have HE := Lib.hid (fun n => Ext.setCells (b := q + 1) (irow xs) 1 (hEA.drewN n) (fun h => by omega))
  have hz2 : ¬ ((0 : Int) = (c : Int)) := by omega
  have hwr : IntKind.i64.wrap (1 : Int) = 1 := by rw [IntKind.wrap_i64]; omega
  have hb3 : (1 : Int) ≤ (c : Int) + 1 := by omega
  have hb4 : ¬ (G = 1) := by omega
  have hb5 : ¬ (c = 0) := by omega
  have hb6 : (0 : Int) ≤ (c : Int) + 1 := by omega
  have hb7 : ¬ (G = 0) := by omega
  clear hb0 hb hbA hnew hnew' hEA hEn hsn hxn hx0 hcl ht hs hn h1 hRl hROW hG hold hE0 hsize1 hsz1 hw2 hN hgq hc hroom
  go_enter Try.func43, Try.ntmps43
  go_wp2_with (first
    | (at_builtin; refine Lib.wpList_append_run _ rfl _ _ _ _ rfl _ _ rfl rfl _ _ (hrz _) ?_)
    | (at_builtin; refine wpList_copy_runI _ rfl _ _ 22 22 rfl _ _ rfl rfl (hcpA _ (fun _ => rfl) (fun _ => rfl) _ _) ?_))
  go_region_law (refine step_copy_runI rfl _ _ 22 22 rfl (.slice (some ⟨q + 1, 1, none⟩) c (G - 1)) (.slice (some ⟨g, 0, none⟩) c c) (by simp [Act.eval, Act.put]) (by simp [Act.eval, Act.put]) (hcpB (w2.setCells (q + 1) 0 [.int .i64 x]).drew (fun _ => rfl) (fun _ => rfl) _ _ _) ?_)
  go_wp2_with fail
  go_ret
  exact ⟨_, _, rfl, HP.out _ rfl, HE.out 1⟩
/-- slices.Insert of one element in front. -/
theorem InsertF_any {n q : Nat} {v : Value} {xs : List Int} (hR : Row w own k 2 1 v n (irow xs)) (hn : n = xs.length) (hl : n ≤ 1000) (x : Int) (hq : w.heap.size = q) :
    Calls Try.prog 43 #[v, .int .i64 0, .slice (some ⟨q, 0, none⟩) 1 1] (w.alloc (.cells #[.int .i64 x] 2)) fun e w' => ∃ v' own', e = .returned v' ∧ Row w' own' k 2 1 v' (n + 1) (irow (x :: xs)) ∧ Ext (fun c => c = k) w w' own own' := by
  by_cases h0 : 0 < n
  · obtain ⟨a, c, rfl⟩ := hR.shape
    obtain ⟨g, cap, cur, hv, _⟩ := hR.cells h0
    injection hv with e1 _ e3
    subst e1
    subst e3
    by_cases hroom : n + 1 ≤ c
    · exact InsertS_any hR hn h0 hl hroom x hq
    · exact InsertG_any hR hn h0 hl hroom x hq
  · obtain rfl : n = 0 := by omega
    obtain rfl : xs = [] := List.length_eq_zero_iff.1 hn.symm
    exact InsertE_any hR hn hl x hq
set_option maxHeartbeats 2000000 in
/-- slices.Delete of one element. -/
theorem DeleteL_any {n i : Nat} {v : Value} {xs : List Int} (hR : Row w own k 2 1 v n (irow xs)) (hn : n = xs.length) (hl : n ≤ 1000) (hi : i < n) :
    Calls Try.prog 41 #[v, .int .i64 i, .int .i64 ((i : Int) + 1)] w fun e w' => ∃ v', e = .returned v' ∧ Row w' own k 2 1 v' (n - 1) (irow (xs.eraseIdx i)) ∧ Ext (fun c => c = k) w w' own own := by
  obtain ⟨a, c, rfl⟩ := hR.shape
  obtain ⟨h1, h | ⟨g, cap, cur, hv, hb, hc, hm, hs, ht⟩⟩ := hR
  · omega
  injection hv with e1 _ e3
  subst e1
  subst e3
  obtain ⟨i0, hi0, hz0, hzs, hzb⟩ := parts_i64
  have hcl : cur.toList.length = c := by simp [hs]
  have hb0 : Blk w own k g (.cells cur.toList.toArray 2 (0, 0)) := by simpa using hb
  have hz : ∀ w, (zeroValue 2).run Try.prog w = .ok (.int .i64 0) w := fun w => by kernel_rfl
  have hdl : (irow (xs.drop (i + 1))).length = n - (i + 1) := by rw [irow_len, List.length_drop, hn]
  have hget : ∀ j, j < n → cur.toList[j]? = (irow xs)[j]? := fun j hj => by rw [← ht, List.getElem?_take, if_pos (by omega)]
  have hnews : ∀ j u, (irow (xs.drop (i + 1)))[j]? = some u → w.drew.cell? ⟨g, i + 1 + j, none⟩ = some u := fun j u hj => by
    have hlt := (List.getElem?_eq_some_iff.1 hj).1
    rw [hdl] at hlt
    rw [hb0.drew.cell]
    simp only [List.getElem?_toArray]
    rw [hget _ (by omega), irow_get]
    rw [irow_get, List.getElem?_drop] at hj
    exact hj
  have hln : (irow (xs.drop (i + 1))).length = (n - (i + 1)) * 1 := by rw [hdl, Nat.mul_one]
  have hsp : ∀ j, j < (irow (xs.drop (i + 1))).length → (w.drew.cell? ⟨g, 0 + i * 1 + j, none⟩).isSome = true ∧ w.drew.frozen? ⟨g, 0 + i * 1 + j, none⟩ = false := fun j hj => by
    rw [hdl] at hj
    refine ⟨?_, hb0.drew.free _⟩
    rw [hb0.drew.cell]
    simp only [List.getElem?_toArray]
    rw [List.getElem?_eq_getElem (by omega)]; rfl
  have hbA : Blk (w.drew.setCells g (0 + i * 1) (irow (xs.drop (i + 1)))) own k g (.cells (setL cur.toList (0 + i * 1) (irow (xs.drop (i + 1)))).toArray 2 (0, 0)) := Blk.setCells _ _ hb0.drew
  have hEA : Ext (fun c => c = k) w (w.drew.setCells g (0 + i * 1) (irow (xs.drop (i + 1)))) own own := Ext.setCells _ _ Ext.refl.drew (fun _ => hb.col)
  have hlA : (setL cur.toList (0 + i * 1) (irow (xs.drop (i + 1)))).length = c := by rw [setL_len]; exact hcl
  have hgA : ∀ j, j < n - 1 → (setL cur.toList (0 + i * 1) (irow (xs.drop (i + 1))))[j]? = (irow (xs.eraseIdx i))[j]? := fun j hj => by
    rw [setL_get _ _ _ _ (by rw [hdl]; omega), hdl, irow_get, irow_get, List.getElem?_eraseIdx]
    by_cases h2 : 0 + i * 1 ≤ j ∧ j < 0 + i * 1 + (n - (i + 1))
    · rw [if_pos h2, if_neg (by omega), List.getElem?_drop]
      congr 2
      omega
    · rw [if_neg h2, hget _ (by omega), irow_get]
      congr 1
      rw [if_pos (by omega)]
  generalize setL cur.toList (0 + i * 1) (irow (xs.drop (i + 1))) = cur2 at *
  have hclr := fun ty cc => run_clear_rows (P := Try.prog) (w.drew.setCells g (0 + i * 1) (irow (xs.drop (i + 1)))) 22 2 ty (.int .i64 0) Try.underlying22 hz (by intro v hv; simp [Value.cells] at hv; rw [hv]; rfl) g (n - 1) 1 cc (by omega) cur2.toArray hbA.at_ (by simp only [List.size_toArray]; rw [hlA]; show n - 1 + 1 * 1 ≤ c; omega) (by decide)
  have hP : Row ((w.drew.setCells g (0 + i * 1) (irow (xs.drop (i + 1)))).setRow g (cur2.toArray.toList.take (n - 1) ++ (Builtin.zeroCells (Value.int .i64 0).cells 1).toList ++ cur2.toArray.toList.drop (n - 1 + 1 * (Value.int .i64 0).cells.size)).toArray) own k 2 1 (.slice (some ⟨g, 0, none⟩) (n - 1) c) (n - 1) (irow (xs.eraseIdx i)) := by
    have hel : (xs.eraseIdx i).length = n - 1 := by rw [List.length_eraseIdx, if_pos (by omega), hn]
    refine ⟨by rw [irow_len, hel, Nat.mul_one], .inr ⟨g, c, _, rfl, ⟨setRow_heap _ g _ _ _ _ hbA.at_, hbA.col⟩, by omega, hm, ?_, ?_⟩⟩
    · have hzs : (Value.cells (.int .i64 0)).size = 1 := rfl
      simp only [List.size_toArray, List.length_append, List.length_take, List.length_drop, Array.length_toList, size_zeroCells, hzs]
      omega
    · apply List.ext_getElem?
      intro j
      rw [List.getElem?_take, Nat.mul_one]
      by_cases hj : j < n - 1
      · rw [if_pos hj, List.append_assoc, List.getElem?_append_left (by simp only [List.length_take, Array.length_toList, List.size_toArray]; omega), List.getElem?_take, if_pos hj]
        exact hgA j hj
      · rw [if_neg hj, List.getElem?_eq_none (by rw [irow_len, hel]; omega)]
  have hE := Ext.setRow (g := g) hEA (fun _ => hb.col) (cur2.toArray.toList.take (n - 1) ++ (Builtin.zeroCells (Value.int .i64 0).cells 1).toList ++ cur2.toArray.toList.drop (n - 1 + 1 * (Value.int .i64 0).cells.size)).toArray
  generalize (w.drew.setCells g (0 + i * 1) (irow (xs.drop (i + 1)))).setRow g (cur2.toArray.toList.take (n - 1) ++ (Builtin.zeroCells (Value.int .i64 0).cells 1).toList ++ cur2.toArray.toList.drop (n - 1 + 1 * (Value.int .i64 0).cells.size)).toArray = w9 at *
  have HP := Lib.hid hP
  have HE := Lib.hid hE
  have hwr : IntKind.i64.wrap ((i : Int) + 1) = (i : Int) + 1 := by rw [IntKind.wrap_i64]; omega
  have hc64 : c ≤ 9223372036854775807 := hm
  have hp0 : (0 : Int) ≤ (i : Int) + 1 := by omega
  have hp1 : (i : Int) + 1 ≤ (n : Int) := by omega
  have hp2 : ((i : Int) + 1).toNat = i + 1 := by omega
  have hp3 : i + (n - (i + 1)) = n - 1 := by omega
  have hp4 : ((n - 1 : Nat) : Int) = (n : Int) - 1 := by omega
  have hp5 : n - (n - 1) = 1 := by omega
  have hic : i ≤ c := by omega
  have hiq : (i : Int) ≤ (i : Int) + 1 := by omega
  have hne : ¬ ((i : Int) = (i : Int) + 1) := by omega
  have hc1 : ¬ (c = n - 1) := by omega
  have HNW := Lib.hid hnews
  rw [show 0 + i * 1 = i by omega] at hclr
  clear hnews hget hcl hb0 hbA hEA hlA hgA hP hE hb hs ht h1 hn hdl hz
  by_cases hci : c = i + 1
  · obtain rfl : n = i + 1 := by omega
    subst hci
    have hln0 : (irow (xs.drop (i + 1))).length = 0 * 1 := by rw [hln]; omega
    have HN := Lib.hid (show ∀ j u, (irow (xs.drop (i + 1)))[j]? = some u → w.drew.cell? ((⟨g, 0, none⟩ : Addr).add j) = some u from fun j u hj => by
      have hlt := (List.getElem?_eq_some_iff.1 hj).1
      rw [hln0] at hlt
      omega)
    simp only [Nat.add_sub_cancel] at hclr HP
    go_enter Try.func41, Try.ntmps41
    go_wp2_with fail
    go_region_law (refine step_append_room rfl _ _ 22 rfl 2 i0 1 Try.underlying22 hi0 hzs g 0 i (i + 1) (by simp [Act.eval, Act.put]) ⟨g, 0, none⟩ 0 0 (irow (xs.drop (i + 1))) (by simp [Act.eval, Act.put]) hln0 HN.out (irow_one _) (by omega) hsp ?_)
    go_wp2_with fail
    go_ret
    exact ⟨_, rfl, HP.out, HE.out⟩
  · have HN := Lib.hid (show ∀ j u, (irow (xs.drop (i + 1)))[j]? = some u → w.drew.cell? ((⟨g, i + 1, none⟩ : Addr).add j) = some u from fun j u hj => by
      rw [Addr.add_lit]; exact HNW.out j u hj)
    go_enter Try.func41, Try.ntmps41
    go_wp2_with fail
    go_region_law (refine step_append_room rfl _ _ 22 rfl 2 i0 1 Try.underlying22 hi0 hzs g 0 i c (by simp [Act.eval, Act.put]) ⟨g, i + 1, none⟩ (n - (i + 1)) (c - (i + 1)) (irow (xs.drop (i + 1))) (by simp [Act.eval, Act.put]) hln HN.out (irow_one _) (by omega) hsp ?_)
    go_wp2_with fail
    go_ret
    exact ⟨_, rfl, HP.out, HE.out⟩
end
end Go.Proofs.Ytefhngbeodnldaa
