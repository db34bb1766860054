/- Layer 5's laws: the law's world, its rows read and written. -/
import Derived.Test.YtefhngbeodnldaaChainMade
set_option maxRecDepth 20000
set_option linter.unusedVariables false
set_option linter.unusedSimpArgs false
namespace Go.Proofs.Ytefhngbeodnldaa
open Go.RowKit Go.PM
def upd {α : Type} (f : Nat → α) (t : Nat) (x : α) : Nat → α := fun i => if i = t then x else f i
theorem upd_same {α : Type} (f : Nat → α) (t : Nat) (x : α) : upd f t x t = x := if_pos rfl
theorem upd_ne {α : Type} (f : Nat → α) {t i : Nat} (x : α) (h : i ≠ t) : upd f t x i = f i := if_neg h
theorem nine {P : Nat → Prop} (h0 : P 0) (h1 : P 1) (h2 : P 2) (h3 : P 3) (h4 : P 4) (h5 : P 5) (h6 : P 6) (h7 : P 7) (h8 : P 8) {t : Nat} (ht : t < 9) : P t :=
  match t, ht with
  | 0, _ => h0
  | 1, _ => h1
  | 2, _ => h2
  | 3, _ => h3
  | 4, _ => h4
  | 5, _ => h5
  | 6, _ => h6
  | 7, _ => h7
  | 8, _ => h8
  | n + 9, h => absurd h (by omega)
theorem ptrs_get (f : Nat → Option CO) (ad : Nat → Nat) {t : Nat} (ht : t < 9) : (ptrs f ad).toArray[t]? = some (.pointer ((f t).map fun _ => ⟨ad t, 0, none⟩)) :=
  nine (P := fun t => (ptrs f ad).toArray[t]? = some (.pointer ((f t).map fun _ => ⟨ad t, 0, none⟩))) rfl rfl rfl rfl rfl rfl rfl rfl rfl ht
theorem dids_get (f : Nat → Bool) {t : Nat} (ht : t < 9) : (dids f).toArray[t]? = some (.bool (f t)) :=
  nine (P := fun t => (dids f).toArray[t]? = some (.bool (f t))) rfl rfl rfl rfl rfl rfl rfl rfl rfl ht
theorem asks_get (f : Nat → AskV) {t : Nat} (ht : t < 9) : (asks f).toArray[4 * t]? = some (.int .i64 (f t).kind) ∧ (asks f).toArray[4 * t + 1]? = some (.int .i64 (f t).t) ∧ (asks f).toArray[4 * t + 2]? = some (.int .i64 (f t).chain) ∧ (asks f).toArray[4 * t + 3]? = some (.int .i64 (f t).v) :=
  nine (P := fun t => (asks f).toArray[4 * t]? = some (.int .i64 (f t).kind) ∧ (asks f).toArray[4 * t + 1]? = some (.int .i64 (f t).t) ∧ (asks f).toArray[4 * t + 2]? = some (.int .i64 (f t).chain) ∧ (asks f).toArray[4 * t + 3]? = some (.int .i64 (f t).v)) ⟨rfl, rfl, rfl, rfl⟩ ⟨rfl, rfl, rfl, rfl⟩ ⟨rfl, rfl, rfl, rfl⟩ ⟨rfl, rfl, rfl, rfl⟩ ⟨rfl, rfl, rfl, rfl⟩ ⟨rfl, rfl, rfl, rfl⟩ ⟨rfl, rfl, rfl, rfl⟩ ⟨rfl, rfl, rfl, rfl⟩ ⟨rfl, rfl, rfl, rfl⟩ ht
theorem wants_get (f : Nat → AnsV) (vs : Nat → Value) {t : Nat} (ht : t < 9) : (wants f vs).toArray[4 * t]? = some (.int .i64 (f t).err) ∧ (wants f vs).toArray[4 * t + 1]? = some (.bool (f t).ok) ∧ (wants f vs).toArray[4 * t + 2]? = some (.int .i64 (f t).stamp) ∧ (wants f vs).toArray[4 * t + 3]? = some (vs t) :=
  nine (P := fun t => (wants f vs).toArray[4 * t]? = some (.int .i64 (f t).err) ∧ (wants f vs).toArray[4 * t + 1]? = some (.bool (f t).ok) ∧ (wants f vs).toArray[4 * t + 2]? = some (.int .i64 (f t).stamp) ∧ (wants f vs).toArray[4 * t + 3]? = some (vs t)) ⟨rfl, rfl, rfl, rfl⟩ ⟨rfl, rfl, rfl, rfl⟩ ⟨rfl, rfl, rfl, rfl⟩ ⟨rfl, rfl, rfl, rfl⟩ ⟨rfl, rfl, rfl, rfl⟩ ⟨rfl, rfl, rfl, rfl⟩ ⟨rfl, rfl, rfl, rfl⟩ ⟨rfl, rfl, rfl, rfl⟩ ⟨rfl, rfl, rfl, rfl⟩ ht
theorem ptrs_none (f : Nat → Option CO) (ad : Nat → Nat) {t : Nat} (ht : t < 9) : (ptrs f ad).toArray.setIfInBounds t (.pointer none) = (ptrs (upd f t none) ad).toArray :=
  nine (P := fun t => (ptrs f ad).toArray.setIfInBounds t (.pointer none) = (ptrs (upd f t none) ad).toArray) rfl rfl rfl rfl rfl rfl rfl rfl rfl ht
theorem ptrs_some (f : Nat → Option CO) (ad : Nat → Nat) (O : CO) (o : Nat) {t : Nat} (ht : t < 9) : (ptrs f ad).toArray.setIfInBounds t (.pointer (some ⟨o, 0, none⟩)) = (ptrs (upd f t (some O)) (upd ad t o)).toArray :=
  nine (P := fun t => (ptrs f ad).toArray.setIfInBounds t (.pointer (some ⟨o, 0, none⟩)) = (ptrs (upd f t (some O)) (upd ad t o)).toArray) rfl rfl rfl rfl rfl rfl rfl rfl rfl ht
theorem dids_set (f : Nat → Bool) (x : Bool) {t : Nat} (ht : t < 9) : (dids f).toArray.setIfInBounds t (.bool x) = (dids (upd f t x)).toArray :=
  nine (P := fun t => (dids f).toArray.setIfInBounds t (.bool x) = (dids (upd f t x)).toArray) rfl rfl rfl rfl rfl rfl rfl rfl rfl ht
theorem asks_set (f : Nat → AskV) (x : AskV) {t : Nat} (ht : t < 9) : (((((asks f).toArray.setIfInBounds (4 * t) (.int .i64 x.kind)).setIfInBounds (4 * t + 1) (.int .i64 x.t)).setIfInBounds (4 * t + 2) (.int .i64 x.chain)).setIfInBounds (4 * t + 3) (.int .i64 x.v)) = (asks (upd f t x)).toArray :=
  nine (P := fun t => (((((asks f).toArray.setIfInBounds (4 * t) (.int .i64 x.kind)).setIfInBounds (4 * t + 1) (.int .i64 x.t)).setIfInBounds (4 * t + 2) (.int .i64 x.chain)).setIfInBounds (4 * t + 3) (.int .i64 x.v)) = (asks (upd f t x)).toArray) (by kernel_rfl) (by kernel_rfl) (by kernel_rfl) (by kernel_rfl) (by kernel_rfl) (by kernel_rfl) (by kernel_rfl) (by kernel_rfl) (by kernel_rfl) ht
theorem wants_set (f : Nat → AnsV) (vs : Nat → Value) (x : AnsV) (v : Value) {t : Nat} (ht : t < 9) : (((((wants f vs).toArray.setIfInBounds (4 * t) (.int .i64 x.err)).setIfInBounds (4 * t + 1) (.bool x.ok)).setIfInBounds (4 * t + 2) (.int .i64 x.stamp)).setIfInBounds (4 * t + 3) v) = (wants (upd f t x) (upd vs t v)).toArray :=
  nine (P := fun t => (((((wants f vs).toArray.setIfInBounds (4 * t) (.int .i64 x.err)).setIfInBounds (4 * t + 1) (.bool x.ok)).setIfInBounds (4 * t + 2) (.int .i64 x.stamp)).setIfInBounds (4 * t + 3) v) = (wants (upd f t x) (upd vs t v)).toArray) (by kernel_rfl) (by kernel_rfl) (by kernel_rfl) (by kernel_rfl) (by kernel_rfl) (by kernel_rfl) (by kernel_rfl) (by kernel_rfl) (by kernel_rfl) ht
theorem ptrs_keep (f : Nat → Option CO) (ad : Nat → Nat) (O O' : CO) {t : Nat} (ho : f t = some O) : ptrs (upd f t (some O')) ad = ptrs f ad := by
  unfold ptrs
  refine List.map_congr_left fun i _ => ?_
  by_cases h : i = t
  · subst h; rw [upd_same, ho]; rfl
  · rw [upd_ne _ _ h]
section
variable {w w' : World} {own own' : Nat → Nat} {q : Nat} {P : LB} {L : LV} {ad : Nat → Nat}
theorem LAt.opc (h : LAt q P L ad w own) {t : Nat} (ht : t < 9) : w.cell? ⟨P.po, t, none⟩ = some (.pointer ((L.op t).map fun _ => ⟨ad t, 0, none⟩)) := (h.ops.cell t).trans (ptrs_get _ _ ht)
theorem LAt.didc (h : LAt q P L ad w own) {t : Nat} (ht : t < 9) : w.cell? ⟨P.pd, t, none⟩ = some (.bool (L.did t)) := (h.did.cell t).trans (dids_get _ ht)
theorem LAt.whatc (h : LAt q P L ad w own) {t : Nat} (ht : t < 9) : w.cell? ⟨P.pw, 4 * t, none⟩ = some (.int .i64 (L.what t).kind) ∧ w.cell? ⟨P.pw, 4 * t + 1, none⟩ = some (.int .i64 (L.what t).t) ∧ w.cell? ⟨P.pw, 4 * t + 2, none⟩ = some (.int .i64 (L.what t).chain) ∧ w.cell? ⟨P.pw, 4 * t + 3, none⟩ = some (.int .i64 (L.what t).v) := by
  obtain ⟨h0, h1, h2, h3⟩ := asks_get L.what ht
  exact ⟨(h.what.cell _).trans h0, (h.what.cell _).trans h1, (h.what.cell _).trans h2, (h.what.cell _).trans h3⟩
/-- A thread's operation has been stepped. -/
theorem LAt.stepped {t : Nat} {V' : AV} {Y' : YV} {O O' : CO} (h : LAt q P L ad w own) (ht : t < 9) (ho : L.op t = some O) (hc : CPost q (q + 10 + 4 * t) P.a P.y P.b (ad t) V' Y' L.B O' w own w') :
    ∃ own', LAt q P { L with V := V', Y := Y', op := upd L.op t (some O') } ad w' own' ∧ Ext (fun c => c = q + 1 ∨ c = q + 2 ∨ OpC (q + 10 + 4 * t) c) w w' own own' := by
  obtain ⟨own', ev, lw, hE, hA, hY, hB, hO⟩ := hc
  obtain ⟨h1, -, h3, ⟨mv, h4, h5⟩, h6, h7, h8, ⟨vs, h9, h10⟩, h11⟩ := h
  have hk : ∀ k, q + 3 ≤ k → k < q + 10 → ¬ (k = q + 1 ∨ k = q + 2 ∨ OpC (q + 10 + 4 * t) k) := fun k hk1 hk2 hm => by rcases hm with h | h | ⟨h, _⟩ <;> omega
  have hcc : ∀ g, g < w.heap.size → own g = q + 6 → w'.heap[g]? = w.heap[g]? ∧ own' g = q + 6 := fun g hg ho => ⟨hE.same g hg (by rw [ho]; exact hk _ (by omega) (by omega)), by rw [hE.col g hg]; exact ho⟩
  refine ⟨own', ⟨hA, ⟨ev, lw, hY⟩, hB, ⟨mv, h4.ext hE (hk _ (by omega) (by omega)), h5.carry hE.size hcc⟩, ?_, h7.ext hE (hk _ (by omega) (by omega)), h8.ext hE (hk _ (by omega) (by omega)), ⟨vs, h9.ext hE (hk _ (by omega) (by omega)), fun t ht => (h10 t ht).carry hE.size hcc⟩, fun i Oi hi hoi => ?_⟩, hE⟩
  · have := h6.ext hE (hk _ (by omega) (by omega))
    rw [← ptrs_keep L.op ad O O' ho] at this
    exact this
  · by_cases hit : i = t
    · subst hit
      have hoi : upd L.op i (some O') i = some Oi := hoi
      rw [upd_same] at hoi
      cases hoi
      exact hO
    · have hoi : upd L.op t (some O') i = some Oi := hoi
      rw [upd_ne _ _ hit] at hoi
      exact (h11 i Oi hi hoi).ext hE (fun c hc1 hc2 hm => by rcases hm with h | h | ⟨h, h'⟩ <;> omega)
/-- The law's rows have been written. -/
theorem LAt.rows {op' : Nat → Option CO} {ad' : Nat → Nat} {what' : Nat → AskV} {did' : Nat → Bool} {want' : Nat → AnsV} (h : LAt q P L ad w own) (e : Ext (fun c => c = q + 5) w w' own own)
    (ho : w'.heap[P.po]? = some (.cells (ptrs op' ad').toArray 27 (0, 0))) (hw : w'.heap[P.pw]? = some (.cells (asks what').toArray 57 (0, 0))) (hd : w'.heap[P.pd]? = some (.cells (dids did').toArray 4 (0, 0)))
    (hn : ∃ vs, w'.heap[P.pn]? = some (.cells (wants want' vs).toArray 41 (0, 0)) ∧ ∀ t, t < 9 → VwC w (fun g => own g = q + 6) (vs t) (want' t).values)
    (hop : ∀ t O, t < 9 → op' t = some O → CAt w own (q + 10 + 4 * t) (ad' t) P.b O) : LAt q P { L with op := op', what := what', did := did', want := want' } ad' w' own := by
  obtain ⟨h1, ⟨ev, lw, h2⟩, h3, ⟨mv, h4, h5⟩, h6, h7, h8, ⟨vs0, h9, h10⟩, h11⟩ := h
  obtain ⟨vs, hn1, hn2⟩ := hn
  have hc : ∀ g, g < w.heap.size → own g = q + 6 → w'.heap[g]? = w.heap[g]? ∧ own g = q + 6 := fun g hg ho => ⟨e.same g hg (by rw [ho]; omega), ho⟩
  exact ⟨h1.ext e (by omega), ⟨ev, lw, h2.ext e (by omega)⟩, h3.ext e (by omega), ⟨mv, h4.ext e (by omega), h5.carry e.size hc⟩, ⟨ho, h6.col⟩, ⟨hw, h7.col⟩, ⟨hd, h8.col⟩, ⟨vs, ⟨hn1, h9.col⟩, fun t ht => (hn2 t ht).carry e.size hc⟩, fun t O ht ho => (hop t O ht ho).ext e (by omega)⟩
/-- The four rows lie apart. -/
theorem LAt.apart (h : LAt q P L ad w own) : P.po ≠ P.pw ∧ P.po ≠ P.pd ∧ P.po ≠ P.pn ∧ P.pw ≠ P.pd ∧ P.pw ≠ P.pn ∧ P.pd ≠ P.pn := by
  obtain ⟨vs, hn, -⟩ := h.want
  refine ⟨h.ops.ne_obj h.what ?_, h.ops.ne_obj h.did ?_, h.ops.ne_obj hn ?_, h.what.ne_obj h.did ?_, h.what.ne_obj hn ?_, h.did.ne_obj hn ?_⟩ <;> (intro h; injection h with _ h; cases h)
theorem LAt.putNone (h : LAt q P L ad w own) {t : Nat} (ht : t < 9) : LAt q P { L with op := upd L.op t none } ad (w.setCell ⟨P.po, t, none⟩ (.pointer none)) own ∧ Ext (fun c => c = q + 5) w (w.setCell ⟨P.po, t, none⟩ (.pointer none)) own own := by
  have e : Ext (fun c => c = q + 5) w (w.setCell ⟨P.po, t, none⟩ (.pointer none)) own own := (Ext.refl (M := fun c => c = q + 5)).setCell (a := ⟨P.po, t, none⟩) (fun _ => h.ops.col) _
  obtain ⟨a1, a2, a3, a4, a5, a6⟩ := h.apart
  obtain ⟨vs, hn, hv⟩ := h.want
  refine ⟨h.rows e ?_ ?_ ?_ ⟨vs, ?_, hv⟩ (fun i O hi ho => ?_), e⟩
  · have := (h.ops.setCell t (.pointer none)).at_
    rw [ptrs_none _ _ ht] at this
    exact this
  · exact (h.what.setCell_other (a := ⟨P.po, t, none⟩) (Ne.symm a1) _).at_
  · exact (h.did.setCell_other (a := ⟨P.po, t, none⟩) (Ne.symm a2) _).at_
  · exact (hn.setCell_other (a := ⟨P.po, t, none⟩) (Ne.symm a3) _).at_
  · by_cases hit : i = t
    · subst hit; rw [upd_same] at ho; cases ho
    · rw [upd_ne _ _ hit] at ho; exact h.op i O hi ho
theorem LAt.putDid (h : LAt q P L ad w own) (x : Bool) {t : Nat} (ht : t < 9) : LAt q P { L with did := upd L.did t x } ad (w.setCell ⟨P.pd, t, none⟩ (.bool x)) own ∧ Ext (fun c => c = q + 5) w (w.setCell ⟨P.pd, t, none⟩ (.bool x)) own own := by
  have e : Ext (fun c => c = q + 5) w (w.setCell ⟨P.pd, t, none⟩ (.bool x)) own own := (Ext.refl (M := fun c => c = q + 5)).setCell (a := ⟨P.pd, t, none⟩) (fun _ => h.did.col) _
  obtain ⟨a1, a2, a3, a4, a5, a6⟩ := h.apart
  obtain ⟨vs, hn, hv⟩ := h.want
  refine ⟨h.rows e ?_ ?_ ?_ ⟨vs, ?_, hv⟩ h.op, e⟩
  · exact (h.ops.setCell_other (a := ⟨P.pd, t, none⟩) a2 _).at_
  · exact (h.what.setCell_other (a := ⟨P.pd, t, none⟩) a4 _).at_
  · have := (h.did.setCell t (.bool x)).at_
    rw [dids_set _ _ ht] at this
    exact this
  · exact (hn.setCell_other (a := ⟨P.pd, t, none⟩) (Ne.symm a6) _).at_
def put4 (w : World) (b i : Nat) (x0 x1 x2 x3 : Value) : World := (((w.setCell ⟨b, i, none⟩ x0).setCell ⟨b, i + 1, none⟩ x1).setCell ⟨b, i + 2, none⟩ x2).setCell ⟨b, i + 3, none⟩ x3
theorem put4_ext {b : Nat} {k : Nat} (hb : own b = k) (i : Nat) (x0 x1 x2 x3 : Value) : Ext (fun c => c = k) w (put4 w b i x0 x1 x2 x3) own own :=
  ((((Ext.refl (M := fun c => c = k)).setCell (a := ⟨b, i, none⟩) (fun _ => hb) _).setCell (a := ⟨b, i + 1, none⟩) (fun _ => hb) _).setCell (a := ⟨b, i + 2, none⟩) (fun _ => hb) _).setCell (a := ⟨b, i + 3, none⟩) (fun _ => hb) _
theorem put4_other {b k c : Nat} {o : Obj} (h : Blk w own k c o) (hb : c ≠ b) (i : Nat) (x0 x1 x2 x3 : Value) : Blk (put4 w b i x0 x1 x2 x3) own k c o :=
  (((h.setCell_other (a := ⟨b, i, none⟩) hb _).setCell_other (a := ⟨b, i + 1, none⟩) hb _).setCell_other (a := ⟨b, i + 2, none⟩) hb _).setCell_other (a := ⟨b, i + 3, none⟩) hb _
theorem LAt.putWant (h : LAt q P L ad w own) (A : AnsV) {v : Value} (hA : VwC w (fun g => own g = q + 6) v A.values) {t : Nat} (ht : t < 9) : LAt q P { L with want := upd L.want t A } ad (put4 w P.pn (4 * t) (.int .i64 A.err) (.bool A.ok) (.int .i64 A.stamp) v) own ∧ Ext (fun c => c = q + 5) w (put4 w P.pn (4 * t) (.int .i64 A.err) (.bool A.ok) (.int .i64 A.stamp) v) own own := by
  obtain ⟨a1, a2, a3, a4, a5, a6⟩ := h.apart
  obtain ⟨vs, hn, hv⟩ := h.want
  have e := put4_ext (w := w) hn.col (4 * t) (.int .i64 A.err) (.bool A.ok) (.int .i64 A.stamp) v
  refine ⟨h.rows e ?_ ?_ ?_ ⟨upd vs t v, ?_, fun i hi => ?_⟩ h.op, e⟩
  · exact (put4_other h.ops a3 _ _ _ _ _).at_
  · exact (put4_other h.what a5 _ _ _ _ _).at_
  · exact (put4_other h.did a6 _ _ _ _ _).at_
  · have := ((((hn.setCell (4 * t) (.int .i64 A.err)).setCell (4 * t + 1) (.bool A.ok)).setCell (4 * t + 2) (.int .i64 A.stamp)).setCell (4 * t + 3) v).at_
    rw [wants_set _ _ _ _ ht] at this
    exact this
  · by_cases hit : i = t
    · subst hit; rw [upd_same, upd_same]; exact hA
    · rw [upd_ne _ _ hit, upd_ne _ _ hit]; exact hv i hi
theorem LAt.putWhat (h : LAt q P L ad w own) (A : AskV) {t : Nat} (ht : t < 9) : LAt q P { L with what := upd L.what t A } ad (put4 w P.pw (4 * t) (.int .i64 A.kind) (.int .i64 A.t) (.int .i64 A.chain) (.int .i64 A.v)) own ∧ Ext (fun c => c = q + 5) w (put4 w P.pw (4 * t) (.int .i64 A.kind) (.int .i64 A.t) (.int .i64 A.chain) (.int .i64 A.v)) own own := by
  obtain ⟨a1, a2, a3, a4, a5, a6⟩ := h.apart
  obtain ⟨vs, hn, hv⟩ := h.want
  have e := put4_ext (w := w) h.what.col (4 * t) (.int .i64 A.kind) (.int .i64 A.t) (.int .i64 A.chain) (.int .i64 A.v)
  refine ⟨h.rows e ?_ ?_ ?_ ⟨vs, ?_, hv⟩ h.op, e⟩
  · exact (put4_other h.ops a1 _ _ _ _ _).at_
  · have := ((((h.what.setCell (4 * t) (.int .i64 A.kind)).setCell (4 * t + 1) (.int .i64 A.t)).setCell (4 * t + 2) (.int .i64 A.chain)).setCell (4 * t + 3) (.int .i64 A.v)).at_
    rw [asks_set _ _ ht] at this
    exact this
  · exact (put4_other h.did (Ne.symm a4) _ _ _ _ _).at_
  · exact (put4_other hn (Ne.symm a5) _ _ _ _ _).at_
/-- An operation is laid into its thread's place. -/
theorem LAt.putOp (h : LAt q P L ad w own) {O : CO} {o : Nat} {t : Nat} (ht : t < 9) (hO : CAt w own (q + 10 + 4 * t) o P.b O) : LAt q P { L with op := upd L.op t (some O) } (upd ad t o) (w.setCell ⟨P.po, t, none⟩ (.pointer (some ⟨o, 0, none⟩))) own ∧ Ext (fun c => c = q + 5) w (w.setCell ⟨P.po, t, none⟩ (.pointer (some ⟨o, 0, none⟩))) own own := by
  have e : Ext (fun c => c = q + 5) w (w.setCell ⟨P.po, t, none⟩ (.pointer (some ⟨o, 0, none⟩))) own own := (Ext.refl (M := fun c => c = q + 5)).setCell (a := ⟨P.po, t, none⟩) (fun _ => h.ops.col) _
  obtain ⟨a1, a2, a3, a4, a5, a6⟩ := h.apart
  obtain ⟨vs, hn, hv⟩ := h.want
  refine ⟨h.rows e ?_ ?_ ?_ ⟨vs, ?_, hv⟩ (fun i Oi hi ho => ?_), e⟩
  · have := (h.ops.setCell t (.pointer (some ⟨o, 0, none⟩))).at_
    rw [ptrs_some _ _ O _ ht] at this
    exact this
  · exact (h.what.setCell_other (a := ⟨P.po, t, none⟩) (Ne.symm a1) _).at_
  · exact (h.did.setCell_other (a := ⟨P.po, t, none⟩) (Ne.symm a2) _).at_
  · exact (hn.setCell_other (a := ⟨P.po, t, none⟩) (Ne.symm a3) _).at_
  · by_cases hit : i = t
    · subst hit; rw [upd_same] at ho ⊢; cases ho; exact hO
    · rw [upd_ne _ _ hit] at ho ⊢; exact h.op i Oi hi ho
end
end Go.Proofs.Ytefhngbeodnldaa
