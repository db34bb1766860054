/- Terms: plain trees, and how they lie in memory; terms that came in as arguments. -/
import Derived.Test.YtamiidklcadkmaaArgs
import Derived.Deep.Strs
set_option maxRecDepth 20000
set_option linter.unusedVariables false
set_option linter.unusedSimpArgs false
namespace Go.PM
open Go.ChangeShapes Go.WideShapes Go.ChangeAt Go.RowKit Go.Deep
/-- A plain term: kind, name, number, arguments. -/
inductive Tm where
  | mk (k : Int) (s : ByteArray) (x : Int) (ls : List Tm)
def Tm.k : Tm → Int | .mk k _ _ _ => k
def Tm.s : Tm → ByteArray | .mk _ s _ _ => s
def Tm.x : Tm → Int | .mk _ _ x _ => x
def Tm.ls : Tm → List Tm | .mk _ _ _ ls => ls
theorem Tm.ind {P : Tm → Prop} (h : ∀ k s x ls, (∀ t ∈ ls, P t) → P (.mk k s x ls)) : ∀ t, P t := fun t =>
  Tm.rec (motive_1 := P) (motive_2 := fun ls => ∀ t ∈ ls, P t) (fun k s x ls ih => h k s x ls ih) (fun t ht => by cases ht)
    (fun t ts h1 h2 u hu => by rcases List.mem_cons.1 hu with rfl | hu <;> first | exact h1 | exact h2 u hu) t
def rng64 (x : Int) : Prop := -9223372036854775808 ≤ x ∧ x ≤ 9223372036854775807
mutual
/-- sl is the slice of a term's arguments: they lie in w, in blocks of which C is true. -/
def Tm.At (w : World) (C : Nat → Prop) : Tm → Value → Prop
  | .mk _ _ _ ls, sl => (ls = [] ∧ ∃ a c, sl = .slice a 0 c) ∨ (ls.length ≤ 9223372036854775807 ∧ ∃ g off c, sl = .slice (some ⟨g, off, none⟩) ls.length c ∧ g < w.heap.size ∧ C g ∧ Tms.At w C ls g off)
def Tms.At (w : World) (C : Nat → Prop) : List Tm → Nat → Nat → Prop
  | [], _, _ => True
  | t :: ts, g, off => (w.cell? ⟨g, off, none⟩ = some (.int .i64 t.k) ∧ w.cell? ⟨g, off + 1, none⟩ = some (.string t.s) ∧ w.cell? ⟨g, off + 2, none⟩ = some (.int .i64 t.x) ∧ rng64 t.k ∧ t.s.size ≤ 9223372036854775807 ∧ rng64 t.x ∧ ∃ sl, w.cell? ⟨g, off + 3, none⟩ = some sl ∧ Tm.At w C t sl) ∧ Tms.At w C ts g (off + 4)
end
/-- v is the term t. -/
def TmV (w : World) (C : Nat → Prop) (t : Tm) (v : Value) : Prop := ∃ sl, v = .agg #[.int .i64 t.k, .string t.s, .int .i64 t.x, sl] ∧ rng64 t.k ∧ t.s.size ≤ 9223372036854775807 ∧ rng64 t.x ∧ Tm.At w C t sl
theorem Tms.at_get {w : World} {C : Nat → Prop} : ∀ {ts : List Tm} {g off : Nat}, Tms.At w C ts g off → ∀ {i : Nat} (h : i < ts.length),
    w.cell? ⟨g, off + i * 4, none⟩ = some (.int .i64 ts[i].k) ∧ w.cell? ⟨g, off + i * 4 + 1, none⟩ = some (.string ts[i].s) ∧ w.cell? ⟨g, off + i * 4 + 2, none⟩ = some (.int .i64 ts[i].x) ∧ rng64 ts[i].k ∧ ts[i].s.size ≤ 9223372036854775807 ∧ rng64 ts[i].x ∧ ∃ sl, w.cell? ⟨g, off + i * 4 + 3, none⟩ = some sl ∧ Tm.At w C ts[i] sl
  | t :: ts, g, off, h, 0, hi => by simpa [Tms.At] using h.1
  | t :: ts, g, off, h, i + 1, hi => by
    have h2 := Tms.at_get (ts := ts) h.2 (i := i) (by simpa using hi)
    rw [show off + 4 + i * 4 = off + (i + 1) * 4 by omega] at h2
    exact h2
theorem Tms.of_get {w : World} {C : Nat → Prop} : ∀ {ts : List Tm} {g off : Nat}, (∀ i (h : i < ts.length),
    w.cell? ⟨g, off + i * 4, none⟩ = some (.int .i64 ts[i].k) ∧ w.cell? ⟨g, off + i * 4 + 1, none⟩ = some (.string ts[i].s) ∧ w.cell? ⟨g, off + i * 4 + 2, none⟩ = some (.int .i64 ts[i].x) ∧ rng64 ts[i].k ∧ ts[i].s.size ≤ 9223372036854775807 ∧ rng64 ts[i].x ∧ ∃ sl, w.cell? ⟨g, off + i * 4 + 3, none⟩ = some sl ∧ Tm.At w C ts[i] sl) → Tms.At w C ts g off
  | [], g, off, h => trivial
  | t :: ts, g, off, h => by
    refine ⟨?_, Tms.of_get fun i hi => ?_⟩
    · have := h 0 (by simp)
      simpa using this
    · have := h (i + 1) (by simpa using hi)
      rw [show off + (i + 1) * 4 = off + 4 + i * 4 by omega] at this
      exact this
/-- From world to world. -/
theorem Tm.at_carry {w w' : World} {C C' : Nat → Prop} (hs : w.heap.size ≤ w'.heap.size) (h : ∀ g, g < w.heap.size → C g → w'.heap[g]? = w.heap[g]? ∧ C' g) : ∀ (t : Tm) (sl : Value), Tm.At w C t sl → Tm.At w' C' t sl := by
  refine Tm.ind fun k s x ls ih sl ha => ?_
  unfold Tm.At at ha ⊢
  rcases ha with ha | ⟨hl, g, off, c, e, hg, hc, ht⟩
  · exact .inl ha
  · refine .inr ⟨hl, g, off, c, e, by omega, (h g hg hc).2, Tms.of_get fun i hi => ?_⟩
    have hcell : ∀ o, w'.cell? ⟨g, o, none⟩ = w.cell? ⟨g, o, none⟩ := fun o => by
      unfold World.cell?
      simp only [(h g hg hc).1]
    obtain ⟨h1, h2, h3, h4, h5, h6, sl', h7, h8⟩ := Tms.at_get ht hi
    exact ⟨by rw [hcell]; exact h1, by rw [hcell]; exact h2, by rw [hcell]; exact h3, h4, h5, h6, sl', by rw [hcell]; exact h7, ih _ (List.getElem_mem hi) _ h8⟩
theorem TmV.carry {w w' : World} {C C' : Nat → Prop} {t : Tm} {v : Value} (h : TmV w C t v) (hs : w.heap.size ≤ w'.heap.size) (hc : ∀ g, g < w.heap.size → C g → w'.heap[g]? = w.heap[g]? ∧ C' g) : TmV w' C' t v := by
  obtain ⟨sl, h1, h2, h3, h4, h5⟩ := h
  exact ⟨sl, h1, h2, h3, h4, Tm.at_carry hs hc t sl h5⟩
section
variable {H : Type} {enc : TypeId × Value → H} {P : Program} {W : World} {base : Nat} {held : Bool} {spare : Nat → Bool} {C : Nat → Prop}
/-- How the struct of a term is made. -/
structure TmType (P : Program) (T S : TypeId) (fs : Array Field) : Prop where
  slice : P.underlying S = some (.slice T)
  struct : P.underlying T = some (.struct fs)
  size : fs.size = 4
  cells : P.cellsOf T = 4
  one : oneCellFields P fs = true
  f0 : ∀ f, fs[0]? = some f → P.underlying f.type = some (.int .i64)
  f1 : ∀ f, fs[1]? = some f → P.underlying f.type = some .string
  f2 : ∀ f, fs[2]? = some f → P.underlying f.type = some (.int .i64)
  f3 : ∀ f, fs[3]? = some f → f.type = S
theorem rng64_of {z : Int} (h : (Lit.int .i64 z).wf = true) : rng64 z := rng_of_wf h
/-- The cells of a struct that is a term. -/
theorem open_term {T S : TypeId} {fs : Array Field} (ht : TmType P T S fs) {n : Nat} {cs : List Value} {x : DataW H × List MemPlace} (h : DataW.trod enc P W base spare held (n + 1) T cs = some x) :
    ∃ k s z sl y, cs = [.int .i64 k, .string s, .int .i64 z, sl] ∧ rng64 k ∧ s.size ≤ 9223372036854775807 ∧ rng64 z ∧ DataW.trod enc P W base spare held n S [sl] = some y ∧ ∀ p ∈ y.2, p ∈ x.2 := by
  obtain ⟨xs, m, hm, hx, hcl, hxl, hf⟩ := DataW.trod_struct ht.struct h
  obtain rfl : n = m := by omega
  rw [ht.cells] at hcl
  match cs, hcl with
  | [v0, v1, v2, v3], _ =>
    have hfld : ∀ j, j < 4 → ∃ f y, fs[j]? = some f ∧ xs[j]? = some y ∧ DataW.trod enc P W base spare held n f.type (([v0, v1, v2, v3].drop j).take 1) = some y := fun j hj => by
      have hj1 : j < fs.size := by rw [ht.size]; exact hj
      have hj2 : j < xs.length := by omega
      have e1 : fs[j]? = some fs[j] := Array.getElem?_eq_getElem hj1
      obtain ⟨ho, hk⟩ := hone_of ht.one j _ e1
      have := hf j _ e1
      rw [ho, hk, List.getElem?_eq_getElem hj2] at this
      exact ⟨_, _, e1, List.getElem?_eq_getElem hj2, this⟩
    obtain ⟨f0, y0, e0, _, h0⟩ := hfld 0 (by decide)
    obtain ⟨f1, y1, e1, _, h1⟩ := hfld 1 (by decide)
    obtain ⟨f2, y2, e2, _, h2⟩ := hfld 2 (by decide)
    obtain ⟨f3, y3, e3, x3, h3⟩ := hfld 3 (by decide)
    obtain ⟨k, hk, _, wk⟩ := DataW.trod_int (ht.f0 f0 e0) h0
    obtain ⟨s, hs, _, ws⟩ := DataW.trod_string (ht.f1 f1 e1) h1
    obtain ⟨z, hz, _, wz⟩ := DataW.trod_int (ht.f2 f2 e2) h2
    rw [ht.f3 f3 e3] at h3
    simp at hk hs hz
    subst hk
    subst hs
    subst hz
    refine ⟨k, s, z, v3, y3, rfl, rng64_of wk, by unfold maxLen at ws; omega, rng64_of wz, h3, fun p hp => ?_⟩
    rw [hx]
    exact List.mem_flatMap.2 ⟨y3, List.mem_of_getElem? x3, hp⟩
theorem view_terms {T S : TypeId} {fs : Array Field} (ht : TmType P T S fs) (hC : ∀ g, g < W.heap.size → C g) : ∀ (fuel : Nat) (sl : Value) (x : DataW H × List MemPlace), DataW.trod enc P W base spare held fuel S [sl] = some x → (∀ p ∈ x.2, p.block < W.heap.size) → ∃ ls, ∀ k s z, Tm.At W C (.mk k s z ls) sl := by
  intro fuel
  induction fuel using Nat.strongRecOn with
  | _ fuel ih =>
    intro sl x h hlt
    rcases DataW.trod_slice ht.slice h with ⟨hcs, _⟩ | ⟨a, len, cap, elems, rest, n, hfu, hcs, hx, hb, hl, hm, hlen, hel, _, _⟩
    · simp at hcs
      subst hcs
      exact ⟨[], fun k s z => by unfold Tm.At; exact .inl ⟨rfl, _, _, rfl⟩⟩
    · simp at hcs
      subst hcs
      by_cases hl0 : len = 0
      · subst hl0
        exact ⟨[], fun k s z => by unfold Tm.At; exact .inl ⟨rfl, _, _, rfl⟩⟩
      · have hex : ∀ i, ∃ t : Tm, i < len → W.cell? (a.add (i * 4 + 0)) = some (.int .i64 t.k) ∧ W.cell? (a.add (i * 4 + 1)) = some (.string t.s) ∧ W.cell? (a.add (i * 4 + 2)) = some (.int .i64 t.x) ∧ rng64 t.k ∧ t.s.size ≤ 9223372036854775807 ∧ rng64 t.x ∧ ∃ sl, W.cell? (a.add (i * 4 + 3)) = some sl ∧ Tm.At W C t sl := fun i => by
          by_cases hi : i < len
          · have h1 := hel i hi
            rw [List.getElem?_eq_getElem (by omega), ht.cells] at h1
            obtain ⟨cs', hc, htr⟩ := Option.bind_eq_some_iff.1 h1
            obtain ⟨_, hcl, hat⟩ := World.cells?_some hc
            cases n with
            | zero => simp [DataW.trod] at htr
            | succ n =>
              obtain ⟨k, s, z, sl, y, rfl, wk, ws, wz, hy, hsub⟩ := open_term ht htr
              obtain ⟨ls, has⟩ := ih n (by omega) sl y hy fun p hp => hlt p (by
                rw [hx]
                exact List.mem_append_right _ (List.mem_flatMap.2 ⟨elems[i]'(by omega), List.mem_append_left _ (List.getElem_mem _), hsub p hp⟩))
              refine ⟨.mk k s z ls, fun _ => ⟨?_, ?_, ?_, wk, ws, wz, sl, ?_, has k s z⟩⟩
              · rw [← Go.Deep.add_add, hat 0 (by omega)]; rfl
              · rw [← Go.Deep.add_add, hat 1 (by omega)]; rfl
              · rw [← Go.Deep.add_add, hat 2 (by omega)]; rfl
              · rw [← Go.Deep.add_add, hat 3 (by omega)]; rfl
          · exact ⟨.mk 0 ByteArray.empty 0 [], fun h => absurd h hi⟩
        obtain ⟨F, hF⟩ : ∃ F : Nat → Tm, ∀ i, i < len → W.cell? (a.add (i * 4 + 0)) = some (.int .i64 (F i).k) ∧ W.cell? (a.add (i * 4 + 1)) = some (.string (F i).s) ∧ W.cell? (a.add (i * 4 + 2)) = some (.int .i64 (F i).x) ∧ rng64 (F i).k ∧ (F i).s.size ≤ 9223372036854775807 ∧ rng64 (F i).x ∧ ∃ sl, W.cell? (a.add (i * 4 + 3)) = some sl ∧ Tm.At W C (F i) sl :=
          ⟨fun i => (hex i).choose, fun i => (hex i).choose_spec⟩
        obtain ⟨b, off, spot⟩ := a
        have hspot : spot = none := by
          obtain ⟨h0, _⟩ := hF 0 (by omega)
          simpa [Addr.add] using World.cell?_spot h0
        subst hspot
        have hbW : b < W.heap.size := hlt (.cell b off) (by
          rw [hx, ht.cells]
          exact List.mem_append_left _ (MemPlace.mem_row.2 ⟨0, by omega, by simp⟩))
        refine ⟨(List.range len).map F, fun k s z => ?_⟩
        unfold Tm.At
        refine .inr ⟨by rw [List.length_map, List.length_range]; unfold maxLen at hm; omega, b, off, cap, by rw [List.length_map, List.length_range], hbW, hC b hbW, Tms.of_get fun i hi => ?_⟩
        rw [List.length_map, List.length_range] at hi
        have := hF i hi
        simp only [add_plain, ← Nat.add_assoc, Nat.add_zero] at this
        simpa only [List.getElem_map, List.getElem_range] using this
/-- A term that came in as an argument. -/
theorem view_term {T S : TypeId} {fs : Array Field} (ht : TmType P T S fs) (hC : ∀ g, g < W.heap.size → C g) {v : Value} {d : DataW H} {p : List MemPlace} {bs : Nat} (hv : Value.okWide P W .any bs T v) (h : DataW.Trod enc P W base spare held T v d p) (hlt : ∀ x ∈ p, x.block < W.heap.size) : ∃ t, TmV W C t v := by
  obtain ⟨cs, rfl, hcs⟩ := okWide_struct ht.struct hv
  obtain ⟨fuel, hf⟩ := h
  cases fuel with
  | zero => simp [DataW.trod] at hf
  | succ n =>
    obtain ⟨k, s, z, sl, y, hcs, wk, ws, wz, hy, hsub⟩ := open_term ht hf
    obtain ⟨ls, has⟩ := view_terms ht hC n sl y hy fun p hp => hlt p (hsub p hp)
    have e : cs = #[.int .i64 k, .string s, .int .i64 z, sl] := by
      have : cs.toList = _ := hcs
      rw [← Array.toArray_toList (xs := cs), this]
    subst e
    exact ⟨.mk k s z ls, sl, rfl, wk, ws, wz, has k s z⟩
end
end Go.PM
