/- Results that lie in variables of their own; struct variables set field by field. -/
import Derived.Test.YtefhngbeodnldaaRow
import Derived.Laws.Rows
import Derived.Laws.ResultCell
set_option linter.unusedVariables false
set_option linter.unusedSimpArgs false
namespace Go.PM
open Go.RowKit

section
variable {P : Program}
/-- Results: a struct's variable, and one slot; and two slots. -/
theorem results_ct {fn : Func} {p u : Tmp} {ty : TypeId} (h : fn.results = #[.cell p ty, .tmp u]) (tmps : Array Value) (w : World) (g : Nat) (t : TypeId) (cs : Array Value) (fr : Nat × Nat) (d : TypeDesc)
    (hp : tmps.getD p undef = .pointer (some ⟨g, 0, none⟩)) (hg : w.heap[g]? = some (.cells cs t fr))
    (hu : P.underlying ty = some d) (hd : (match d with | .struct _ | .array _ _ => true | _ => false) = true) (hi : (P.info? ty).map (·.size) = some cs.size) :
    (results fn tmps).run P w = .ok (.tuple #[.agg cs, tmps.getD u undef]) w := by
  have hp' : tmps[p]?.getD undef = .pointer (some ⟨g, 0, none⟩) := by simpa using hp
  simp [results, h, hp', asAddr, run_loadVar_row w g t ty cs fr d hg hu hd hi]
theorem results_ctt' {fn : Func} {p u v : Tmp} {ty : TypeId} (h : fn.results = #[.cell p ty, .tmp u, .tmp v]) (tmps : Array Value) (w : World) (g : Nat) (t : TypeId) (cs : Array Value) (fr : Nat × Nat) (d : TypeDesc)
    (hp : tmps.getD p undef = .pointer (some ⟨g, 0, none⟩)) (hg : w.heap[g]? = some (.cells cs t fr))
    (hu : P.underlying ty = some d) (hd : (match d with | .struct _ | .array _ _ => true | _ => false) = true) (hi : (P.info? ty).map (·.size) = some cs.size) :
    (results fn tmps).run P w = .ok (.tuple #[.agg cs, tmps.getD u undef, tmps.getD v undef]) w := by
  have hp' : tmps[p]?.getD undef = .pointer (some ⟨g, 0, none⟩) := by simpa using hp
  simp [results, h, hp', asAddr, run_loadVar_row w g t ty cs fr d hg hu hd hi]
end

/-- Block b's cells are set, from the i-th on. -/
def putCells (w : World) (b : Nat) : Nat → List Value → World
  | _, [] => w
  | i, v :: vs => putCells (w.setCell ⟨b, i, none⟩ v) b (i + 1) vs
section
variable {M : Nat → Prop} {w w' : World} {own own' : Nat → Nat} {k b : Nat}
theorem Ext.putCells (hm : b < w.heap.size → M (own b)) (vs : List Value) : ∀ (w' : World) (i : Nat), Ext M w w' own own' → Ext M w (PM.putCells w' b i vs) own own' := by
  induction vs with
  | nil => intro w' i h; exact h
  | cons v vs ih => intro w' i h; exact ih _ _ (h.setCell hm v)
theorem Blk.putCells_other {o : Obj} {b' : Nat} (hb : b' ≠ b) (vs : List Value) : ∀ (w : World) (i : Nat), Blk w own k b' o → Blk (PM.putCells w b i vs) own k b' o := by
  induction vs with
  | nil => intro w i h; exact h
  | cons v vs ih => intro w i h; exact ih _ _ (h.setCell_other hb v)
theorem Blk.putCells_from {T : TypeId} (vs : List Value) : ∀ (w : World) (pre cs : List Value), cs.length = vs.length → Blk w own k b (.cells (pre ++ cs).toArray T (0, 0)) →
    Blk (PM.putCells w b pre.length vs) own k b (.cells (pre ++ vs).toArray T (0, 0)) := by
  induction vs with
  | nil =>
    intro w pre cs hl h
    obtain rfl : cs = [] := List.eq_nil_of_length_eq_zero hl
    exact h
  | cons v vs ih =>
    intro w pre cs hl h
    cases cs with
    | nil => simp at hl
    | cons c cs =>
      have h1 := h.setCell pre.length v
      rw [List.setIfInBounds_toArray, List.set_append_right _ _ (Nat.le_refl _)] at h1
      simp only [Nat.sub_self, List.set_cons_zero] at h1
      have := ih (w.setCell ⟨b, pre.length, none⟩ v) (pre ++ [v]) cs (by simpa using hl) (by simpa using h1)
      simpa [PM.putCells] using this
/-- All of a block's cells are set. -/
theorem Blk.putCells {T : TypeId} {cs vs : List Value} (h : Blk w own k b (.cells cs.toArray T (0, 0))) (hl : cs.length = vs.length) : Blk (PM.putCells w b 0 vs) own k b (.cells vs.toArray T (0, 0)) := by
  have := Blk.putCells_from vs w [] cs hl h
  simpa using this
theorem Row.start {g : Nat} {E : TypeId} {size : Nat} (h : Blk w own k g (.cells #[] E (0, 0))) : Row w own k E size (.slice (some ⟨g, 0, none⟩) 0 0) 0 [] :=
  ⟨by simp, .inr ⟨g, 0, #[], rfl, h, by omega, by decide, by simp, by simp⟩⟩
/-- What a call has made is not of the colour 0. -/
theorem Ext.made (h : Ext M w w' (fun _ => 0) own') {b : Nat} (hb : own' b ≠ 0) : w.heap.size ≤ b := by
  by_cases h' : b < w.heap.size
  · exact absurd (h.col b h') hb
  · omega
/-- What was there, of the colour 0, reads as ever. -/
theorem Ext.old (h : Ext (fun c => c ≠ 0) w w' (fun _ => 0) own') {b i : Nat} (hb : b < w.heap.size) {u : Option Value} (hc : w.cell? ⟨b, i, none⟩ = u) : w'.cell? ⟨b, i, none⟩ = u := by
  have e := h.same b hb (by simp)
  rw [← hc]
  simp only [World.cell?, e]
end
end Go.PM
