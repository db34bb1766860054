/- A code that is made and put into a box, in open order: what stays (CodeCounts, region 19). -/
import Derived.Test.YtamiidklcadkmaaPlan5
import Derived.Test.YtamiidklcadkmaaCompile
set_option maxRecDepth 20000
set_option linter.unusedVariables false
set_option linter.unusedSimpArgs false
namespace Go.Proofs.Ytamiidklcadkmaa
open Go.RowKit Go.PM
/-- A block in which no int stands ahead of a string holds no term's arguments. -/
theorem at_neB {w : World} {C : Nat → Prop} {b : Nat} (hb : ∀ o k s, w.cell? ⟨b, o, none⟩ = some (.int .i64 k) → w.cell? ⟨b, o + 1, none⟩ = some (.string s) → False) : ∀ (t : Tm) (sl : Value), Tm.At w C t sl → Tm.At w (fun g => C g ∧ g ≠ b) t sl := by
  refine Tm.ind fun k s x ls ih sl ha => ?_
  unfold Tm.At at ha ⊢
  rcases ha with ha | ⟨hl, g, off, c, e, hg, hc, ht⟩
  · exact .inl ha
  · cases ls with
    | nil => exact .inl ⟨rfl, _, _, e⟩
    | cons u us =>
      refine .inr ⟨hl, g, off, c, e, hg, ⟨hc, fun e2 => ?_⟩, Tms.of_get fun i hi => ?_⟩
      · subst e2
        obtain ⟨h1, h2, _⟩ := Tms.at_get ht (i := 0) (by simp)
        exact hb _ _ _ h1 h2
      · obtain ⟨h1, h2, h3, h4, h5, h6, sl', h7, h8⟩ := Tms.at_get ht hi
        exact ⟨h1, h2, h3, h4, h5, h6, sl', h7, ih _ (List.getElem_mem hi) _ h8⟩
theorem ICells.neB {w : World} {C : Nat → Prop} {b : Nat} (hb : ∀ o k s, w.cell? ⟨b, o, none⟩ = some (.int .i64 k) → w.cell? ⟨b, o + 1, none⟩ = some (.string s) → False) : ∀ {is : List In} {xs : List Value}, ICells w C is xs → ICells w (fun g => C g ∧ g ≠ b) is xs
  | [], _, h => h
  | t :: ts, _, h => by
    unfold ICells at h ⊢
    obtain ⟨sl, xs', rfl, ⟨h1, h2, h3, h4⟩, h⟩ := h
    exact ⟨sl, xs', rfl, ⟨h1, h2, h3, at_neB hb t.t sl h4⟩, ICells.neB hb h⟩
/-- A box of a code. -/
def CodeAt (w : World) (b : Nat) : Prop := ∃ s x y z a l k, w.heap[b]? = some (.cells #[.string s, .int .i64 x, .int .i64 y, .int .i64 z, .slice a l k] 32 (0, 0))
theorem CodeAt.noTerm {w : World} {b : Nat} (h : CodeAt w b) : ∀ o k s, w.cell? ⟨b, o, none⟩ = some (.int .i64 k) → w.cell? ⟨b, o + 1, none⟩ = some (.string s) → False := by
  obtain ⟨s, x, y, z, a, l, k, h⟩ := h
  have hq : Blk w (fun _ => 0) 0 b (.cells #[.string s, .int .i64 x, .int .i64 y, .int .i64 z, .slice a l k] 32 (0, 0)) := ⟨h, rfl⟩
  intro o k st e1 e2
  rw [hq.cell] at e1 e2
  match o, e1, e2 with
  | 0, e1, _ => simp at e1
  | 1, _, e2 => simp at e2
  | 2, _, e2 => simp at e2
  | 3, _, e2 => simp at e2
  | 4, _, e2 => simp at e2
  | o + 5, e1, _ => simp at e1
/-- The box, and whether it is stored to. (No pair: simp would take a pair apart.) -/
structure BG where
  box : Option Nat
  put : Bool
/-- The box may change, until it is stored to; all else stays. -/
def RBox (w : World) (g : BG) (w' : World) (g' : BG) : Prop :=
  w'.os = w.os ∧ w'.tape = w.tape ∧ w'.output = w.output ∧ w.heap.size ≤ w'.heap.size ∧ (∀ b, g.1 = some b → g'.1 = some b) ∧ (g.2 = true → g'.2 = true) ∧ (∀ b, g'.1 = some b → g.1 = some b ∨ w.heap.size ≤ b) ∧ ∀ b, b < w.heap.size → w'.heap[b]? = w.heap[b]? ∨ (g.1 = some b ∧ g.2 = false ∧ CodeAt w b ∧ CodeAt w' b)
theorem RBox.refl (w : World) (g : BG) : RBox w g w g := ⟨rfl, rfl, rfl, Nat.le_refl _, fun _ h => h, id, fun _ h => .inl h, fun _ _ => .inl rfl⟩
theorem CodeAt.same {w w' : World} {b : Nat} (h : CodeAt w b) (e : w'.heap[b]? = w.heap[b]?) : CodeAt w' b := by
  obtain ⟨s, x, y, z, a, l, k, q2⟩ := h
  exact ⟨s, x, y, z, a, l, k, by rw [e]; exact q2⟩
theorem RBox.trans (w : World) (g : BG) (w1 : World) (g1 : BG) (w2 : World) (g2 : BG) (h : RBox w g w1 g1) (k : RBox w1 g1 w2 g2) : RBox w g w2 g2 := by
  obtain ⟨a1, a2, a3, a4, a5, a6, a7, a8⟩ := h
  obtain ⟨b1, b2, b3, b4, b5, b6, b7, b8⟩ := k
  refine ⟨b1.trans a1, b2.trans a2, b3.trans a3, by omega, fun b h => b5 b (a5 b h), fun h => b6 (a6 h), fun b h => ?_, fun b hb => ?_⟩
  · rcases b7 b h with h | h
    · exact a7 b h
    · exact .inr (by omega)
  · have hs := b8 b (by omega)
    rcases a8 b hb with e1 | ⟨e1, e2, e3, e4⟩
    · rcases hs with f1 | ⟨f1, f2, f3, f4⟩
      · exact .inl (f1.trans e1)
      · refine .inr ⟨?_, ?_, f3.same e1.symm, f4⟩
        · rcases a7 b f1 with h | h
          · exact h
          · omega
        · cases hg : g.2
          · rfl
          · rw [a6 hg] at f2; cases f2
    · rcases hs with f1 | ⟨f1, f2, f3, f4⟩
      · exact .inr ⟨e1, e2, e3, e4.same f1⟩
      · exact .inr ⟨e1, e2, e3, f4⟩
theorem RBox.below {w : World} {g : BG} {w' : World} {g' : BG} (h : RBox w g w' g') (hg : g.1 = none ∨ g.2 = true) : Below w.heap.size w w' := by
  obtain ⟨a1, a2, a3, a4, a5, a6, a7, a8⟩ := h
  refine ⟨a1, a2, a3, a4, fun b hb => ?_⟩
  rcases a8 b hb with e | ⟨e1, e2, _⟩
  · exact e
  · rcases hg with h | h
    · rw [h] at e1; cases e1
    · rw [h] at e2; cases e2
theorem RBox.of {w w' : World} (g : BG) (h : Below w.heap.size w w') : RBox w g w' g := ⟨h.os, h.tape, h.output, h.size, fun _ h => h, id, fun _ h => .inl h, fun b hb => .inl (h.block b hb)⟩
theorem CdV.box {w : World} {g : BG} {w' : World} {g' : BG} {own : Nat → Nat} {v : Value} {c : Cd} (h : CdV w own v c) (hR : RBox w g w' g') : CdV w' own v c := by
  obtain ⟨rv, e, xs, h1, h2⟩ := h
  obtain ⟨a1, a2, a3, a4, a5, a6, a7, a8⟩ := hR
  refine ⟨rv, e, xs, ?_, ?_⟩
  · obtain ⟨hl, h⟩ := h1
    refine ⟨hl, ?_⟩
    rcases h with h | ⟨g0, cap, cur, e, hb, r⟩
    · exact .inl h
    · refine .inr ⟨g0, cap, cur, e, ⟨?_, hb.col⟩, r⟩
      rcases a8 g0 hb.lt with q | ⟨_, _, ⟨s, x, y, z, _, _, _, q2⟩, _⟩
      · rw [q]; exact hb.at_
      · rw [hb.at_] at q2
        injection q2 with q2
        injection q2 with _ q3
        exact absurd q3 (by decide)
  · by_cases hch : ∃ b, g.1 = some b ∧ CodeAt w b
    · obtain ⟨b, e1, e2⟩ := hch
      refine (ICells.neB e2.noTerm h2).carry a4 fun q hq hc => ⟨?_, hc.1⟩
      rcases a8 q hq with r | ⟨r1, _⟩
      · exact r
      · exact absurd (Option.some.inj (r1.symm.trans e1)) hc.2
    · refine h2.carry a4 fun q hq hc => ⟨?_, hc⟩
      rcases a8 q hq with r | ⟨r1, _, r3, _⟩
      · exact r
      · exact absurd ⟨q, r1, r3⟩ hch
def NBox (i : Nat) (g : BG) : Prop := (i = 10 → g.1 = none) ∧ (i = 11 → g.2 = false)
def PbC (c : Cd) (er : Int) (v : Value) (w : World) (_ : BG) : Prop := ∃ own x, v = .tuple #[x, .int .i64 er] ∧ CdV w own x c
def PbV (c : Cd) (v : Value) (w : World) (_ : BG) : Prop := ∃ own, CdV w own v c
def PbI (er : Int) (v : Value) (_ : World) (_ : BG) : Prop := v = .int .i64 er
def PbB (n0 : Nat) (v : Value) (w : World) (g : BG) : Prop := ∃ b, g.1 = some b ∧ v = .pointer (some ⟨b, 0, none⟩) ∧ n0 ≤ b ∧ b < w.heap.size ∧ CodeAt w b
def PbS (c : Cd) (_ : Value) (w : World) (g : BG) : Prop := g.2 = true ∧ ∃ b own a k, g.1 = some b ∧ w.heap[b]? = some (.cells #[.string c.p.1, .int .i64 c.p.2, .int .i64 c.vs, .int .i64 c.slots, .slice a c.is.length k] 32 (0, 0)) ∧ CdV w own (.agg #[.string c.p.1, .int .i64 c.p.2, .int .i64 c.vs, .int .i64 c.slots, .slice a c.is.length k]) c
theorem PbC.stable (c : Cd) (er : Int) (v : Value) (w : World) (g : BG) (w' : World) (g' : BG) (h : RBox w g w' g') (hp : PbC c er v w g) : PbC c er v w' g' := by
  obtain ⟨own, x, e, hc⟩ := hp
  exact ⟨own, x, e, hc.box h⟩
theorem PbV.stable (c : Cd) (v : Value) (w : World) (g : BG) (w' : World) (g' : BG) (h : RBox w g w' g') (hp : PbV c v w g) : PbV c v w' g' := by
  obtain ⟨own, hc⟩ := hp
  exact ⟨own, hc.box h⟩
theorem PbI.stable (er : Int) (v : Value) (w : World) (g : BG) (w' : World) (g' : BG) (h : RBox w g w' g') (hp : PbI er v w g) : PbI er v w' g' := hp
theorem PbB.stable (n0 : Nat) (v : Value) (w : World) (g : BG) (w' : World) (g' : BG) (h : RBox w g w' g') (hp : PbB n0 v w g) : PbB n0 v w' g' := by
  obtain ⟨b, h1, h2, h3, h4, h5⟩ := hp
  obtain ⟨a1, a2, a3, a4, a5, a6, a7, a8⟩ := h
  refine ⟨b, a5 b h1, h2, h3, by omega, ?_⟩
  rcases a8 b h4 with e | ⟨_, _, _, e⟩
  · exact h5.same e
  · exact e
theorem PbS.stable (c : Cd) (v : Value) (w : World) (g : BG) (w' : World) (g' : BG) (h : RBox w g w' g') (hp : PbS c v w g) : PbS c v w' g' := by
  obtain ⟨h1, b, own, a, k, h2, h3, h4⟩ := hp
  have hB := h.below (.inr h1)
  refine ⟨h.2.2.2.2.2.1 h1, b, own, a, k, h.2.2.2.2.1 b h2, ?_, h4.box h⟩
  rw [hB.block b (Array.getElem?_eq_some_iff.1 h3).1]
  exact h3
theorem RBox.put {w : World} {g : BG} {b : Nat} (hg : g.1 = some b) (h2 : g.2 = false) (hc : CodeAt w b) (s' : ByteArray) (x' y' z' : Int) (a' : Option Addr) (l' k' : Nat) :
    RBox w g (putCells w b 0 [.string s', .int .i64 x', .int .i64 y', .int .i64 z', .slice a' l' k']) ⟨g.1, true⟩ ∧ (putCells w b 0 [.string s', .int .i64 x', .int .i64 y', .int .i64 z', .slice a' l' k']).heap[b]? = some (.cells #[.string s', .int .i64 x', .int .i64 y', .int .i64 z', .slice a' l' k'] 32 (0, 0)) := by
  obtain ⟨s, x, y, z, a, l, k, h⟩ := id hc
  have hq : Blk w (fun _ => 0) 0 b (.cells #[.string s, .int .i64 x, .int .i64 y, .int .i64 z, .slice a l k] 32 (0, 0)) := ⟨h, rfl⟩
  have hp := Blk.putCells (cs := [.string s, .int .i64 x, .int .i64 y, .int .i64 z, .slice a l k]) (vs := [.string s', .int .i64 x', .int .i64 y', .int .i64 z', .slice a' l' k']) hq rfl
  have hE : Ext (fun c => c = 1) w (putCells w b 0 [.string s', .int .i64 x', .int .i64 y', .int .i64 z', .slice a' l' k']) (fun g => if g = b then 1 else 0) (fun g => if g = b then 1 else 0) := Ext.putCells (M := fun c => c = 1) (fun _ => by simp) _ _ _ Ext.refl
  refine ⟨⟨hE.os, hE.tape, hE.output, hE.size, fun _ h => h, fun _ => rfl, fun _ h => .inl h, fun q hq' => ?_⟩, hp.at_⟩
  by_cases e : q = b
  · subst e
    exact .inr ⟨hg, h2, hc, ⟨_, _, _, _, _, _, _, hp.at_⟩⟩
  · exact .inl (hE.same q hq' (by simp [e]))
/-- The box is made. -/
theorem PbB.made {w9 : World} {g9 : BG} {n0 : Nat} (hn : g9.1 = none) (hs : n0 ≤ w9.heap.size) {s : ByteArray} {x y z : Int} {a : Option Addr} {l k : Nat} :
    ∃ g', RBox w9 g9 (w9.alloc (.cells #[.string s, .int .i64 x, .int .i64 y, .int .i64 z, .slice a l k] 32)) g' ∧ (∀ i, ¬i = 10 → NBox i g9 → NBox i g') ∧ PbB n0 (.pointer (some ⟨w9.heap.size, 0, none⟩)) (w9.alloc (.cells #[.string s, .int .i64 x, .int .i64 y, .int .i64 z, .slice a l k] 32)) g' := by
  refine ⟨⟨some w9.heap.size, g9.2⟩, ⟨rfl, rfl, rfl, by rw [World.size_alloc]; omega, fun b h => absurd h (by rw [hn]; simp), id, fun b h => .inr (by injection h with h; omega), fun b hb => .inl (heap_alloc_old w9 _ hb)⟩, fun i hi h => ⟨fun e => absurd e hi, h.2⟩, ⟨w9.heap.size, rfl, rfl, hs, by rw [World.size_alloc]; omega, ⟨_, _, _, _, _, _, _, heap_alloc_new w9 _⟩⟩⟩
end Go.Proofs.Ytamiidklcadkmaa
