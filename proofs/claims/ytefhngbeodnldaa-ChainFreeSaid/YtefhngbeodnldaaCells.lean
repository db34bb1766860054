/- Layer 2, the arena: what each call of package cells does to memory and answers, told over a plain arena (a list of numbered blocks). -/
import Derived.Test.YtefhngbeodnldaaProg
import Derived.Test.YtefhngbeodnldaaMem
import Derived.Lib.Hide
set_option maxRecDepth 20000
set_option linter.unusedVariables false
set_option linter.unusedSimpArgs false
namespace Go.Proofs.Ytefhngbeodnldaa
open Go.RowKit Go.PM

/-- A plain arena: how many cells at most, live, blocks made, faults, the blocks. -/
structure AV where
  most : Int
  live : Int
  made : Int
  faults : Int
  ents : List (Int × List Int)
def AV.find (V : AV) (b : Int) : Option (List Int) := (V.ents.find? (fun p => p.1 == b)).map (·.2)
def AV.fault (V : AV) : AV := { V with faults := V.faults + 1 }
def AV.touch (V : AV) (b : Int) : AV := match V.find b with | none => V.fault | some _ => V
/-- The error of touching a cell. -/
def AV.err (V : AV) (b i : Int) : Int := match V.find b with | none => 20 | some xs => if 0 ≤ i ∧ i < xs.length then 0 else 1
def AV.val (V : AV) (b i : Int) : Int := match V.find b with | none => 0 | some xs => if 0 ≤ i ∧ i < xs.length then xs.getD i.toNat 0 else 0
def setAt (l : List (Int × List Int)) (b : Int) (i : Nat) (v : Int) : List (Int × List Int) := l.map fun p => if p.1 == b then (p.1, p.2.set i v) else p
def AV.set (V : AV) (b i v : Int) : AV := { V with ents := setAt V.ents b i.toNat v }
def AV.fresh (most : Int) : AV := ⟨min (max most 0) 65536, 0, 0, 0, []⟩
def AV.allocErr (V : AV) (n : Int) : Int := if n < 1 ∨ 256 < n then 1 else if V.most - V.live < n then 21 else 0
def AV.alloc (V : AV) (n : Int) : AV := if V.allocErr n = 0 then { V with live := V.live + n, made := V.made + 1, ents := V.ents ++ [(V.made + 1, List.replicate n.toNat 0)] } else V
def AV.free (V : AV) (b : Int) : AV := match V.find b with | none => V.fault | some xs => { V with live := V.live - xs.length, ents := V.ents.eraseP (fun p => p.1 == b) }
def AV.freeErr (V : AV) (b : Int) : Int := match V.find b with | none => 20 | some _ => 0
def AV.store (V : AV) (b i v : Int) : AV := if V.err b i = 0 then V.set b i v else V.touch b
def AV.size (V : AV) (b : Int) : Int := match V.find b with | none => 0 | some xs => xs.length
def total (l : List (Int × List Int)) : Int := (l.map fun p => (p.2.length : Int)).sum
structure AV.Ok (V : AV) : Prop where
  most : 0 ≤ V.most ∧ V.most ≤ 65536
  live : 0 ≤ V.live ∧ V.live ≤ V.most
  made : 0 ≤ V.made ∧ V.made ≤ 1000000000000000
  faults : 0 ≤ V.faults ∧ V.faults ≤ 1000000000000000
  sum : V.live = total V.ents
  keys : V.ents.Pairwise fun p q => p.1 ≠ q.1
  ents : ∀ p ∈ V.ents, 1 ≤ p.1 ∧ p.1 ≤ V.made ∧ 1 ≤ p.2.length ∧ p.2.length ≤ 256

/-- A block of the arena: its number, its cells, where they lie, when the map's entry was born. -/
structure Ent where
  key : Int
  xs : List Int
  blk : Nat
  born : Nat
def Ent.raw (e : Ent) : Int × Value × Nat := (e.key, .slice (some ⟨e.blk, 0, none⟩) e.xs.length e.xs.length, e.born)
def Ent.view (e : Ent) : Int × List Int := (e.key, e.xs)
def ints (xs : List Int) : Array Value := (xs.map (Value.int .i64)).toArray

structure ArenaIn (w : World) (own : Nat → Nat) (k a : Nat) (V : AV) (mb clock : Nat) (L : List Ent) : Prop where
  root : Blk w own k a (.cells #[.int .i64 V.most, .map (some mb), .int .i64 V.live, .int .i64 V.made, .int .i64 V.faults] 80 (0, 0))
  map : Blk w own k mb (.map (mobj (L.map Ent.raw)) clock)
  blk : ∀ e ∈ L, Blk w own k e.blk (.cells (ints e.xs) 2 (0, 0))
  dis : L.Pairwise fun e f => e.blk ≠ f.blk
  view : L.map Ent.view = V.ents
/-- At a, in blocks of colour k, lies an arena that is V. -/
def Arena (w : World) (own : Nat → Nat) (k a : Nat) (V : AV) : Prop := V.Ok ∧ ∃ mb clock L, ArenaIn w own k a V mb clock L

theorem ArenaIn.ext {M : Nat → Prop} {w w' : World} {own own' : Nat → Nat} {k a : Nat} {V : AV} {mb clock : Nat} {L : List Ent} (h : ArenaIn w own k a V mb clock L)
    (e : Ext M w w' own own') (hk : ¬ M k) : ArenaIn w' own' k a V mb clock L :=
  ⟨h.root.ext e hk, h.map.ext e hk, fun x hx => (h.blk x hx).ext e hk, h.dis, h.view⟩
theorem Arena.ext {M : Nat → Prop} {w w' : World} {own own' : Nat → Nat} {k a : Nat} {V : AV} (h : Arena w own k a V) (e : Ext M w w' own own') (hk : ¬ M k) : Arena w' own' k a V := by
  obtain ⟨ho, mb, c, L, h⟩ := h
  exact ⟨ho, mb, c, L, h.ext e hk⟩
theorem Arena.lt {w : World} {own : Nat → Nat} {k a : Nat} {V : AV} (h : Arena w own k a V) : a < w.heap.size ∧ own a = k := by
  obtain ⟨_, mb, c, L, h⟩ := h
  exact ⟨h.root.lt, h.root.col⟩
theorem Arena.ok {w : World} {own : Nat → Nat} {k a : Nat} {V : AV} (h : Arena w own k a V) : V.Ok := h.1

/-- A call answers r, and leaves an arena that is V'. -/
def ArPost (k a : Nat) (V' : AV) (w : World) (own : Nat → Nat) (r : Value) (e : Ending) (w' : World) : Prop :=
  e = .returned r ∧ ∃ own', Ext (fun c => c = k) w w' own own' ∧ Arena w' own' k a V'

/-! ### the map of blocks -/
theorem mget_raw (L : List Ent) (b : Int) : mget (L.map Ent.raw) b = (L.find? (fun e => e.key == b)).map fun e => .slice (some ⟨e.blk, 0, none⟩) e.xs.length e.xs.length := by
  unfold mget
  rw [List.find?_map]
  simp only [Option.map_map]
  rfl
theorem find_view (L : List Ent) (b : Int) : ((L.map Ent.view).find? (fun p => p.1 == b)).map (·.2) = (L.find? (fun e => e.key == b)).map (·.xs) := by
  rw [List.find?_map]
  simp only [Option.map_map]
  rfl
theorem mdel_raw (L : List Ent) (b : Int) : mdel (L.map Ent.raw) b = (L.eraseP (fun e => e.key == b)).map Ent.raw := by
  unfold mdel
  rw [List.eraseP_map]
  rfl
theorem erase_view (L : List Ent) (b : Int) : (L.map Ent.view).eraseP (fun p => p.1 == b) = (L.eraseP (fun e => e.key == b)).map Ent.view := by
  rw [List.eraseP_map]
  rfl

theorem eqn (w : World) (a : Option Addr) (n c : Nat) : (binOp .eql 22 (.slice a n c) (.slice none 0 0)).run Try.prog w = .ok (.bool a.isNone) w :=
  Lib.run_eql_slice_nil w 22 2 a n c 0 0 Try.underlying22
theorem zeroS (w : World) : (zeroValue 22).run Try.prog w = .ok (.slice none 0 0) w := by kernel_rfl

set_option maxHeartbeats 400000 in
theorem block_hit (ab mb bb n : Nat) (b : Int) (w : World)
    (c1 : w.cell? ⟨ab, 1, none⟩ = some (.map (some mb)))
    (hrun : (Instr.lookup 78 (.map (some mb)) (.int .i64 b) false).run Try.prog w = .ok (.slice (some ⟨bb, 0, none⟩) n n) w) :
    Calls Try.prog 47 #[.pointer (some ⟨ab, 0, none⟩), .int .i64 b] w fun e w' => e = .returned (.tuple #[.slice (some ⟨bb, 0, none⟩) n n, .int .i64 0]) ∧ w = w' := by
  have hq := eqn
  go_enter Try.func47, Try.ntmps47
  go_wp2
  go_ret2
  exact ⟨rfl, rfl⟩
set_option maxHeartbeats 400000 in
theorem block_miss (ab mb : Nat) (faults b : Int) (w : World)
    (c1 : w.cell? ⟨ab, 1, none⟩ = some (.map (some mb)))
    (c4 : w.cell? ⟨ab, 4, none⟩ = some (.int .i64 faults))
    (f4 : w.frozen? ⟨ab, 4, none⟩ = false)
    (hrun : (Instr.lookup 78 (.map (some mb)) (.int .i64 b) false).run Try.prog w = .ok (.slice none 0 0) w)
    (hf : 0 ≤ faults ∧ faults ≤ 1000000000000000) :
    Calls Try.prog 47 #[.pointer (some ⟨ab, 0, none⟩), .int .i64 b] w fun e w' => e = .returned (.tuple #[.slice none 0 0, .int .i64 20]) ∧ w.setCell ⟨ab, 4, none⟩ (.int .i64 (faults + 1)) = w' := by
  have hq := eqn
  go_enter Try.func47, Try.ntmps47
  go_wp2
  go_ret2
  exact ⟨rfl, rfl⟩
set_option maxHeartbeats 400000 in
theorem cell_hit (ab mb bb n j : Nat) (b : Int) (w : World)
    (c1 : w.cell? ⟨ab, 1, none⟩ = some (.map (some mb)))
    (hrun : (Instr.lookup 78 (.map (some mb)) (.int .i64 b) false).run Try.prog w = .ok (.slice (some ⟨bb, 0, none⟩) n n) w) (hj : j < n) :
    Calls Try.prog 38 #[.pointer (some ⟨ab, 0, none⟩), .int .i64 b, .int .i64 j] w fun e w' => e = .returned (.tuple #[.pointer (some ⟨bb, j, none⟩), .int .i64 0]) ∧ w = w' := by
  go_enter Try.func38, Try.ntmps38
  go_wp2_with (go_at_call 47; refine (block_hit ab mb bb n b _ c1 hrun).mono ?_; rintro e w' ⟨rfl, rfl⟩)
  go_ret2
  exact ⟨rfl, rfl⟩
set_option maxHeartbeats 400000 in
theorem cell_out (ab mb bb n : Nat) (b i : Int) (w : World)
    (c1 : w.cell? ⟨ab, 1, none⟩ = some (.map (some mb)))
    (hrun : (Instr.lookup 78 (.map (some mb)) (.int .i64 b) false).run Try.prog w = .ok (.slice (some ⟨bb, 0, none⟩) n n) w) (hi : ¬ (0 ≤ i ∧ i < n)) :
    Calls Try.prog 38 #[.pointer (some ⟨ab, 0, none⟩), .int .i64 b, .int .i64 i] w fun e w' => e = .returned (.tuple #[.pointer none, .int .i64 1]) ∧ w = w' := by
  by_cases h0 : i < 0
  · clear hi
    go_enter Try.func38, Try.ntmps38
    go_wp2_with (go_at_call 47; refine (block_hit ab mb bb n b _ c1 hrun).mono ?_; rintro e w' ⟨rfl, rfl⟩)
    go_ret2
    exact ⟨rfl, rfl⟩
  · have h1 : (n : Int) ≤ i := by omega
    have h2 : 0 ≤ i := by omega
    obtain ⟨j, rfl⟩ := Int.eq_ofNat_of_zero_le h2
    have h3 : n ≤ j := by omega
    clear hi h0 h1 h2
    go_enter Try.func38, Try.ntmps38
    go_wp2_with (go_at_call 47; refine (block_hit ab mb bb n b _ c1 hrun).mono ?_; rintro e w' ⟨rfl, rfl⟩)
    go_ret2
    exact ⟨rfl, rfl⟩
set_option maxHeartbeats 400000 in
theorem cell_miss (ab mb : Nat) (faults b i : Int) (w : World)
    (c1 : w.cell? ⟨ab, 1, none⟩ = some (.map (some mb)))
    (c4 : w.cell? ⟨ab, 4, none⟩ = some (.int .i64 faults))
    (f4 : w.frozen? ⟨ab, 4, none⟩ = false)
    (hrun : (Instr.lookup 78 (.map (some mb)) (.int .i64 b) false).run Try.prog w = .ok (.slice none 0 0) w)
    (hf : 0 ≤ faults ∧ faults ≤ 1000000000000000) :
    Calls Try.prog 38 #[.pointer (some ⟨ab, 0, none⟩), .int .i64 b, .int .i64 i] w fun e w' => e = .returned (.tuple #[.pointer none, .int .i64 20]) ∧ w.setCell ⟨ab, 4, none⟩ (.int .i64 (faults + 1)) = w' := by
  go_enter Try.func38, Try.ntmps38
  go_wp2_with (go_at_call 47; refine (block_miss ab mb faults b _ c1 c4 f4 hrun hf).mono ?_; rintro e w' ⟨rfl, rfl⟩)
  go_ret2
  exact ⟨rfl, rfl⟩

/-! ### opening an arena -/
section
variable {w : World} {own : Nat → Nat} {k a : Nat} {V : AV} {mb clock : Nat} {L : List Ent}
theorem ArenaIn.find_eq (h : ArenaIn w own k a V mb clock L) (b : Int) : V.find b = (L.find? (fun e => e.key == b)).map (·.xs) := by
  unfold AV.find
  rw [← h.view]
  exact find_view L b
theorem ArenaIn.hit (h : ArenaIn w own k a V mb clock L) {b : Int} {xs : List Int} (hf : V.find b = some xs) :
    ∃ e ∈ L, e.key = b ∧ e.xs = xs ∧ L.find? (fun e => e.key == b) = some e ∧
      (Instr.lookup 78 (.map (some mb)) (.int .i64 b) false).run Try.prog w = .ok (.slice (some ⟨e.blk, 0, none⟩) xs.length xs.length) w := by
  rw [h.find_eq b] at hf
  cases hx : L.find? (fun e => e.key == b) with
  | none => simp [hx] at hf
  | some e =>
    simp [hx] at hf
    subst hf
    refine ⟨e, List.mem_of_find?_eq_some hx, by simpa using List.find?_some hx, rfl, rfl, ?_⟩
    have := run_look (P := Try.prog) Try.underlying78 Try.underlying3 zeroS h.map.at_ b
    rw [mget_raw, hx] at this
    exact this
theorem ArenaIn.miss (h : ArenaIn w own k a V mb clock L) {b : Int} (hf : V.find b = none) :
    (Instr.lookup 78 (.map (some mb)) (.int .i64 b) false).run Try.prog w = .ok (.slice none 0 0) w := by
  rw [h.find_eq b] at hf
  have hx : L.find? (fun e => e.key == b) = none := by simpa using hf
  have := run_look (P := Try.prog) Try.underlying78 Try.underlying3 zeroS h.map.at_ b
  rw [mget_raw, hx] at this
  exact this
theorem ArenaIn.c0 (h : ArenaIn w own k a V mb clock L) : w.cell? ⟨a, 0, none⟩ = some (.int .i64 V.most) := by rw [h.root.cell]; rfl
theorem ArenaIn.c1 (h : ArenaIn w own k a V mb clock L) : w.cell? ⟨a, 1, none⟩ = some (.map (some mb)) := by rw [h.root.cell]; rfl
theorem ArenaIn.c2 (h : ArenaIn w own k a V mb clock L) : w.cell? ⟨a, 2, none⟩ = some (.int .i64 V.live) := by rw [h.root.cell]; rfl
theorem ArenaIn.c3 (h : ArenaIn w own k a V mb clock L) : w.cell? ⟨a, 3, none⟩ = some (.int .i64 V.made) := by rw [h.root.cell]; rfl
theorem ArenaIn.c4 (h : ArenaIn w own k a V mb clock L) : w.cell? ⟨a, 4, none⟩ = some (.int .i64 V.faults) := by rw [h.root.cell]; rfl
theorem ints_get (xs : List Int) (i : Nat) : (ints xs)[i]? = (xs[i]?).map (Value.int .i64) := by simp [ints]
theorem ints_set (xs : List Int) (i : Nat) (v : Int) : (ints xs).setIfInBounds i (.int .i64 v) = ints (xs.set i v) := by
  simp [ints, List.map_set]
/-- The blocks' rows and the arena's own block are no one block. -/
theorem ArenaIn.ne_root (h : ArenaIn w own k a V mb clock L) {e : Ent} (he : e ∈ L) : e.blk ≠ a := by
  refine (h.blk e he).ne_obj h.root ?_
  intro h'
  injection h' with _ h2 _
  exact absurd h2 (by decide)
theorem ArenaIn.ne_map (h : ArenaIn w own k a V mb clock L) {e : Ent} (he : e ∈ L) : e.blk ≠ mb := (h.blk e he).ne_obj h.map (by intro h'; injection h')
theorem ArenaIn.root_map (h : ArenaIn w own k a V mb clock L) : a ≠ mb := h.root.ne_obj h.map (by intro h'; injection h')

/-- A fault is counted. -/
theorem ArenaIn.fault (h : ArenaIn w own k a V mb clock L) : ArenaIn (w.setCell ⟨a, 4, none⟩ (.int .i64 (V.faults + 1))) own k a V.fault mb clock L :=
  ⟨by have := h.root.setCell 4 (.int .i64 (V.faults + 1)); simpa [AV.fault] using this, h.map.setCell_other (Ne.symm h.root_map) _, fun e he => (h.blk e he).setCell_other (h.ne_root he) _, h.dis, h.view⟩
theorem AV.Ok.fault (h : V.Ok) (hf : V.faults < 1000000000000000) : V.fault.Ok :=
  ⟨h.most, h.live, h.made, by have := h.faults; simp only [AV.fault]; omega, h.sum, h.keys, h.ents⟩

theorem setAt_view {b : Int} {i : Nat} {v : Int} (L : List Ent) : setAt (L.map Ent.view) b i v = (L.map fun e => if e.key == b then { e with xs := e.xs.set i v } else e).map Ent.view := by
  simp only [setAt, List.map_map]
  congr 1
  funext e
  simp only [Function.comp, Ent.view]
  by_cases hk : (e.key == b) = true <;> simp [hk]
theorem eq_of_key (hk : L.Pairwise fun e f => e.key ≠ f.key) {e f : Ent} (he : e ∈ L) (hf : f ∈ L) (h : e.key = f.key) : e = f := by
  induction L with
  | nil => simp at he
  | cons x L ih =>
    simp only [List.pairwise_cons] at hk
    simp only [List.mem_cons] at he hf
    rcases he with rfl | he <;> rcases hf with rfl | hf
    · rfl
    · exact absurd h (hk.1 f hf)
    · exact absurd h.symm (hk.1 e he)
    · exact ih hk.2 he hf
theorem ArenaIn.keys (h : ArenaIn w own k a V mb clock L) (ho : V.Ok) : L.Pairwise fun e f => e.key ≠ f.key := by
  have := ho.keys
  rw [← h.view, List.pairwise_map] at this
  exact this
theorem eq_of_blk (hk : L.Pairwise fun e f => e.blk ≠ f.blk) {e f : Ent} (he : e ∈ L) (hf : f ∈ L) (h : e.blk = f.blk) : e = f := by
  induction L with
  | nil => simp at he
  | cons x L ih =>
    simp only [List.pairwise_cons] at hk
    simp only [List.mem_cons] at he hf
    rcases he with rfl | he <;> rcases hf with rfl | hf
    · rfl
    · exact absurd h (hk.1 f hf)
    · exact absurd h.symm (hk.1 e he)
    · exact ih hk.2 he hf
/-- A cell is written. -/
theorem ArenaIn.write (h : ArenaIn w own k a V mb clock L) (ho : V.Ok) {e : Ent} (he : e ∈ L) (i : Nat) (v : Int) :
    ArenaIn (w.setCell ⟨e.blk, i, none⟩ (.int .i64 v)) own k a { V with ents := setAt V.ents e.key i v } mb clock (L.map fun f => if f.key == e.key then { f with xs := f.xs.set i v } else f) := by
  refine ⟨h.root.setCell_other (Ne.symm (h.ne_root he)) _, ?_, ?_, ?_, ?_⟩
  · have := h.map.setCell_other (a := ⟨e.blk, i, none⟩) (Ne.symm (h.ne_map he)) (.int .i64 v)
    rw [List.map_map]
    have hr : (Ent.raw ∘ fun f => if f.key == e.key then { f with xs := f.xs.set i v } else f) = Ent.raw := by
      funext f
      simp only [Function.comp, Ent.raw]
      split <;> simp
    rw [hr]
    exact this
  · intro f hf
    simp only [List.mem_map] at hf
    obtain ⟨g, hg, rfl⟩ := hf
    by_cases hk : g.key = e.key
    · obtain rfl := eq_of_key (h.keys ho) hg he hk
      have := (h.blk g hg).setCell i (.int .i64 v)
      rw [ints_set] at this
      simpa using this
    · have : (g.key == e.key) = false := by simp [hk]
      simp only [this, Bool.false_eq_true, if_false]
      refine (h.blk g hg).setCell_other ?_ _
      intro hb
      exact hk (by rw [eq_of_blk h.dis hg he hb])
  · rw [List.pairwise_map]
    refine h.dis.imp ?_
    intro x y hxy
    split <;> split <;> exact hxy
  · rw [← setAt_view, h.view]
theorem total_setAt (l : List (Int × List Int)) (b : Int) (i : Nat) (v : Int) : total (setAt l b i v) = total l := by
  simp only [total, setAt, List.map_map]
  congr 2
  funext p
  simp only [Function.comp]
  split <;> simp
theorem AV.Ok.set (h : V.Ok) (b i v : Int) : (V.set b i v).Ok := by
  refine ⟨h.most, h.live, h.made, h.faults, ?_, ?_, ?_⟩
  · show V.live = total (setAt _ _ _ _); rw [h.sum]; exact (total_setAt _ _ _ _).symm
  · show (setAt _ _ _ _).Pairwise _
    unfold setAt
    rw [List.pairwise_map]
    refine h.keys.imp ?_
    intro x y hxy
    split <;> split <;> exact hxy
  · intro p hp
    simp only [AV.set, setAt, List.mem_map] at hp
    obtain ⟨q, hq, rfl⟩ := hp
    have := h.ents q hq
    split <;> simpa [AV.set] using this
/-! ### the calls -/
theorem AV.touch_miss {b : Int} (h : V.find b = none) : V.touch b = V.fault := by simp [AV.touch, h]
theorem AV.touch_hit {b : Int} {xs : List Int} (h : V.find b = some xs) : V.touch b = V := by simp [AV.touch, h]
theorem AV.err_miss {b i : Int} (h : V.find b = none) : V.err b i = 20 := by simp [AV.err, h]
theorem AV.val_miss {b i : Int} (h : V.find b = none) : V.val b i = 0 := by simp [AV.val, h]
theorem AV.err_hit {b i : Int} {xs : List Int} (h : V.find b = some xs) (hi : 0 ≤ i ∧ i < xs.length) : V.err b i = 0 := by simp [AV.err, h, hi]
theorem AV.err_out {b i : Int} {xs : List Int} (h : V.find b = some xs) (hi : ¬ (0 ≤ i ∧ i < xs.length)) : V.err b i = 1 := by
  simp only [AV.err, h, if_neg hi]
theorem AV.val_out {b i : Int} {xs : List Int} (h : V.find b = some xs) (hi : ¬ (0 ≤ i ∧ i < xs.length)) : V.val b i = 0 := by
  simp only [AV.val, h, if_neg hi]
theorem AV.val_hit {b : Int} {j : Nat} {xs : List Int} (h : V.find b = some xs) (hi : j < xs.length) : V.val b j = xs[j] := by
  simp [AV.val, h, hi]
theorem same_post {r : Value} (hA : Arena w own k a V) : ArPost k a V w own r (.returned r) w := ⟨rfl, own, Ext.refl, hA⟩
theorem fault_post {r : Value} (hA : ArenaIn w own k a V mb clock L) (ho : V.Ok) (hf : V.faults < 1000000000000000) :
    ArPost k a V.fault w own r (.returned r) (w.setCell ⟨a, 4, none⟩ (.int .i64 (V.faults + 1))) :=
  ⟨rfl, own, Ext.refl.setCell (fun _ => hA.root.col) _, ho.fault hf, mb, clock, L, hA.fault⟩
theorem write_post {r : Value} (hA : ArenaIn w own k a V mb clock L) (ho : V.Ok) {e : Ent} (he : e ∈ L) (j : Nat) (v : Int) :
    ArPost k a (V.set e.key j v) w own r (.returned r) (w.setCell ⟨e.blk, j, none⟩ (.int .i64 v)) :=
  ⟨rfl, own, Ext.refl.setCell (fun _ => (hA.blk e he).col) _, ho.set _ _ _, mb, clock, _, by
    have := hA.write ho he j v
    simpa [AV.set] using this⟩

set_option maxHeartbeats 400000 in
/-- Load. -/
theorem Load_any (hA : Arena w own k a V) (hf : V.faults < 1000000000000000) (b i : Int) :
    Calls Try.prog 25 #[.pointer (some ⟨a, 0, none⟩), .int .i64 b, .int .i64 i] w (ArPost k a (V.touch b) w own (.tuple #[.int .i64 (V.val b i), .int .i64 (V.err b i)])) := by
  obtain ⟨ho, mb, clock, L, hI⟩ := hA
  have c1 := hI.c1
  cases hx : V.find b with
  | none =>
    have hrun := hI.miss hx
    have hb := ho.faults
    rw [AV.touch_miss hx, AV.err_miss hx, AV.val_miss hx]
    have hp := fault_post (r := .tuple #[.int .i64 0, .int .i64 20]) hI ho hf
    have HP := Lib.hid hp
    have c4 := hI.c4
    have f4 := hI.root.free 4
    clear hp hx hI
    go_enter Try.func25, Try.ntmps25
    go_wp2_with (go_at_call 38; refine (cell_miss a mb V.faults b i _ c1 c4 f4 hrun ⟨hb.1, by omega⟩).mono ?_; rintro e w' ⟨rfl, rfl⟩)
    go_ret2
    exact HP.out
  | some xs =>
    obtain ⟨e, he, hk, rfl, _, hrun⟩ := hI.hit hx
    rw [AV.touch_hit hx]
    by_cases hi : 0 ≤ i ∧ i < e.xs.length
    · obtain ⟨j, rfl⟩ := Int.eq_ofNat_of_zero_le hi.1
      have hj : j < e.xs.length := by omega
      rw [AV.err_hit hx hi, AV.val_hit hx hj]
      have hp := same_post (r := .tuple #[.int .i64 e.xs[j], .int .i64 0]) (show Arena w own k a V from ⟨ho, mb, clock, L, hI⟩)
      have HP := Lib.hid hp
      have cj : w.cell? ⟨e.blk, j, none⟩ = some (.int .i64 e.xs[j]) := by rw [(hI.blk e he).cell, ints_get]; simp [hj]
      clear hp hx hI hi hk he
      go_enter Try.func25, Try.ntmps25
      go_wp2_with (go_at_call 38; refine (cell_hit a mb e.blk _ j b _ c1 hrun hj).mono ?_; rintro e w' ⟨rfl, rfl⟩)
      go_ret2
      exact HP.out
    · rw [AV.err_out hx hi, AV.val_out hx hi]
      have hp := same_post (r := .tuple #[.int .i64 0, .int .i64 1]) (show Arena w own k a V from ⟨ho, mb, clock, L, hI⟩)
      have HP := Lib.hid hp
      clear hp hx hI hk he
      go_enter Try.func25, Try.ntmps25
      go_wp2_with (go_at_call 38; refine (cell_out a mb e.blk _ b i _ c1 hrun hi).mono ?_; rintro e w' ⟨rfl, rfl⟩)
      go_ret2
      exact HP.out

def AV.addVal (V : AV) (b i d : Int) : Int := if V.err b i = 0 then wrap64 (V.val b i + d) else 0
def AV.swapOk (V : AV) (b i old : Int) : Bool := V.err b i == 0 && V.val b i == old
def AV.swap (V : AV) (b i old new : Int) : AV := if V.swapOk b i old then V.set b i new else V.touch b
def AV.add (V : AV) (b i d : Int) : AV := V.store b i (V.addVal b i d)

set_option maxHeartbeats 400000 in
/-- Store. -/
theorem Store_any (hA : Arena w own k a V) (hf : V.faults < 1000000000000000) (b i v : Int) :
    Calls Try.prog 48 #[.pointer (some ⟨a, 0, none⟩), .int .i64 b, .int .i64 i, .int .i64 v] w (ArPost k a (V.store b i v) w own (.int .i64 (V.err b i))) := by
  obtain ⟨ho, mb, clock, L, hI⟩ := hA
  have c1 := hI.c1
  cases hx : V.find b with
  | none =>
    have hrun := hI.miss hx
    have hb := ho.faults
    have hp := fault_post (r := .int .i64 20) hI ho hf
    have hr1 : (V.store b i v) = V.fault := by simp [AV.store, AV.err_miss hx, AV.touch_miss hx]
    have hr2 : Value.int .i64 (V.err b i) = .int .i64 20 := by rw [AV.err_miss hx]
    rw [hr1, hr2]
    have HP := Lib.hid hp
    have c4 := hI.c4
    have f4 := hI.root.free 4
    clear hp hx hI hr1 hr2
    go_enter Try.func48, Try.ntmps48
    go_wp2_with (go_at_call 38; refine (cell_miss a mb V.faults b i _ c1 c4 f4 hrun ⟨hb.1, by omega⟩).mono ?_; rintro e w' ⟨rfl, rfl⟩)
    go_ret
    exact HP.out
  | some xs =>
    obtain ⟨e, he, hkey, rfl, _, hrun⟩ := hI.hit hx
    by_cases hi : 0 ≤ i ∧ i < e.xs.length
    · obtain ⟨j, rfl⟩ := Int.eq_ofNat_of_zero_le hi.1
      subst hkey
      have hj : j < e.xs.length := by omega
      have cj : w.cell? ⟨e.blk, j, none⟩ = some (.int .i64 e.xs[j]) := by rw [(hI.blk e he).cell, ints_get]; simp [hj]
      have fj : w.frozen? ⟨e.blk, j, none⟩ = false := (hI.blk e he).free j
      have hp := write_post (r := .int .i64 0) hI ho he j v
      have hr1 : (V.store e.key j v) = V.set e.key j v := by simp [AV.store, AV.err_hit hx hi]
      have hr2 : Value.int .i64 (V.err e.key j) = .int .i64 0 := by rw [AV.err_hit hx hi]
      rw [hr1, hr2]
      have HP := Lib.hid hp
      clear hp hx hI hi he hr1 hr2
      generalize e.key = b at *
      generalize hv : e.xs[j] = v0 at *
      clear hv
      go_enter Try.func48, Try.ntmps48
      go_wp2_with (go_at_call 38; refine (cell_hit a mb e.blk _ j b _ c1 hrun hj).mono ?_; rintro e w' ⟨rfl, rfl⟩)
      go_ret
      exact HP.out
    · have hp := same_post (r := .int .i64 1) (show Arena w own k a V from ⟨ho, mb, clock, L, hI⟩)
      have hr1 : (V.store b i v) = V := by simp [AV.store, AV.err_out hx hi, AV.touch_hit hx]
      have hr2 : Value.int .i64 (V.err b i) = .int .i64 1 := by rw [AV.err_out hx hi]
      rw [hr1, hr2]
      have HP := Lib.hid hp
      clear hp hx hI he hr1 hr2 hkey
      go_enter Try.func48, Try.ntmps48
      go_wp2_with (go_at_call 38; refine (cell_out a mb e.blk _ b i _ c1 hrun hi).mono ?_; rintro e w' ⟨rfl, rfl⟩)
      go_ret
      exact HP.out

set_option maxHeartbeats 400000 in
/-- Swap. -/
theorem Swap_any (hA : Arena w own k a V) (hf : V.faults < 1000000000000000) (b i old new : Int) :
    Calls Try.prog 60 #[.pointer (some ⟨a, 0, none⟩), .int .i64 b, .int .i64 i, .int .i64 old, .int .i64 new] w (ArPost k a (V.swap b i old new) w own (.tuple #[.bool (V.swapOk b i old), .int .i64 (V.err b i)])) := by
  obtain ⟨ho, mb, clock, L, hI⟩ := hA
  have c1 := hI.c1
  cases hx : V.find b with
  | none =>
    have hrun := hI.miss hx
    have hb := ho.faults
    have hp := fault_post (r := .tuple #[.bool false, .int .i64 20]) hI ho hf
    have hr1 : (V.swap b i old new) = V.fault := by simp [AV.swap, AV.swapOk, AV.err_miss hx, AV.touch_miss hx]
    have hr2 : (Value.tuple #[.bool (V.swapOk b i old), .int .i64 (V.err b i)]) = .tuple #[.bool false, .int .i64 20] := by simp [AV.swapOk, AV.err_miss hx]
    rw [hr1, hr2]
    have HP := Lib.hid hp
    have c4 := hI.c4
    have f4 := hI.root.free 4
    clear hp hx hI hr1 hr2
    go_enter Try.func60, Try.ntmps60
    go_wp2_with (go_at_call 38; refine (cell_miss a mb V.faults b i _ c1 c4 f4 hrun ⟨hb.1, by omega⟩).mono ?_; rintro e w' ⟨rfl, rfl⟩)
    go_ret2
    exact HP.out
  | some xs =>
    obtain ⟨e, he, hkey, rfl, _, hrun⟩ := hI.hit hx
    by_cases hi : 0 ≤ i ∧ i < e.xs.length
    · obtain ⟨j, rfl⟩ := Int.eq_ofNat_of_zero_le hi.1
      subst hkey
      have hj : j < e.xs.length := by omega
      have cj : w.cell? ⟨e.blk, j, none⟩ = some (.int .i64 e.xs[j]) := by rw [(hI.blk e he).cell, ints_get]; simp [hj]
      have fj : w.frozen? ⟨e.blk, j, none⟩ = false := (hI.blk e he).free j
      by_cases hv : e.xs[j] = old
      · have hp := write_post (r := .tuple #[.bool true, .int .i64 0]) hI ho he j new
        have hr1 : (V.swap e.key j old new) = V.set e.key j new := by simp [AV.swap, AV.swapOk, AV.err_hit hx hi, AV.val_hit hx hj, hv]
        have hr2 : Value.tuple #[.bool (V.swapOk e.key j old), .int .i64 (V.err e.key j)] = .tuple #[.bool true, .int .i64 0] := by simp [AV.swapOk, AV.err_hit hx hi, AV.val_hit hx hj, hv]
        rw [hr1, hr2]
        have HP := Lib.hid hp
        clear hp hx hI hi he hr1 hr2
        generalize e.key = b at *
        generalize e.xs[j] = v0 at *
        subst hv
        have b1 : (v0 != v0) = false := by simp
        go_enter Try.func60, Try.ntmps60
        go_wp2_with (go_at_call 38; refine (cell_hit a mb e.blk _ j b _ c1 hrun hj).mono ?_; rintro e w' ⟨rfl, rfl⟩)
        go_ret2
        exact HP.out
      · have hp := same_post (r := .tuple #[.bool false, .int .i64 0]) (show Arena w own k a V from ⟨ho, mb, clock, L, hI⟩)
        have hr1 : (V.swap e.key j old new) = V := by simp [AV.swap, AV.swapOk, AV.err_hit hx hi, AV.val_hit hx hj, hv, AV.touch_hit hx]
        have hr2 : Value.tuple #[.bool (V.swapOk e.key j old), .int .i64 (V.err e.key j)] = .tuple #[.bool false, .int .i64 0] := by simp [AV.swapOk, AV.err_hit hx hi, AV.val_hit hx hj, hv]
        rw [hr1, hr2]
        have HP := Lib.hid hp
        clear hp hx hI hi he hr1 hr2
        generalize e.key = b at *
        generalize e.xs[j] = v0 at *
        have b1 : (v0 != old) = true := by simp [hv]
        clear hv
        go_enter Try.func60, Try.ntmps60
        go_wp2_with (go_at_call 38; refine (cell_hit a mb e.blk _ j b _ c1 hrun hj).mono ?_; rintro e w' ⟨rfl, rfl⟩)
        go_ret2
        exact HP.out
    · have hp := same_post (r := .tuple #[.bool false, .int .i64 1]) (show Arena w own k a V from ⟨ho, mb, clock, L, hI⟩)
      have hr1 : (V.swap b i old new) = V := by simp [AV.swap, AV.swapOk, AV.err_out hx hi, AV.touch_hit hx]
      have hr2 : (Value.tuple #[.bool (V.swapOk b i old), .int .i64 (V.err b i)]) = .tuple #[.bool false, .int .i64 1] := by simp [AV.swapOk, AV.err_out hx hi]
      rw [hr1, hr2]
      have HP := Lib.hid hp
      clear hp hx hI he hr1 hr2 hkey
      go_enter Try.func60, Try.ntmps60
      go_wp2_with (go_at_call 38; refine (cell_out a mb e.blk _ b i _ c1 hrun hi).mono ?_; rintro e w' ⟨rfl, rfl⟩)
      go_ret2
      exact HP.out

set_option maxHeartbeats 400000 in
/-- Size. -/
theorem Size_any (hA : Arena w own k a V) (hf : V.faults < 1000000000000000) (b : Int) :
    Calls Try.prog 27 #[.pointer (some ⟨a, 0, none⟩), .int .i64 b] w (ArPost k a (V.touch b) w own (.tuple #[.int .i64 (V.size b), .int .i64 (V.freeErr b)])) := by
  obtain ⟨ho, mb, clock, L, hI⟩ := hA
  have c1 := hI.c1
  cases hx : V.find b with
  | none =>
    have hrun := hI.miss hx
    have hb := ho.faults
    have hp := fault_post (r := .tuple #[.int .i64 0, .int .i64 20]) hI ho hf
    have hr2 : (Value.tuple #[.int .i64 (V.size b), .int .i64 (V.freeErr b)]) = .tuple #[.int .i64 0, .int .i64 20] := by simp [AV.size, AV.freeErr, hx]
    rw [AV.touch_miss hx, hr2]
    have HP := Lib.hid hp
    have c4 := hI.c4
    have f4 := hI.root.free 4
    clear hp hx hI hr2
    go_enter Try.func27, Try.ntmps27
    go_wp2_with (go_at_call 47; refine (block_miss a mb V.faults b _ c1 c4 f4 hrun ⟨hb.1, by omega⟩).mono ?_; rintro e w' ⟨rfl, rfl⟩)
    go_ret2
    exact HP.out
  | some xs =>
    obtain ⟨e, he, hkey, rfl, _, hrun⟩ := hI.hit hx
    have hp := same_post (r := .tuple #[.int .i64 e.xs.length, .int .i64 0]) (show Arena w own k a V from ⟨ho, mb, clock, L, hI⟩)
    have hr2 : (Value.tuple #[.int .i64 (V.size b), .int .i64 (V.freeErr b)]) = .tuple #[.int .i64 e.xs.length, .int .i64 0] := by simp [AV.size, AV.freeErr, hx]
    rw [AV.touch_hit hx, hr2]
    have HP := Lib.hid hp
    clear hp hx hI hr2 he hkey
    go_enter Try.func27, Try.ntmps27
    go_wp2_with (go_at_call 47; refine (block_hit a mb e.blk _ b _ c1 hrun).mono ?_; rintro e w' ⟨rfl, rfl⟩)
    go_ret2
    exact HP.out
set_option maxHeartbeats 400000 in
/-- Faults. -/
theorem Faults_any (hA : Arena w own k a V) : Calls Try.prog 17 #[.pointer (some ⟨a, 0, none⟩)] w fun e w' => e = .returned (.int .i64 V.faults) ∧ w = w' := by
  obtain ⟨ho, mb, clock, L, hI⟩ := hA
  have c4 := hI.c4
  clear hI
  go_enter Try.func17, Try.ntmps17
  go_wp2
  go_ret
  exact ⟨rfl, rfl⟩
theorem total_eraseP (l : List (Int × List Int)) (b : Int) (xs : List Int) (h : (l.find? (fun p => p.1 == b)).map (·.2) = some xs) : total (l.eraseP fun p => p.1 == b) = total l - xs.length := by
  induction l with
  | nil => simp at h
  | cons p l ih =>
    by_cases hp : (p.1 == b) = true
    · simp only [List.find?_cons, hp, Option.map_some, Option.some.injEq] at h
      subst h
      simp [total, hp]
      omega
    · simp only [List.find?_cons, hp] at h
      have := ih h
      simp only [total, List.eraseP_cons, hp, Bool.false_eq_true, if_false, cond_false, List.map_cons, List.sum_cons] at this ⊢
      omega
theorem total_nonneg (l : List (Int × List Int)) : 0 ≤ total l := by
  induction l with
  | nil => simp [total]
  | cons p l ih => simp only [total, List.map_cons, List.sum_cons] at ih ⊢; omega
theorem AV.Ok.free (h : V.Ok) {b : Int} {xs : List Int} (hf : V.find b = some xs) : (V.free b).Ok := by
  have ht := total_eraseP V.ents b xs hf
  have hn := total_nonneg (V.ents.eraseP fun p => p.1 == b)
  have h1 := h.live
  have h2 := h.sum
  simp only [AV.free, hf]
  refine ⟨h.most, ⟨by dsimp only; omega, by dsimp only; omega⟩, h.made, h.faults, by dsimp only; omega, ?_, ?_⟩
  · exact h.keys.sublist (List.eraseP_sublist)
  · intro p hp
    exact h.ents p (List.mem_of_mem_eraseP hp)
theorem ArenaIn.free (h : ArenaIn w own k a V mb clock L) {b : Int} {xs : List Int} (hf : V.find b = some xs) :
    ArenaIn (PM.setObj (w.setCell ⟨a, 2, none⟩ (.int .i64 (V.live - xs.length))) mb (.map (mobj (mdel (L.map Ent.raw) b)) clock)) own k a (V.free b) mb clock (L.eraseP fun e => e.key == b) := by
  have hr := h.root.setCell 2 (.int .i64 (V.live - xs.length))
  have hm := h.map.setCell_other (a := ⟨a, 2, none⟩) (Ne.symm h.root_map) (.int .i64 (V.live - xs.length))
  refine ⟨?_, ?_, ?_, h.dis.sublist List.eraseP_sublist, ?_⟩
  · have := hr.setObj_other h.root_map (.map (mobj (mdel (L.map Ent.raw) b)) clock)
    simpa [AV.free, hf] using this
  · have := hm.setObj (.map (mobj (mdel (L.map Ent.raw) b)) clock)
    rw [mdel_raw] at this
    rw [mdel_raw]
    exact this
  · intro e he
    have he' := List.mem_of_mem_eraseP he
    exact ((h.blk e he').setCell_other (h.ne_root he') _).setObj_other (h.ne_map he') _
  · rw [← erase_view, h.view]
    simp [AV.free, hf]
set_option maxHeartbeats 400000 in
theorem Free_any (hA : Arena w own k a V) (hf : V.faults < 1000000000000000) (b : Int) :
    Calls Try.prog 50 #[.pointer (some ⟨a, 0, none⟩), .int .i64 b] w (ArPost k a (V.free b) w own (.int .i64 (V.freeErr b))) := by
  obtain ⟨ho, mb, clock, L, hI⟩ := hA
  have c1 := hI.c1
  cases hx : V.find b with
  | none =>
    have hrun := hI.miss hx
    have hb := ho.faults
    have hp := fault_post (r := .int .i64 20) hI ho hf
    have hr1 : V.free b = V.fault := by simp [AV.free, hx]
    have hr2 : V.freeErr b = 20 := by simp [AV.freeErr, hx]
    rw [hr1, hr2]
    have HP := Lib.hid hp
    have c4 := hI.c4
    have f4 := hI.root.free 4
    clear hp hx hI hr1 hr2
    go_enter Try.func50, Try.ntmps50
    go_wp2_with (go_at_call 47; refine (block_miss a mb V.faults b _ c1 c4 f4 hrun ⟨hb.1, by omega⟩).mono ?_; rintro e w' ⟨rfl, rfl⟩)
    go_ret
    exact HP.out
  | some xs =>
    obtain ⟨e, he, hkey, rfl, _, hrun⟩ := hI.hit hx
    have hp : ArPost k a (V.free b) w own (.int .i64 0) (.returned (.int .i64 0)) (PM.setObj (w.setCell ⟨a, 2, none⟩ (.int .i64 (V.live - e.xs.length))) mb (.map (mobj (mdel (L.map Ent.raw) b)) clock)) :=
      ⟨rfl, own, (Ext.refl.setCell (fun _ => hI.root.col) _).setObj (fun _ => hI.map.col) _, ho.free hx, mb, clock, _, hI.free hx⟩
    have hr2 : V.freeErr b = 0 := by simp [AV.freeErr, hx]
    rw [hr2]
    have HP := Lib.hid hp
    have c2 := hI.c2
    have f2 := hI.root.free 2
    have hd : ∀ ty, (Builtin.delete_ #[78, 3] ty #[.map (some mb), .int .i64 b]).run Try.prog (w.setCell ⟨a, 2, none⟩ (.int .i64 (V.live - e.xs.length))) =
        .ok (.tuple #[]) (PM.setObj (w.setCell ⟨a, 2, none⟩ (.int .i64 (V.live - e.xs.length))) mb (.map (mobj (mdel (L.map Ent.raw) b)) clock)) := by
      intro ty
      have hm := hI.map.setCell_other (a := ⟨a, 2, none⟩) (Ne.symm hI.root_map) (.int .i64 (V.live - e.xs.length))
      exact run_del Try.underlying78 Try.underlying3 ty 3 hm.at_ b
    have hl := ho.live
    have hm := ho.most
    have hlen : (e.xs.length : Int) ≤ 256 := by
      have := ho.ents (e.key, e.xs) (by rw [← hI.view]; exact List.mem_map.2 ⟨e, he, rfl⟩)
      simp only at this
      omega
    clear hp hx hI hr2 he hkey ho
    go_enter Try.func50, Try.ntmps50
    go_wp2_with (go_at_call 47; refine (block_hit a mb e.blk _ b _ c1 hrun).mono ?_; rintro e w' ⟨rfl, rfl⟩)
    go_ret
    exact HP.out

/-! ### Alloc -/
set_option maxHeartbeats 400000 in
theorem Alloc_arg (hA : Arena w own k a V) (n : Int) (hn : n < 1 ∨ 256 < n) :
    Calls Try.prog 36 #[.pointer (some ⟨a, 0, none⟩), .int .i64 n] w fun e w' => e = .returned (.tuple #[.int .i64 0, .int .i64 1]) ∧ w = w' := by
  clear hA
  rcases hn with hn | hn
  · go_enter Try.func36, Try.ntmps36
    go_wp2
    go_ret2
    exact ⟨rfl, rfl⟩
  · have h1 : 1 ≤ n := by omega
    go_enter Try.func36, Try.ntmps36
    go_wp2
    go_ret2
    exact ⟨rfl, rfl⟩
set_option maxHeartbeats 400000 in
theorem Alloc_full (c0 : w.cell? ⟨a, 0, none⟩ = some (.int .i64 V.most)) (c2 : w.cell? ⟨a, 2, none⟩ = some (.int .i64 V.live)) (n : Int) (h1 : 1 ≤ n) (h2 : n ≤ 256) (hm : 0 ≤ V.most ∧ V.most ≤ 65536) (hl : 0 ≤ V.live ∧ V.live ≤ V.most)
    (hn : V.most - V.live < n) :
    Calls Try.prog 36 #[.pointer (some ⟨a, 0, none⟩), .int .i64 n] w fun e w' => e = .returned (.tuple #[.int .i64 0, .int .i64 21]) ∧ ∃ m, w.drewN m = w' := by
  go_enter Try.func36, Try.ntmps36
  go_wp2
  go_quiet (fail)
  go_wp2
  go_ret2
  exact ⟨rfl, _, rfl⟩
theorem info_i64 : (Try.prog.info? 2).map (fun i => (i.zero, i.size, i.bytes)) = some (some (.int .i64 0), 1, 8) := by kernel_rfl
theorem make_ints (n : Nat) (h : n ≤ 256) (w : World) : (Instr.makeSlice 22 (.int .i64 n) (.int .i64 n)).run Try.prog w =
    .ok (.slice (some ⟨w.heap.size, 0, none⟩) n n) (w.alloc (.cells (ints (List.replicate n 0)) 2)) := by
  obtain ⟨i, hi, hz0, hz1, hz2⟩ := info_parts info_i64
  have := run_make (P := Try.prog) w 22 2 i (.int .i64 0) Try.underlying22 hi hz0 .i64 .i64 n n (by omega) (by omega) (by rw [hz2]; omega) (by omega)
  rw [this, hz1]
  have e1 : madeCells (Value.int .i64 0).cells ((n : Int).toNat * 1) = ints (List.replicate n 0) := by
    rw [Int.toNat_natCast, Nat.mul_one]
    show madeCells #[Value.int .i64 0] n = _
    apply Array.toList_inj.1
    rw [toList_madeCells_one]
    simp [ints]
  rw [e1, Int.toNat_natCast]
set_option maxHeartbeats 400000 in
theorem Alloc_ok (hlt : a < w.heap.size) (c0 : w.cell? ⟨a, 0, none⟩ = some (.int .i64 V.most)) (c1 : w.cell? ⟨a, 1, none⟩ = some (.map (some mb))) (c2 : w.cell? ⟨a, 2, none⟩ = some (.int .i64 V.live)) (c3 : w.cell? ⟨a, 3, none⟩ = some (.int .i64 V.made))
    (f2 : w.frozen? ⟨a, 2, none⟩ = false) (f3 : w.frozen? ⟨a, 3, none⟩ = false) (n : Nat) (h1 : 1 ≤ n) (h2 : n ≤ 256) (hm : 0 ≤ V.most ∧ V.most ≤ 65536) (hl : 0 ≤ V.live ∧ V.live ≤ V.most)
    (hmd : 0 ≤ V.made ∧ V.made < 1000000000000000) (W : Nat → World)
    (hput : ∀ nq, (Instr.mapUpdate 78 (.map (some mb)) (.int .i64 (V.made + 1)) (.slice (some ⟨w.heap.size, 0, none⟩) n n)).run Try.prog ((((w.drewN nq).setCell ⟨a, 3, none⟩ (.int .i64 (V.made + 1))).alloc (.cells (ints (List.replicate n 0)) 2)).drew) = .ok () (W nq))
    (d2 : ∀ nq, (W nq).cell? ⟨a, 2, none⟩ = some (.int .i64 V.live)) (d3 : ∀ nq, (W nq).cell? ⟨a, 3, none⟩ = some (.int .i64 (V.made + 1))) (g2 : ∀ nq, (W nq).frozen? ⟨a, 2, none⟩ = false)
    (hn : n ≤ V.most - V.live) :
    Calls Try.prog 36 #[.pointer (some ⟨a, 0, none⟩), .int .i64 n] w fun e w' => e = .returned (.tuple #[.int .i64 (V.made + 1), .int .i64 0]) ∧ ∃ m, (W m).setCell ⟨a, 2, none⟩ (.int .i64 (V.live + n)) = w' := by
  have hmk := make_ints n h2
  go_enter Try.func36, Try.ntmps36
  go_wp2
  go_quiet (fail)
  go_wp2
  go_region
  go_wp2
  go_ret2
  exact ⟨rfl, _, rfl⟩

theorem total_append (l : List (Int × List Int)) (p : Int × List Int) : total (l ++ [p]) = total l + p.2.length := by simp [total]
theorem AV.Ok.alloc (h : V.Ok) {n : Int} (he : V.allocErr n = 0) (hm : V.made < 1000000000000000) : (V.alloc n).Ok := by
  have h1 := h.live
  have h2 := h.sum
  have h3 := h.made
  have hn : 1 ≤ n ∧ n ≤ 256 ∧ n ≤ V.most - V.live := by
    unfold AV.allocErr at he
    split at he
    · simp at he
    · split at he
      · simp at he
      · omega
  simp only [AV.alloc, he, if_true]
  refine ⟨h.most, ⟨by dsimp only; omega, by dsimp only; omega⟩, ⟨by dsimp only; omega, by dsimp only; omega⟩, h.faults, ?_, ?_, ?_⟩
  · dsimp only
    rw [total_append, ← h2, List.length_replicate]
    omega
  · rw [List.pairwise_append]
    refine ⟨h.keys, by simp, ?_⟩
    intro p hp q hq
    simp only [List.mem_singleton] at hq
    subst hq
    have := h.ents p hp
    dsimp only
    omega
  · intro p hp
    rw [List.mem_append, List.mem_singleton] at hp
    rcases hp with hp | rfl
    · have := h.ents p hp
      dsimp only
      omega
    · simp only [List.length_replicate]
      omega
theorem ArenaIn.alloc (h : ArenaIn w own k a V mb clock L) (ho : V.Ok) {n : Nat} (he : V.allocErr n = 0) (m : Nat) :
    ArenaIn ((PM.setObj ((((w.drewN m).setCell ⟨a, 3, none⟩ (.int .i64 (V.made + 1))).alloc (.cells (ints (List.replicate n 0)) 2)).drew) mb
        (.map (mobj (L.map Ent.raw ++ [(V.made + 1, .slice (some ⟨w.heap.size, 0, none⟩) n n, clock)])) (clock + 1))).setCell ⟨a, 2, none⟩ (.int .i64 (V.live + n)))
      (ow own w.heap.size k) k a (V.alloc n) mb (clock + 1) (L ++ [⟨V.made + 1, List.replicate n 0, w.heap.size, clock⟩]) := by
  have ha : ∀ b, b < w.heap.size → ow own w.heap.size k b = own b := fun b hb => ow_lt hb
  refine ⟨?_, ?_, ?_, ?_, ?_⟩
  · have := ((((((h.root.drewN m).setCell 3 (.int .i64 (V.made + 1))).alloc (.cells (ints (List.replicate n 0)) 2)).drew).setObj_other h.root_map
      (.map (mobj (L.map Ent.raw ++ [(V.made + 1, .slice (some ⟨w.heap.size, 0, none⟩) n n, clock)])) (clock + 1))).setCell 2 (.int .i64 (V.live + n))).recol (own' := ow own w.heap.size k) (by rw [ha _ h.root.lt]; exact h.root.col)
    simpa [AV.alloc, he] using this
  · have := ((((((h.map.drewN m).setCell_other (a := ⟨a, 3, none⟩) (Ne.symm h.root_map) (.int .i64 (V.made + 1))).alloc (.cells (ints (List.replicate n 0)) 2)).drew).setObj
      (.map (mobj (L.map Ent.raw ++ [(V.made + 1, .slice (some ⟨w.heap.size, 0, none⟩) n n, clock)])) (clock + 1))).setCell_other (a := ⟨a, 2, none⟩) (Ne.symm h.root_map) (.int .i64 (V.live + n))).recol (own' := ow own w.heap.size k) (by rw [ha _ h.map.lt]; exact h.map.col)
    simpa [Ent.raw] using this
  · intro e hm
    rw [List.mem_append, List.mem_singleton] at hm
    rcases hm with hm | rfl
    · exact ((((((h.blk e hm).drewN m).setCell_other (a := ⟨a, 3, none⟩) (h.ne_root hm) (.int .i64 (V.made + 1))).alloc (.cells (ints (List.replicate n 0)) 2)).drew.setObj_other (h.ne_map hm)
        (.map (mobj (L.map Ent.raw ++ [(V.made + 1, .slice (some ⟨w.heap.size, 0, none⟩) n n, clock)])) (clock + 1))).setCell_other (a := ⟨a, 2, none⟩) (h.ne_root hm) (.int .i64 (V.live + n))).recol (own' := ow own w.heap.size k) (by rw [ha _ (h.blk e hm).lt]; exact (h.blk e hm).col)
    · have h1 := Blk.new (own := ow own w.heap.size k) (k := k) ((w.drewN m).setCell ⟨a, 3, none⟩ (.int .i64 (V.made + 1))) (.cells (ints (List.replicate n 0)) 2) (by rw [World.size_setCell]; exact ow_ge (Nat.le_refl _))
      have hs : ((w.drewN m).setCell ⟨a, 3, none⟩ (.int .i64 (V.made + 1))).heap.size = w.heap.size := by rw [World.size_setCell]; rfl
      rw [hs] at h1
      have l1 := h.map.lt
      have l2 := h.root.lt
      exact (h1.drew.setObj_other (by omega) _).setCell_other (by dsimp only; omega) _
  · rw [List.pairwise_append]
    refine ⟨h.dis, by simp, ?_⟩
    intro e hm f hf
    simp only [List.mem_singleton] at hf
    subst hf
    have := (h.blk e hm).lt
    dsimp only
    omega
  · rw [List.map_append, h.view]
    simp [AV.alloc, he, Ent.view]
theorem allocErr_ok {n : Int} (h1 : 1 ≤ n) (h2 : n ≤ 256) (h3 : n ≤ V.most - V.live) : V.allocErr n = 0 := by
  unfold AV.allocErr
  rw [if_neg (by omega), if_neg (by omega)]
set_option maxHeartbeats 400000 in
/-- Alloc. -/
theorem Alloc_any (hA : Arena w own k a V) (hm : V.made < 1000000000000000) (n : Int) :
    Calls Try.prog 36 #[.pointer (some ⟨a, 0, none⟩), .int .i64 n] w
      (ArPost k a (V.alloc n) w own (.tuple #[.int .i64 (if V.allocErr n = 0 then V.made + 1 else 0), .int .i64 (V.allocErr n)])) := by
  by_cases h1 : n < 1 ∨ 256 < n
  · have he : V.allocErr n = 1 := by unfold AV.allocErr; rw [if_pos h1]
    have hv : V.alloc n = V := by simp [AV.alloc, he]
    rw [hv, he]
    refine (Alloc_arg hA n h1).mono ?_
    rintro e w' ⟨rfl, rfl⟩
    exact same_post hA
  · by_cases h2 : V.most - V.live < n
    · have he : V.allocErr n = 21 := by unfold AV.allocErr; rw [if_neg h1, if_pos h2]
      have hv : V.alloc n = V := by simp [AV.alloc, he]
      rw [hv, he]
      obtain ⟨ho, mb, clock, L, hI⟩ := hA
      refine (Alloc_full hI.c0 hI.c2 n (by omega) (by omega) ho.most ho.live h2).mono ?_
      rintro e w' ⟨rfl, m, rfl⟩
      exact ⟨rfl, own, Ext.refl.drewN m, ho, mb, clock, L, hI.ext (M := fun _ => False) (Ext.refl.drewN m) (by simp)⟩
    · obtain ⟨m, rfl⟩ := Int.eq_ofNat_of_zero_le (show 0 ≤ n by omega)
      have he : V.allocErr m = 0 := allocErr_ok (by omega) (by omega) (by omega)
      rw [he, if_pos rfl]
      obtain ⟨ho, mb, clock, L, hI⟩ := hA
      have hmd := ho.made
      have hget : mget (L.map Ent.raw) (V.made + 1) = none := by
        rw [mget_raw]
        simp only [Option.map_eq_none_iff, List.find?_eq_none]
        intro e hm
        have := ho.ents (e.key, e.xs) (by rw [← hI.view]; exact List.mem_map.2 ⟨e, hm, rfl⟩)
        simp only at this
        simp
        omega
      have hB : ∀ nq, Blk ((((w.drewN nq).setCell ⟨a, 3, none⟩ (.int .i64 (V.made + 1))).alloc (.cells (ints (List.replicate m 0)) 2)).drew) own k mb (.map (mobj (L.map Ent.raw)) clock) := fun nq =>
        (((hI.map.drewN nq).setCell_other (a := ⟨a, 3, none⟩) (Ne.symm hI.root_map) (.int .i64 (V.made + 1))).alloc (.cells (ints (List.replicate m 0)) 2)).drew
      have hW : ∃ W : Nat → World, W = fun nq => PM.setObj ((((w.drewN nq).setCell ⟨a, 3, none⟩ (.int .i64 (V.made + 1))).alloc (.cells (ints (List.replicate m 0)) 2)).drew) mb
          (.map (mobj (L.map Ent.raw ++ [(V.made + 1, .slice (some ⟨w.heap.size, 0, none⟩) m m, clock)])) (clock + 1)) := ⟨_, rfl⟩
      obtain ⟨W, hW⟩ := hW
      have hR : ∀ nq, Blk (W nq) own k a (.cells (#[.int .i64 V.most, .map (some mb), .int .i64 V.live, .int .i64 V.made, .int .i64 V.faults].setIfInBounds 3 (.int .i64 (V.made + 1))) 80 (0, 0)) := by
        intro nq
        rw [hW]
        exact (((hI.root.drewN nq).setCell 3 (.int .i64 (V.made + 1))).alloc (.cells (ints (List.replicate m 0)) 2)).drew.setObj_other hI.root_map _
      have d2 : ∀ nq, (W nq).cell? ⟨a, 2, none⟩ = some (.int .i64 V.live) := fun nq => by rw [(hR nq).cell]; simp
      have d3 : ∀ nq, (W nq).cell? ⟨a, 3, none⟩ = some (.int .i64 (V.made + 1)) := fun nq => by rw [(hR nq).cell]; simp
      have g2 : ∀ nq, (W nq).frozen? ⟨a, 2, none⟩ = false := fun nq => (hR nq).free 2
      have hput : ∀ nq, (Instr.mapUpdate 78 (.map (some mb)) (.int .i64 (V.made + 1)) (.slice (some ⟨w.heap.size, 0, none⟩) m m)).run Try.prog ((((w.drewN nq).setCell ⟨a, 3, none⟩ (.int .i64 (V.made + 1))).alloc (.cells (ints (List.replicate m 0)) 2)).drew) = .ok () (W nq) := by
        intro nq
        rw [hW]
        exact run_put_new Try.underlying78 Try.underlying3 (hB nq).at_ _ hget _
      have b2 := hI.root.free 2
      have b3 := hI.root.free 3
      refine (Alloc_ok (V := V) (mb := mb) hI.root.lt hI.c0 hI.c1 hI.c2 hI.c3 b2 b3 m (by omega) (by omega) ho.most ho.live ⟨hmd.1, hm⟩ W hput d2 d3 g2 (by omega)).mono ?_
      rintro e w' ⟨rfl, q, rfl⟩
      rw [hW]
      refine ⟨rfl, ow own w.heap.size k, ?_, ho.alloc he hm, mb, clock + 1, _, hI.alloc ho he q⟩
      refine Ext.mono (M := fun c => c = k) ?_ (fun _ h => h)
      have h0 : Ext (fun c => c = k) w w own (ow own w.heap.size k) := Ext.refl.ow k
      exact (((((h0.drewN q).setCell (fun _ => hI.root.col) _).alloc _).drew).setObj (fun _ => hI.map.col) _).setCell (fun _ => hI.root.col) _

theorem AV.Ok.fresh (most : Int) : (AV.fresh most).Ok := by
  refine ⟨by simp only [AV.fresh]; omega, by simp only [AV.fresh]; omega, by simp [AV.fresh], by simp [AV.fresh], by simp [AV.fresh, total], by simp [AV.fresh], by simp [AV.fresh]⟩
theorem new_arena (most v : Int) (hv : v = (AV.fresh most).most) (k : Nat) (own : Nat → Nat) (w : World) :
    Below w.heap.size w ((w.alloc (.map #[] 0)).alloc (.cells #[.int .i64 v, .map (some w.heap.size), .int .i64 0, .int .i64 0, .int .i64 0] 80)) ∧
      Arena ((w.alloc (.map #[] 0)).alloc (.cells #[.int .i64 v, .map (some w.heap.size), .int .i64 0, .int .i64 0, .int .i64 0] 80)) (ow own w.heap.size k) k (w.heap.size + 1) (AV.fresh most) := by
  subst hv
  refine ⟨((Below.refl _ _).alloc (Nat.le_refl _) _).alloc (by simp) _, AV.Ok.fresh most, w.heap.size, 0, [], ?_, ?_, by simp, by simp, by simp [AV.fresh]⟩
  · have := Blk.new (own := ow own w.heap.size k) (k := k) (w.alloc (.map #[] 0)) (.cells #[.int .i64 (AV.fresh most).most, .map (some w.heap.size), .int .i64 0, .int .i64 0, .int .i64 0] 80) (by rw [World.size_alloc]; exact ow_ge (by omega))
    simpa [AV.fresh] using this
  · have := (Blk.new (own := ow own w.heap.size k) (k := k) w (.map #[] 0) (ow_ge (Nat.le_refl _))).alloc (.cells #[.int .i64 (AV.fresh most).most, .map (some w.heap.size), .int .i64 0, .int .i64 0, .int .i64 0] 80)
    simpa [mobj] using this
set_option maxHeartbeats 400000 in
/-- New. -/
theorem New_any (most : Int) (k : Nat) (own : Nat → Nat) (w : World) :
    Calls Try.prog 20 #[.int .i64 most] w fun e w' => e = .returned (.pointer (some ⟨w.heap.size + 1, 0, none⟩)) ∧ Below w.heap.size w w' ∧ Arena w' (ow own w.heap.size k) k (w.heap.size + 1) (AV.fresh most) := by
  have hmm := @run_makeMap Try.prog
  go_enter Try.func20, Try.ntmps20
  go_wp2
  all_goals
    go_ret
    exact ⟨rfl, new_arena most _ (by simp only [AV.fresh]; omega) k own w⟩
end
end Go.Proofs.Ytefhngbeodnldaa
