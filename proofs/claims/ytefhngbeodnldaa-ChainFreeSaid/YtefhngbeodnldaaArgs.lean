/- Arguments that came in: slices of ints and of structs of ints, told by what the walk's operations do with them. -/
import Derived.Test.YtefhngbeodnldaaMem
import Derived.ProofKit
import Derived.SizedLaws
import Derived.Deep.Slices
import Derived.Deep.Fields
import Derived.ChangeSame
import Derived.Carry
set_option linter.unusedVariables false
set_option linter.unusedSimpArgs false
namespace Go.PM
open Go.ChangeShapes Go.WideShapes Go.ChangeAt Go.RowKit Go.Deep

/-- v is a slice of structs of c ints each (c = 1: of ints), that came in. -/
structure Recs (P : Program) (T : TypeId) (c : Nat) (w : World) (v : Value) (n b off : Nat) (f : Nat → Nat → Int) : Prop where
  len : ∀ w' ty, (Builtin.len_ #[T] ty #[v]).run P w' = .ok (.int .i64 n) w'
  idx : ∀ w' (i : Nat), i < n → (Instr.indexAt T v (.int .i64 i)).run P w' = .ok (.pointer (some ⟨b, off + i * c, none⟩)) w'
  cell : ∀ i j, i < n → j < c → w.cell? ⟨b, off + i * c + j, none⟩ = some (.int .i64 (f i j))
  lt : 0 < n → b < w.heap.size
  size : n * (8 * c) ≤ 140737488351232
  rng : ∀ i j, i < n → j < c → -9223372036854775808 ≤ f i j ∧ f i j ≤ 9223372036854775807

theorem Recs.at_ {P : Program} {T : TypeId} {c : Nat} {w w' : World} {v : Value} {n b off : Nat} {f : Nat → Nat → Int} (h : Recs P T c w v n b off f) (hb : Below w.heap.size w w') {i j : Nat} (hi : i < n) (hj : j < c) :
    w'.cell? ⟨b, off + i * c + j, none⟩ = some (.int .i64 (f i j)) := by
  rw [hb.cell (h.lt (by omega))]
  exact h.cell i j hi hj

section
variable {P : Program}
theorem run_len_slice {T E : TypeId} (hT : P.underlying T = some (.slice E)) (a : Option Addr) (n c : Nat) (w : World) (ty : TypeId) : (Builtin.len_ #[T] ty #[.slice a n c]).run P w = .ok (.int .i64 n) w := by
  simp [Builtin.len_, run_underlying hT, goInt]
theorem run_idx_slice {T E : TypeId} (hT : P.underlying T = some (.slice E)) {i0 : TypeInfo} (hi0 : P.info? E = some i0) (b off n c i : Nat) (h : i < n) (w : World) :
    (Instr.indexAt T (.slice (some ⟨b, off, none⟩) n c) (.int .i64 i)).run P w = .ok (.pointer (some ⟨b, off + i * i0.size, none⟩)) w := by
  have h2 : (i : Int) < n := by omega
  have h3 : (⟨b, off, none⟩ : Addr).add (i * i0.size) = ⟨b, off + i * i0.size, none⟩ := by
    unfold Addr.add
    split
    · rename_i h0; rw [h0, Nat.add_zero]
    · rfl
  simp [Instr.indexAt, run_underlying hT, asIntOf, h2, sizeOf, typeInfo, hi0, h3]
  intro h4
  omega
end

theorem rng_of_wf {n : Int} (h : (Lit.int .i64 n).wf = true) : -9223372036854775808 ≤ n ∧ n ≤ 9223372036854775807 := by
  have h1 : IntKind.i64.min = -9223372036854775808 := rfl
  have h2 : IntKind.i64.max = 9223372036854775807 := rfl
  simp only [Lit.wf, Bool.and_eq_true, decide_eq_true_eq] at h
  omega

section
variable {H : Type} {enc : TypeId × Value → H} {P : Program} {W : World} {base : Nat} {held : Bool}
/-- A slice of ints that came in. -/
theorem view_ints {T E : TypeId} {i0 : TypeInfo} (hT : P.underlying T = some (.slice E)) (hE : P.underlying E = some (.int .i64)) (hc : P.cellsOf E = 1) (hi0 : P.info? E = some i0) (hs : i0.size = 1) (hby : P.bytesOf E = 8)
    {v : Value} {d : DataW H} {p : List MemPlace} {bs : Nat} (hv : Value.okWide P W .any bs T v) (h : DataW.Trod enc P W base (fun _ => true) held T v d p) (hlt : ∀ x ∈ p, x.block < W.heap.size)
    {ts : List TypeId} {ds : List (DataW H)} (hsz : (DataW.weightsEach P ts ds).all (· ≤ reachBytes) = true) {j : Nat} (htj : ts[j]? = some T) (hdj : ds[j]? = some d) :
    ∃ n b off f, Recs P T 1 W v n b off f := by
  obtain ⟨a0, len, cap, rfl⟩ := okWide_slice hT hv
  obtain ⟨fuel, hf⟩ := h
  rcases open_ints hT hE hc hf with ⟨hcs, hx⟩ | ⟨a, len', cap', zs, hcs, _, hl, hm, hz, hx, hcell, hwz⟩
  · simp [Value.cells] at hcs
    obtain ⟨rfl, rfl, rfl⟩ := hcs
    exact ⟨0, 0, 0, fun _ _ => 0, fun w' ty => run_len_slice hT none 0 0 w' ty, fun _ _ h => by omega, fun _ _ h => by omega, fun h => by omega, by omega, fun _ _ h => by omega⟩
  · simp [Value.cells] at hcs
    obtain ⟨rfl, rfl, rfl⟩ := hcs
    simp only [Prod.mk.injEq] at hx
    obtain ⟨rfl, rfl⟩ := hx
    simp only [if_true] at hz
    have hreach : len * 8 ≤ 140737488351232 := by
      have := sized_slice hsz (j := j) (t := T) (e := E) htj hdj hT
      rw [hby] at this
      simp only [lits, List.length_map, List.length_take, List.length_drop, reachBytes] at this
      omega
    by_cases hl0 : len = 0
    · subst hl0
      exact ⟨0, 0, 0, fun _ _ => 0, fun w' ty => run_len_slice hT _ 0 _ w' ty, fun _ _ h => by omega, fun _ _ h => by omega, fun h => by omega, by omega, fun _ _ h => by omega⟩
    · obtain ⟨b, off, spot⟩ := a
      have hspot : spot = none := by simpa [Addr.add] using World.cell?_spot (hcell 0 (by omega))
      subst hspot
      have hbW : b < W.heap.size := hlt (.cell b off) (MemPlace.mem_row.2 ⟨0, by omega, by simp⟩)
      refine ⟨len, b, off, fun i _ => zs.getD i 0, fun w' ty => run_len_slice hT _ _ _ w' ty, fun w' i hi => ?_, fun i j hi hj => ?_, fun _ => hbW, by omega, fun i j hi _ => ?_⟩
      · rw [run_idx_slice hT hi0 b off len cap i hi w', hs]
      · have : j = 0 := by omega
        subst this
        rw [Nat.mul_one, Nat.add_zero, ← add_plain]
        exact hcell i (by omega)
      · refine rng_of_wf (hwz _ ?_)
        have hi' : i < zs.length := by omega
        simp only [List.getD_eq_getElem?_getD, List.getElem?_eq_getElem hi', Option.getD_some]
        exact List.getElem_mem _

theorem open_slice_fields {spare : Nat → Bool} {t e : TypeId} {fs : Array Field} {fuel : Nat} {cs : List Value} {x : DataW H × List MemPlace} (ht : P.underlying t = some (.slice e)) (he : P.underlying e = some (.struct fs))
    (hone : oneCellFields P fs = true) (hC : P.cellsOf e = fs.size) (h : DataW.trod enc P W base spare held fuel t cs = some x) :
    (cs = [.slice none 0 0] ∧ x = (.nil, [])) ∨
    ∃ (a : Addr) (len cap m : Nat) (D : Nat → DataW H) (Pl : Nat → List MemPlace), cs = [.slice (some a) len cap] ∧ base ≤ a.block ∧ len ≤ cap ∧ cap ≤ maxLen ∧ m = (if spare a.block then cap else len) ∧
      x = (.slice ((List.range len).map D) ((List.range (m - len)).map fun j => D (len + j)), MemPlace.row a (m * fs.size) ++ (List.range m).flatMap Pl) ∧
      ∀ i, i < m → ∃ (ys : List (DataW H × List MemPlace)) (n : Nat), D i = .agg (ys.map (·.1)) ∧ Pl i = ys.flatMap (·.2) ∧ ys.length = fs.size ∧
        ∀ (j : Nat) (f : Field), fs[j]? = some f → ∃ (v : Value) (y : DataW H × List MemPlace), W.cell? (a.add (i * fs.size + j)) = some v ∧ ys[j]? = some y ∧ DataW.trod enc P W base spare held n f.type [v] = some y := by
  rcases open_slice ht h with h0 | ⟨a, len, cap, m, n, D, Pl, hcs, hb, hl, hm, hmm, hx, hi⟩
  · exact .inl h0
  · refine .inr ⟨a, len, cap, m, D, Pl, hcs, hb, hl, hm, hmm, by rw [hC] at hx; exact hx, fun i him => ?_⟩
    obtain ⟨cs', hc, ht'⟩ := hi i him
    rw [hC] at hc
    obtain ⟨ys, n', hn', hy, hlen, hyl, hf⟩ := DataW.trod_struct he ht'
    obtain ⟨_, hcl, hat⟩ := World.cells?_some hc
    simp only [Prod.mk.injEq] at hy
    refine ⟨ys, n', hy.1, hy.2, hyl, fun j f hj => ?_⟩
    obtain ⟨ho, hk⟩ := hone_of hone j f hj
    have hjl : j < fs.size := (Array.getElem?_eq_some_iff.1 hj).1
    have hcell := hat j hjl
    have hv : cs'[j]? = some (cs'[j]'(by omega)) := List.getElem?_eq_getElem (by omega)
    have h1 := hf j f hj
    rw [ho, hk] at h1
    have hone' : (cs'.drop j).take 1 = [cs'[j]'(by omega)] := by
      rw [List.drop_eq_getElem_cons (by omega)]
      rfl
    rw [hone'] at h1
    have hys : ys[j]? = some (ys[j]'(by omega)) := List.getElem?_eq_getElem (by omega)
    refine ⟨_, _, ?_, hys, h1.trans hys⟩
    rw [← Go.Deep.add_add, hcell, hv]

/-- A slice of structs of ints that came in. -/
theorem view_recs {T E : TypeId} {fs : Array Field} {i0 : TypeInfo} (hT : P.underlying T = some (.slice E)) (hE : P.underlying E = some (.struct fs)) (hone : oneCellFields P fs = true) (hC : P.cellsOf E = fs.size)
    (hint : ∀ (j : Nat) (f : Field), fs[j]? = some f → P.underlying f.type = some (.int .i64)) (hpos : 0 < fs.size)
    (hi0 : P.info? E = some i0) (hs : i0.size = fs.size) (hby : P.bytesOf E = 8 * fs.size)
    {v : Value} {d : DataW H} {p : List MemPlace} {bs : Nat} (hv : Value.okWide P W .any bs T v) (h : DataW.Trod enc P W base (fun _ => true) held T v d p) (hlt : ∀ x ∈ p, x.block < W.heap.size)
    {ts : List TypeId} {ds : List (DataW H)} (hsz : (DataW.weightsEach P ts ds).all (· ≤ reachBytes) = true) {j : Nat} (htj : ts[j]? = some T) (hdj : ds[j]? = some d) :
    ∃ n b off f, Recs P T fs.size W v n b off f := by
  obtain ⟨a0, len, cap, rfl⟩ := okWide_slice hT hv
  obtain ⟨fuel, hf⟩ := h
  rcases open_slice_fields hT hE hone hC hf with ⟨hcs, hx⟩ | ⟨a, len', cap', m, D, Pl, hcs, _, hl, hm, hmm, hx, hrow⟩
  · simp [Value.cells] at hcs
    obtain ⟨rfl, rfl, rfl⟩ := hcs
    exact ⟨0, 0, 0, fun _ _ => 0, fun w' ty => run_len_slice hT none 0 0 w' ty, fun _ _ h => by omega, fun _ _ h => by omega, fun h => by omega, by omega, fun _ _ h => by omega⟩
  · simp [Value.cells] at hcs
    obtain ⟨rfl, rfl, rfl⟩ := hcs
    simp only [Prod.mk.injEq] at hx
    obtain ⟨rfl, rfl⟩ := hx
    simp only [if_true] at hmm
    subst hmm
    have hreach : len * (8 * fs.size) ≤ 140737488351232 := by
      have := sized_slice hsz (j := j) (t := T) (e := E) htj hdj hT
      rw [hby] at this
      simp only [List.length_map, List.length_range, reachBytes] at this
      refine Nat.le_trans (Nat.mul_le_mul_right _ ?_) this
      omega
    by_cases hl0 : len = 0
    · subst hl0
      exact ⟨0, 0, 0, fun _ _ => 0, fun w' ty => run_len_slice hT _ 0 _ w' ty, fun _ _ h => by omega, fun _ _ h => by omega, fun h => by omega, by omega, fun _ _ h => by omega⟩
    · obtain ⟨b, off, spot⟩ := a
      have hcell : ∀ i j, i < len → j < fs.size → ∃ n, W.cell? ((⟨b, off, spot⟩ : Addr).add (i * fs.size + j)) = some (.int .i64 n) ∧ (Lit.int .i64 n).wf = true := by
        intro i j hi hj
        obtain ⟨ys, n, _, _, _, hfld⟩ := hrow i (by omega)
        obtain ⟨u, y, hu, _, ht⟩ := hfld j fs[j] (by rw [Array.getElem?_eq_getElem hj])
        obtain ⟨z, hz, rfl, wz⟩ := DataW.trod_int (hint j fs[j] (by rw [Array.getElem?_eq_getElem hj])) ht
        simp at hz
        subst hz
        exact ⟨z, hu, wz⟩
      have hspot : spot = none := by
        obtain ⟨n, hn, _⟩ := hcell 0 0 (by omega) hpos
        simpa [Addr.add] using World.cell?_spot hn
      subst hspot
      have hbW : b < W.heap.size := hlt (.cell b off) (List.mem_append_left _ (MemPlace.mem_row.2 ⟨0, Nat.mul_pos (by omega) hpos, by simp⟩))
      refine ⟨len, b, off, fun i j => if h : i < len ∧ j < fs.size then (hcell i j h.1 h.2).choose else 0, fun w' ty => run_len_slice hT _ _ _ w' ty, fun w' i hi => ?_, fun i j hi hj => ?_, fun _ => hbW, hreach, fun i j hi hj => ?_⟩
      · rw [run_idx_slice hT hi0 b off len _ i hi w', hs]
      · rw [dif_pos ⟨hi, hj⟩, Nat.add_assoc, ← add_plain]
        exact (hcell i j hi hj).choose_spec.1
      · rw [dif_pos ⟨hi, hj⟩]
        exact rng_of_wf (hcell i j hi hj).choose_spec.2
end
end Go.PM
