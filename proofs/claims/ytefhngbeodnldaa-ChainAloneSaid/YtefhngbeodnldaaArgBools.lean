/- Arguments that came in: slices of bools. -/
import Derived.Test.YtefhngbeodnldaaArgs
import Derived.Deep.Grids
set_option maxRecDepth 20000
set_option linter.unusedVariables false
set_option linter.unusedSimpArgs false
namespace Go.PM
open Go.ChangeShapes Go.WideShapes Go.ChangeAt Go.RowKit Go.Deep
/-- v is a slice of bools, that came in. -/
structure BRecs (P : Program) (T : TypeId) (w : World) (v : Value) (n b off : Nat) (f : Nat → Bool) : Prop where
  len : ∀ w' ty, (Builtin.len_ #[T] ty #[v]).run P w' = .ok (.int .i64 n) w'
  idx : ∀ w' (i : Nat), i < n → (Instr.indexAt T v (.int .i64 i)).run P w' = .ok (.pointer (some ⟨b, off + i, none⟩)) w'
  cell : ∀ i, i < n → w.cell? ⟨b, off + i, none⟩ = some (.bool (f i))
  lt : 0 < n → b < w.heap.size
  size : n ≤ 140737488351232
theorem BRecs.at_ {P : Program} {T : TypeId} {w w' : World} {v : Value} {n b off : Nat} {f : Nat → Bool} (h : BRecs P T w v n b off f) (hb : Below w.heap.size w w') {i : Nat} (hi : i < n) :
    w'.cell? ⟨b, off + i, none⟩ = some (.bool (f i)) := by
  rw [hb.cell (h.lt (by omega))]
  exact h.cell i hi
section
variable {H : Type} {enc : TypeId × Value → H} {P : Program} {W : World} {base : Nat} {held : Bool}
theorem view_bools {T E : TypeId} {i0 : TypeInfo} (hT : P.underlying T = some (.slice E)) (hE : P.underlying E = some .bool) (hc : P.cellsOf E = 1) (hi0 : P.info? E = some i0) (hs : i0.size = 1) (hby : P.bytesOf E = 1)
    {v : Value} {d : DataW H} {p : List MemPlace} {bs : Nat} (hv : Value.okWide P W .any bs T v) (h : DataW.Trod enc P W base (fun _ => true) held T v d p) (hlt : ∀ x ∈ p, x.block < W.heap.size)
    {ts : List TypeId} {ds : List (DataW H)} (hsz : (DataW.weightsEach P ts ds).all (· ≤ reachBytes) = true) {j : Nat} (htj : ts[j]? = some T) (hdj : ds[j]? = some d) :
    ∃ n b off f, BRecs P T W v n b off f := by
  obtain ⟨a0, len, cap, rfl⟩ := okWide_slice hT hv
  obtain ⟨fuel, hf⟩ := h
  rcases open_bools hT hE hc hf with ⟨hcs, hx⟩ | ⟨a, len', cap', B, hcs, _, hl, hm, hx, hcell⟩
  · simp [Value.cells] at hcs
    obtain ⟨rfl, rfl, rfl⟩ := hcs
    exact ⟨0, 0, 0, fun _ => false, fun w' ty => run_len_slice hT none 0 0 w' ty, fun _ _ h => by omega, fun _ h => by omega, fun h => by omega, by omega⟩
  · simp [Value.cells] at hcs
    obtain ⟨rfl, rfl, rfl⟩ := hcs
    simp only [Prod.mk.injEq] at hx
    obtain ⟨rfl, rfl⟩ := hx
    have hreach : len * 1 ≤ 140737488351232 := by
      have := sized_slice hsz (j := j) (t := T) (e := E) htj hdj hT
      rw [hby] at this
      simp only [List.length_map, List.length_range, reachBytes] at this
      omega
    by_cases hl0 : len = 0
    · subst hl0
      exact ⟨0, 0, 0, fun _ => false, fun w' ty => run_len_slice hT _ 0 _ w' ty, fun _ _ h => by omega, fun _ h => by omega, fun h => by omega, by omega⟩
    · obtain ⟨b, off, spot⟩ := a
      have hspot : spot = none := by simpa [Addr.add] using World.cell?_spot (hcell 0 (by omega))
      subst hspot
      have hbW : b < W.heap.size := hlt (.cell b off) (MemPlace.mem_row.2 ⟨0, by omega, by simp⟩)
      refine ⟨len, b, off, B, fun w' ty => run_len_slice hT _ _ _ w' ty, fun w' i hi => ?_, fun i hi => ?_, fun _ => hbW, by omega⟩
      · rw [run_idx_slice hT hi0 b off len _ i hi w', hs, Nat.mul_one]
      · rw [← add_plain]
        exact hcell i (by omega)
end
end Go.PM
