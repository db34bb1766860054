/- Slices of ints as calls read them: Has, SameInts. -/
import Derived.Test.YtkfinhakhhiabaaProg
import Derived.Test.YtkfinhakhhiabaaArgs
import Derived.Test.YtkfinhakhhiabaaRow
import Derived.Lib.Hide
set_option maxRecDepth 20000
set_option linter.unusedVariables false
set_option linter.unusedSimpArgs false
namespace Go.PM
open Go.RowKit
/-- v is a slice of the ints xs. -/
structure Ints (P : Program) (T : TypeId) (w : World) (v : Value) (b off : Nat) (xs : List Int) : Prop where
  len : ∀ w' ty, (Builtin.len_ #[T] ty #[v]).run P w' = .ok (.int .i64 xs.length) w'
  idx : ∀ w' (i : Nat), i < xs.length → (Instr.indexAt T v (.int .i64 i)).run P w' = .ok (.pointer (some ⟨b, off + i, none⟩)) w'
  cell : ∀ (i : Nat) (h : i < xs.length), w.cell? ⟨b, off + i, none⟩ = some (.int .i64 xs[i])
  lt : 0 < xs.length → b < w.heap.size
section
variable {P : Program} {T E : TypeId} {w w' : World} {v : Value} {own : Nat → Nat} {k n : Nat} {xs : List Int}
theorem Ints.of_row {i0 : TypeInfo} (hT : P.underlying T = some (.slice E)) (hi0 : P.info? E = some i0) (hs : i0.size = 1) (h : Row w own k E 1 v n (xs.map (Value.int .i64))) : ∃ b, Ints P T w v b 0 xs := by
  have hl : xs.length = n := by have := h.1; simpa using this
  by_cases hn : 0 < n
  · obtain ⟨g, cap, cur, rfl, hb, _, _, _, hc⟩ := h.cells hn
    refine ⟨g, fun w' ty => by rw [hl]; exact run_len_slice hT _ _ _ w' ty, fun w' i hi => ?_, fun i hi => ?_, fun _ => hb.lt⟩
    · rw [run_idx_slice hT hi0 g 0 n cap i (by omega) w', hs, Nat.mul_one]
    · rw [Nat.zero_add, hc i (by omega), List.getElem?_map, List.getElem?_eq_getElem hi]
      rfl
  · obtain ⟨a, cap, rfl⟩ := h.shape
    have hn0 : n = 0 := by omega
    exact ⟨0, fun w' ty => by rw [hl]; exact run_len_slice hT _ _ _ w' ty, fun w' i hi => by omega, fun i hi => by omega, fun h => by omega⟩
theorem Ints.of_recs {b off : Nat} {f : Nat → Nat → Int} (h : Recs P T 1 w v n b off f) : Ints P T w v b off ((List.range n).map fun i => f i 0) := by
  refine ⟨fun w' ty => by simpa using h.len w' ty, fun w' i hi => ?_, fun i hi => ?_, fun hl => h.lt (by simpa using hl)⟩
  · have := h.idx w' i (by simpa using hi)
    rwa [Nat.mul_one] at this
  · have := h.cell i 0 (by simpa using hi) (by omega)
    rw [Nat.mul_one, Nat.add_zero] at this
    simpa using this
theorem Ints.keep {b off : Nat} (h : Ints P T w v b off xs) (e : 0 < xs.length → w'.heap[b]? = w.heap[b]?) (hs : w.heap.size ≤ w'.heap.size) : Ints P T w' v b off xs :=
  ⟨h.len, h.idx, fun i hi => by rw [← h.cell i hi]; simp only [World.cell?, e (by omega)], fun hl => Nat.lt_of_lt_of_le (h.lt hl) hs⟩
theorem Ints.below {b off : Nat} (h : Ints P T w v b off xs) (e : Below w.heap.size w w') : Ints P T w' v b off xs :=
  h.keep (fun hl => e.block b (h.lt hl)) e.size
end
end Go.PM
namespace Go.Proofs.Ytkfinhakhhiabaa
open Go.RowKit Go.PM
def HasInv (w0 : World) (xs : List Int) (t : Int) (iv : Value) (w : World) : Prop := ∃ i : Nat, iv = .int .i64 i ∧ i ≤ xs.length ∧ (∀ j, j < i → xs[j]? ≠ some t) ∧ w = w0
set_option maxHeartbeats 400000 in
theorem Has_any {w : World} {v : Value} {b off : Nat} {xs : List Int} (h : Ints Try.prog 30 w v b off xs) (hl : xs.length ≤ 9000000000000000000) (t : Int) :
    Calls Try.prog 13 #[v, .int .i64 t] w fun e w' => e = .returned (.bool (xs.contains t)) ∧ w = w' := by
  have hlen := h.len
  have hidx := h.idx
  have HC := Lib.hid h.cell
  clear h
  go_enter Try.func13, Try.ntmps13
  go_wp2
  go_loopw [5] (fun iv wr => HasInv w xs t iv wr) (fun iv _ => xs.length - (intOf iv).toNat)
  case atStart => exact ⟨0, rfl, by omega, fun j hj => by omega, rfl⟩
  case round =>
    obtain ⟨i, rfl, hi, hno, rfl⟩ := hrel
    have HN := Lib.hid hno
    clear hno
    by_cases hlt : i < xs.length
    · have hlt2 : (i : Int) < xs.length := by omega
      have hc := HC.out i hlt
      have hget : xs[i]? = some xs[i] := List.getElem?_eq_getElem hlt
      have hmem : xs[i] ∈ xs := List.getElem_mem hlt
      generalize xs[i] = x at *
      by_cases hx : x = t
      · have hcon : xs.contains t = true := by rw [← hx]; simpa using hmem
        have HCON := Lib.hid hcon
        have b1 : (x == t) = true := by simp [hx]
        clear hcon hx hmem hget
        go_wp2
        go_ret
        exact ⟨by rw [HCON.out]; exact rfl, rfl⟩
      · have b1 : (x == t) = false := by simp [hx]
        have hno2 : ∀ j, j < i + 1 → xs[j]? ≠ some t := by
          intro j hj
          by_cases hji : j = i
          · subst hji; rw [hget]; simp [hx]
          · exact HN.out j (by omega)
        have HN2 := Lib.hid hno2
        clear hx hmem hget hno2
        go_wp2
        go_roundw
        case rel => exact ⟨i + 1, by go_num, by omega, HN2.out, rfl⟩
        case measure => simp [intOf]; omega
    · obtain rfl : i = xs.length := by omega
      have hcon : xs.contains t = false := by
        simp only [List.contains_eq_mem, decide_eq_false_iff_not]
        intro hm
        obtain ⟨j, hj, e⟩ := List.mem_iff_getElem.1 hm
        exact HN.out j hj (by rw [List.getElem?_eq_getElem hj, e])
      have HCON := Lib.hid hcon
      clear hcon
      go_wp2
      go_ret
      exact ⟨by rw [HCON.out]; exact rfl, rfl⟩
end Go.Proofs.Ytkfinhakhhiabaa
