/- Layer 4: New. -/
import Derived.Test.YtefhngbeodnldaaEpochRetire
set_option maxRecDepth 20000
set_option linter.unusedVariables false
set_option linter.unusedSimpArgs false
namespace Go.Proofs.Ytefhngbeodnldaa
open Go.RowKit Go.PM

def YV.fresh (threads bound : Int) : YV := ⟨min (max bound 0) 64, 0, List.replicate (1 + (min (max threads 1) 8).toNat) 0, []⟩
theorem make_int_at (n : Nat) (z : Int) (hz : z = n) (h : n ≤ 9) (w : World) : (Instr.makeSlice 54 (.int .i64 z) (.int .i64 z)).run Try.prog w =
    .ok (.slice (some ⟨w.heap.size, 0, none⟩) n n) (w.alloc (.cells (irow (List.replicate n 0)).toArray 3)) := by
  subst hz
  obtain ⟨i, hi, hz0, hz1, hz2⟩ := parts_intL
  have := run_make (P := Try.prog) w 54 3 i (.int .i64 0) Try.underlying54 hi hz0 .i64 .i64 n n (by omega) (by omega) (by rw [hz2]; omega) (by omega)
  rw [this, hz1]
  have e1 : madeCells (Value.int .i64 0).cells ((n : Int).toNat * 1) = (irow (List.replicate n 0)).toArray := by
    rw [Int.toNat_natCast, Nat.mul_one]
    have hc : (Value.int .i64 0).cells = #[.int .i64 0] := rfl
    rw [hc]
    apply Array.ext
    · simp [madeCells, irow]
    · intro i h1 h2
      simp [madeCells, irow, Nat.mod_one]
  rw [e1]
  simp
theorem new_yard (w : World) (own : Nat → Nat) (k a n : Nat) (bnd : Int) (hb : 0 ≤ bnd ∧ bnd ≤ 64) (hn : 2 ≤ n ∧ n ≤ 9) :
    Yard ((w.alloc (.cells (irow (List.replicate n 0)).toArray 3)).alloc (.cells #[.pointer (some ⟨a, 0, none⟩), .int .i64 bnd, .int .i64 0, .slice (some ⟨w.heap.size, 0, none⟩) n n, .slice none 0 0] 86)) (ow own w.heap.size k) k (w.heap.size + 1) a ⟨bnd, 0, List.replicate n 0, []⟩ (.slice (some ⟨w.heap.size, 0, none⟩) n n) (.slice none 0 0) := by
  refine ⟨?_, ?_, Row.nil _ _ _ _ _, ⟨by simpa using hn, by show (0 : Int) ≤ 0 ∧ (0 : Int) < 2000000000000000; omega, hb, fun x hx => ?_⟩⟩
  · have := Blk.new (own := ow own w.heap.size k) (k := k) (w.alloc (.cells (irow (List.replicate n 0)).toArray 3)) (.cells #[.pointer (some ⟨a, 0, none⟩), .int .i64 bnd, .int .i64 0, .slice (some ⟨w.heap.size, 0, none⟩) n n, .slice none 0 0] 86) (by rw [World.size_alloc]; exact ow_ge (by omega))
    rwa [World.size_alloc] at this
  · have hb1 := (Blk.new (own := ow own w.heap.size k) (k := k) w (.cells (irow (List.replicate n 0)).toArray 3) (ow_ge (Nat.le_refl _))).alloc (.cells #[.pointer (some ⟨a, 0, none⟩), .int .i64 bnd, .int .i64 0, .slice (some ⟨w.heap.size, 0, none⟩) n n, .slice none 0 0] 86)
    show Row _ _ _ _ _ _ (List.replicate n (0 : Int)).length (irow (List.replicate n 0))
    rw [List.length_replicate]
    refine ⟨by simp [irow], .inr ⟨w.heap.size, n, _, rfl, hb1, Nat.le_refl _, by unfold maxLen; omega, by simp [irow], ?_⟩⟩
    rw [List.take_of_length_le]
    simp [irow]
  · have := List.eq_of_mem_replicate hx
    subst this
    exact ⟨Int.le_refl _, Int.le_refl _⟩
theorem new_bound (bound x : Int) (h : x = min (max bound 0) 64) : 0 ≤ x ∧ x ≤ 64 := by omega
set_option maxHeartbeats 2000000 in
theorem YNew_any (threads bound : Int) (a k : Nat) (own : Nat → Nat) (w : World) :
    Calls Try.prog 21 #[.pointer (some ⟨a, 0, none⟩), .int .i64 threads, .int .i64 bound] w fun e w' => e = .returned (.pointer (some ⟨w.heap.size + 1, 0, none⟩)) ∧ Below w.heap.size w w' ∧ ∃ ev, Yard w' (ow own w.heap.size k) k (w.heap.size + 1) a (YV.fresh threads bound) ev (.slice none 0 0) := by
  have key : ∀ (n : Nat) (x : Int), n = 1 + (min (max threads 1) 8).toNat → x = min (max bound 0) 64 →
      Below w.heap.size w ((w.alloc (.cells (irow (List.replicate n 0)).toArray 3)).alloc (.cells #[.pointer (some ⟨a, 0, none⟩), .int .i64 x, .int .i64 0, .slice (some ⟨w.heap.size, 0, none⟩) n n, .slice none 0 0] 86)) ∧
      ∃ ev, Yard ((w.alloc (.cells (irow (List.replicate n 0)).toArray 3)).alloc (.cells #[.pointer (some ⟨a, 0, none⟩), .int .i64 x, .int .i64 0, .slice (some ⟨w.heap.size, 0, none⟩) n n, .slice none 0 0] 86)) (ow own w.heap.size k) k (w.heap.size + 1) a (YV.fresh threads bound) ev (.slice none 0 0) := by
    intro n x hn hx
    refine ⟨((Below.refl _ _).alloc (Nat.le_refl _) _).alloc (by simp) _, .slice (some ⟨w.heap.size, 0, none⟩) n n, ?_⟩
    have := new_yard w own k a n x (new_bound bound x hx) (by omega)
    unfold YV.fresh
    rw [← hn, ← hx]
    exact this
  by_cases h1 : threads < 1
  · have hmk := make_int_at 2 2 rfl (by decide)
    have HK := Lib.hid (fun x hx => key 2 x (by omega) hx)
    clear key
    go_enter Try.func21, Try.ntmps21
    go_wp2
    all_goals
      go_ret
      exact ⟨rfl, HK.out _ (by omega)⟩
  · by_cases h2 : 8 < threads
    · have hmk := make_int_at 9 9 rfl (by decide)
      have HK := Lib.hid (fun x hx => key 9 x (by omega) hx)
      clear key
      go_enter Try.func21, Try.ntmps21
      go_wp2
      all_goals
        go_ret
        exact ⟨rfl, HK.out _ (by omega)⟩
    · obtain ⟨m, rfl⟩ : ∃ m : Nat, threads = m := ⟨threads.toNat, by omega⟩
      have hmk := make_int_at (1 + m) (1 + (m : Int)) (by omega) (by omega)
      have HK := Lib.hid (fun x hx => key (1 + m) x (by omega) hx)
      clear key
      go_enter Try.func21, Try.ntmps21
      go_wp2
      all_goals
        go_ret
        exact ⟨rfl, HK.out _ (by omega)⟩
end Go.Proofs.Ytefhngbeodnldaa
