/- The document's New, its row's block named. -/
import Derived.Test.YtefhngbeodnldaaChainRef2
set_option maxRecDepth 20000
set_option linter.unusedVariables false
set_option linter.unusedSimpArgs false
namespace Go.Proofs.Ytefhngbeodnldaa
open Go.RowKit Go.PM
section
variable {w : World}
set_option maxHeartbeats 2000000 in
theorem RefNewS_any (n : Nat) (hn1 : 1 ≤ n) (hn : n ≤ 64) : Calls Try.prog 23 #[.int .i64 n] w fun e w' => ∃ v, e = .returned v ∧ Below w.heap.size w w' ∧ ∃ g0 cur, w.heap.size ≤ g0 ∧ w'.heap[g0]? = some (.cells cur 48 (0, 0)) ∧ RBAt w' (fun g => g = g0) v (List.replicate n ([], 0)) := by
  have hB0 : Below w.heap.size w (w.alloc (.cells #[] 48)) := (Below.refl _ _).alloc (Nat.le_refl _) _
  have hb := Blk.new (own := fresh w.heap.size) (k := 1) w (.cells #[] 48) (ow_ge (Nat.le_refl _))
  have HB0 := Lib.hid hB0
  have HROW := Lib.hid (Row.start hb : Row _ _ _ _ 2 _ _ _)
  clear hB0 hb
  go_enter Try.func23, Try.ntmps23
  go_wp2_with fail
  generalize hw1 : w.alloc (.cells #[] 48) = w1 at *
  go_loopg [3, 4] n (fun g ov iv wr => NwInv w w1 n g ov iv wr)
  case atStart => exact ⟨fresh w.heap.size, 0, [], rfl, by omega, HROW.out, rfl, Ext.refl⟩
  case round =>
    obtain ⟨own1, i, xs, rfl, hi, hrow, hR, hE⟩ := hrel
    obtain ⟨oa, oc, rfl⟩ := hrow.shape
    have HR := Lib.hid hR
    have HE := Lib.hid hE
    have HW := Lib.hid hrow
    by_cases hlt : i < n
    · have hlt2 : (i : Int) < (n : Int) := by omega
      clear hrow hR hE
      go_wp2_with (at_builtin; refine wpList_append_ch (w0 := wr) (n := i) rfl _ _ rfl (.slice none 0 0) 0 rfl rfl HW.out (by omega) rfl rfl ?_; intro v8 w8 own8 hr8 hE8; obtain ⟨a8, c8, rfl⟩ := hr8.shape)
      have HR8 := Lib.hid hr8
      have HE8 := Lib.hid (HE.out.trans hE8)
      have HRC := Lib.hid (show RCs w (fun _ => False) (List.replicate (i + 1) ([], 0)) (xs ++ [.slice none 0 0, .int .i64 0]) from by
        rw [List.replicate_succ']
        exact RCs.snoc (p := ([], 0)) ⟨by simp, .inl ⟨rfl, rfl⟩⟩ HR.out)
      clear hr8 hE8
      go_wp2_with fail
      go_roundg (n - (i + 1))
      case measure => omega
      case rel => exact ⟨_, i + 1, _, by go_num, by omega, HR8.out, HRC.out, HE8.out⟩
    · obtain rfl : i = n := by omega
      have HBW := Lib.hid (HB0.out.trans ((hE.freshBelow HB0.out.size).mono (Nat.le_refl _)))
      clear hrow hR hE
      go_wp2_with fail
      go_ret
      obtain ⟨h1, h2 | ⟨g0, cap, cur, hv, hb, hc, hm, hs, ht⟩⟩ := id HW.out
      · exact absurd h2.2 (by omega)
      · injection hv with hv1 _ hv3
        subst hv1
        subst hv3
        refine ⟨_, rfl, HBW.out, g0, cur, row_new HE.out HB0.out.size hb.col, hb.at_, by rw [List.length_replicate]; omega, _, oc, by rw [List.length_replicate]; rfl, .inr ⟨g0, xs, rfl, hb.lt, rfl, HR.out.carry HBW.out.size (fun _ _ h => h.elim), fun j u hj => ?_⟩⟩
        rw [hb.cell]
        rw [← ht, List.getElem?_take] at hj
        split at hj
        · simpa using hj
        · cases hj
end
end Go.Proofs.Ytefhngbeodnldaa
