/- Layer 5, plain: how many steps are left at most. No program in sight. -/
import Derived.Test.YtefhngbeodnldaaChainInv5
set_option linter.unusedVariables false
set_option linter.unusedSimpArgs false
namespace Go.Proofs.Ytefhngbeodnldaa
open Go.RowKit Go.PM
/-- Steps to the end of an attempt that goes well. -/
def cost (M : Nat) (O : CO) : Nat :=
  if O.next = 0 then 2 * M + 10 else if O.next = 1 then 2 * M + 9 else if O.next = 2 then 2 * M + 8 else if O.next = 3 then (O.count - O.found.length).toNat + (M + 6) else if O.next = 4 then 2
  else if O.next = 5 then O.list.length + 4 else if O.next = 6 then (O.list.length - O.count).toNat + 3 else if O.next = 7 then 3 else if O.next = 8 then 2 * M + 10 else if O.next = 9 then 2 else 1
def late (ks : List Int) (O : CO) : Prop := 2 ≤ O.next ∧ O.next ≤ 7 ∧ ks.getD (O.chain - 1).toNat 0 ≠ O.old
instance (ks : List Int) (O : CO) : Decidable (late ks O) := inferInstanceAs (Decidable (_ ∧ _))
def cst (M : Nat) (ks : List Int) (O : CO) : Nat := cost M O + (if late ks O then 2 * M + 10 else 0)
theorem cst_le (M : Nat) (ks : List Int) (O : CO) : cost M O ≤ cst M ks O := Nat.le_add_right _ _
theorem dec_next {V : AV} {Y : YV} {O : CO} (f : O.fresh = 0) : (decO V Y O).next = 4 ∨ (decO V Y O).next = 5 ∨ (decO V Y O).next = 10 := by
  have hf : ∀ (P : CO) (e : Int), P.fresh = 0 → (P.fail e).next = 10 := fun P e h => by unfold CO.fail; simp [h]
  unfold decO
  split
  · exact .inr (.inr rfl)
  · split
    · exact .inl rfl
    · split
      · exact .inr (.inr (hf _ _ f))
      · split
        · exact .inr (.inr (hf _ _ f))
        · exact .inr (.inl rfl)
theorem dec_old (V : AV) (Y : YV) (O : CO) : (decO V Y O).old = O.old := by
  unfold decO
  split
  · rfl
  · split
    · rfl
    · split
      · rfl
      · split <;> rfl
section
variable {M : Nat} {N : Int} {r : Int → Role} {ks : List Int} {L : LV} {t : Nat} {O : CO}
/-- What a step makes of the chains' blocks, and of the steps left. -/
structure Less (M : Nat) (ks : List Int) (L : LV) (t : Nat) (O O' : CO) (ks' : List Int) : Prop where
  blk : (stV L.V L.Y L.B O).find L.B.block = some ks'
  ch : O'.chain = O.chain
  keep : O.done = true → O'.done = true
  less : O'.next = 11 ∨ (ks' = ks ∧ cst M ks O' < cst M ks O) ∨ (O.done = false ∧ O'.done = true ∧ cst M ks' O' < cst M ks O)
theorem late_same {O' : CO} (h2 : 2 ≤ O.next ∧ O.next ≤ 7) (e1 : O'.chain = O.chain) (e2 : O'.old = O.old) (hc : cost M O' < cost M O) : cst M ks O' < cst M ks O := by
  unfold cst
  by_cases hl : late ks O
  · rw [if_pos hl]
    split <;> omega
  · rw [if_neg hl, if_neg (fun hl' => hl ⟨h2.1, h2.2, by rw [← e1, ← e2]; exact hl'.2.2⟩)]
    exact hc
theorem cst_not {O' : CO} (h : ¬ late ks O') : cst M ks O' = cost M O' := by unfold cst; rw [if_neg h]; rfl
theorem cst_late {O' : CO} (h : late ks O') : cst M ks O' = cost M O' + (2 * M + 10) := by unfold cst; rw [if_pos h]
theorem GI.less (h : GI M N r ks L) (hv : L.V.Ok) (ht : t < 9) (ho : L.op t = some O) : ∃ ks', Less M ks L t O (stO L.V L.Y L.B O) ks' := by
  obtain ⟨t1, hp⟩ := h.op t O ht ho
  obtain ⟨a1, a2, a3, a4, a5, a6, a7, a8, a9, av, st⟩ := hp
  have hnb : ∀ b ρ, r b = ρ → ρ ≠ .base → L.B.block ≠ b := fun b ρ h1 h2 e => by rw [← e, h.blkr] at h1; exact h2 h1.symm
  have hlg : ∀ p ∈ L.Y.limbo, r p.1 = .gone := fun p hp => (h.lim p hp).1
  cases st with
  | s0 n z d f =>
    refine ⟨ks, by simp only [stV, n]; exact h.blk, ?_, fun hx => ?_, ?_⟩
    · simp only [stO, n]; unfold enterO; simp only [if_true]; split <;> rfl
    · rw [d] at hx; exact absurd hx (by decide)
    · have hO : stO L.V L.Y L.B O = enterO L.Y L.B O := by simp [stO, n]
      rw [hO]
      unfold enterO
      split
      · refine .inr (.inl ⟨rfl, ?_⟩)
        rw [cst_not (fun hl => by have := hl.1; revert this; show ¬ (2 : Int) ≤ 1; decide), cst_not (fun hl => by have := hl.1; omega)]
        unfold cost
        rw [if_pos n]
        show 2 * M + 9 < 2 * M + 10
        omega
      · exact .inl rfl
  | s1 n d f =>
    obtain ⟨hs, hch⟩ := a7 (by omega)
    obtain ⟨c, hc, hcc, hcn⟩ := chain_nat hch
    have hcell := h.cell hc hcc
    have htouch : L.V.touch L.B.block = L.V := AV.touch_hit h.blk
    have hro : (rootO L.V L.B O).old = ks.getD c 0 := hcell
    have c1 : cst M ks O = 2 * M + 9 := by rw [cst_not (fun hl => by have := hl.1; omega)]; unfold cost; rw [if_neg (by omega), if_pos n]
    by_cases h0 : (rootO L.V L.B O).old = 0
    · have eV : stV L.V L.Y L.B O = decV L.V L.Y (rootO L.V L.B O) := by simp only [stV, n]; unfold root2V; rw [if_pos h0, htouch]; rfl
      have eO : stO L.V L.Y L.B O = decO L.V L.Y (rootO L.V L.B O) := by simp only [stO, n]; unfold root2O; rw [if_pos h0, htouch]; rfl
      have hsw := h.bd.dec (r := r) hlg (rootO L.V L.B O)
      have hd := dec_out (t := t) (A := L.what t) (m := L.m.length) (want := ⟨0, true, 0, []⟩) (O := rootO L.V L.B O) (K := []) rfl rfl h.bd hlg h.m200 a1 a2 a4 a5 (.inl ⟨h0, rfl⟩) hs rfl f (by
        show (if O.what = 3 then true else O.done) = _
        by_cases hw : O.what = 3
        · rw [if_pos hw]
          have h4 : (L.what t).kind = 4 := by
            obtain ⟨q1, q2, q3, q4⟩ := a4
            by_cases b1 : (L.what t).kind = 1
            · have := q1 b1; omega
            by_cases b2 : (L.what t).kind = 2
            · have := q2 b2; omega
            by_cases b3 : (L.what t).kind = 3
            · have := q3 b3; omega
            omega
          rw [decide_eq_true h4]
        · rw [if_neg hw, d, decide_eq_false (fun h4 => hw (a4.2.2.2 h4))]) (fun _ => rfl) a9 av
      refine ⟨ks, by rw [eV, hsw.find _ (by rw [h.blkr]; intro h; cases h)]; exact h.blk, by rw [eO, hd.ch]; rfl, fun hx => by rw [d] at hx; exact absurd hx (by decide), .inr (.inl ⟨rfl, ?_⟩)⟩
      rw [eO, c1]
      have hold : (decO L.V L.Y (rootO L.V L.B O)).old = 0 := by rw [dec_old]; exact h0
      have hnl : ¬ late ks (decO L.V L.Y (rootO L.V L.B O)) := fun hl => hl.2.2 (by rw [hd.ch, hold]; show ks.getD (O.chain - 1).toNat 0 = 0; rw [hcn, ← hro]; exact h0)
      rw [cst_not hnl]
      have hst := hd.st
      unfold cost
      rcases dec_next (V := L.V) (Y := L.Y) (O := rootO L.V L.B O) f with hn | hn | hn
      · simp only [hn]; show 2 < 2 * M + 9; omega
      · cases hst with
        | s5 K n5 d5 f5 hh tb =>
          have := (tb.len hh).2
          simp only [hn]
          show (decO L.V L.Y (rootO L.V L.B O)).list.length + 4 < 2 * M + 9
          have hK : K.length ≤ 0 + 1 := by
            rcases hh with ⟨_, h⟩ | h
            · rw [h]; simp
            · have := h.pos; rw [hold] at this; omega
          have ha := aft_len (L.what t) (K.drop 1)
          rw [List.length_drop] at ha
          rw [tb.list, List.length_cons]
          omega
        | _ => omega
      · simp only [hn]; show 1 < 2 * M + 9; omega
    · have eV : stV L.V L.Y L.B O = L.V := by simp only [stV, n]; unfold root2V; rw [if_neg h0, htouch]; rfl
      have eO : stO L.V L.Y L.B O = rootO L.V L.B O := by simp only [stO, n]; unfold root2O; rw [if_neg h0]; rfl
      refine ⟨ks, by rw [eV]; exact h.blk, by rw [eO]; rfl, fun hx => by rw [d] at hx; exact absurd hx (by decide), .inr (.inl ⟨rfl, ?_⟩)⟩
      rw [eO, c1, cst_not (fun hl => hl.2.2 (by show ks.getD (O.chain - 1).toNat 0 = (rootO L.V L.B O).old; rw [hcn, hro]))]
      show 2 * M + 8 < 2 * M + 9
      omega
  | s2 K n d f hh fd al =>
    have hsz : L.V.size O.old = K.length := by unfold AV.size; rw [hh.find]
    have eO : stO L.V L.Y L.B O = sizeO L.V O := by simp [stO, n]
    refine ⟨ks, by rw [show stV L.V L.Y L.B O = L.V by simp [stV, n, AV.touch_hit hh.find]]; exact h.blk, by rw [eO]; rfl, fun hx => by rw [eO]; exact hx, .inr (.inl ⟨rfl, ?_⟩)⟩
    rw [eO]
    refine late_same ⟨by omega, by omega⟩ rfl rfl ?_
    have := hh.l2
    show (L.V.size O.old - O.found.length).toNat + (M + 6) < cost M O
    unfold cost
    rw [if_neg (by omega), if_neg (by omega), if_pos n, hsz, fd]
    show ((K.length : Int) - (0 : Nat)).toNat + (M + 6) < 2 * M + 8
    omega
  | s3 K n d f hh fd lt ct al =>
    have hv : L.V.val O.old (O.found.length : Nat) = K[O.found.length] := AV.val_hit hh.find lt
    have hr : readO L.V O = { O with found := O.found ++ [K[O.found.length]] } := by unfold readO; rw [hv]
    have hlen : (O.found ++ [K[O.found.length]]).length = O.found.length + 1 := by simp
    have htk : O.found ++ [K[O.found.length]] = K.take (O.found.length + 1) := by rw [List.take_succ_eq_append_getElem lt, ← fd]
    have c3 : cost M O = (K.length - O.found.length) + (M + 6) := by unfold cost; rw [if_neg (by omega), if_neg (by omega), if_neg (by omega), if_pos n, ct]; omega
    by_cases hl : O.found.length + 1 = K.length
    · have hc : ((readO L.V O).found.length : Int) = O.count := by rw [hr, ct]; show ((O.found ++ [K[O.found.length]]).length : Int) = _; rw [hlen]; omega
      have hfd : (readO L.V O).found = K := by rw [hr]; show O.found ++ [K[O.found.length]] = K; rw [htk, hl, List.take_length]
      have eV : stV L.V L.Y L.B O = decV L.V L.Y (readO L.V O) := by simp only [stV, n]; unfold read2V; rw [if_pos hc, AV.touch_hit hh.find]; rfl
      have eO : stO L.V L.Y L.B O = decO L.V L.Y (readO L.V O) := by simp only [stO, n]; unfold read2O; rw [if_pos hc, AV.touch_hit hh.find]; rfl
      have hsw := h.bd.dec (r := r) hlg (readO L.V O)
      have hd := dec_out (t := t) (A := L.what t) (m := L.m.length) (want := L.want t) (O := readO L.V O) (K := K) rfl rfl h.bd hlg h.m200 a1 a2 a4 a5 (Held.as (O' := readO L.V O) (Or.inr hh) rfl rfl rfl) (a7 (by omega)).1 hfd f d al a9 av
      refine ⟨ks, by rw [eV, hsw.find _ (by rw [h.blkr]; intro h; cases h)]; exact h.blk, by rw [eO, hd.ch]; rfl, fun hx => by rw [eO, hd.done]; exact hx, .inr (.inl ⟨rfl, ?_⟩)⟩
      rw [eO]
      refine late_same ⟨by omega, by omega⟩ (by rw [hd.ch]; rfl) (by rw [dec_old]; rfl) ?_
      rw [c3]
      have hst := hd.st
      unfold cost
      rcases dec_next (V := L.V) (Y := L.Y) (O := readO L.V O) f with hn | hn | hn
      · simp only [hn]; show 2 < _; omega
      · cases hst with
        | s5 K2 n5 d5 f5 hh5 tb =>
          have := (tb.len hh5).2
          simp only [hn]
          show (decO L.V L.Y (readO L.V O)).list.length + 4 < _
          omega
        | _ => omega
      · simp only [hn]; show 1 < _; omega
    · have hc : ¬ ((readO L.V O).found.length : Int) = O.count := by rw [hr, ct]; show ¬ ((O.found ++ [K[O.found.length]]).length : Int) = _; rw [hlen]; omega
      have eV : stV L.V L.Y L.B O = L.V := by simp only [stV, n]; unfold read2V; rw [if_neg hc, AV.touch_hit hh.find]; rfl
      have eO : stO L.V L.Y L.B O = readO L.V O := by simp only [stO, n]; unfold read2O; rw [if_neg hc]; rfl
      rw [hr] at eO
      refine ⟨ks, by rw [eV]; exact h.blk, by rw [eO], fun hx => by rw [eO]; exact hx, .inr (.inl ⟨rfl, ?_⟩)⟩
      rw [eO]
      refine late_same ⟨by omega, by omega⟩ rfl rfl ?_
      rw [c3]
      unfold cost
      rw [if_neg (by show ¬ O.next = 0; omega), if_neg (by show ¬ O.next = 1; omega), if_neg (by show ¬ O.next = 2; omega), if_pos n]
      show (O.count - ((O.found ++ [K[O.found.length]]).length : Nat)).toNat + (M + 6) < _
      rw [hlen, ct]
      omega
  | s4 K n d f hh fd kd no =>
    obtain ⟨hs, hch⟩ := a7 (by omega)
    obtain ⟨c, hc, hcc, hcn⟩ := chain_nat hch
    have hcell := h.cell hc hcc
    have eO : stO L.V L.Y L.B O = chkO L.V L.B O := by simp [stO, n]
    have eV : stV L.V L.Y L.B O = L.V := by simp [stV, n, AV.touch_hit h.blk]
    have c4 : cost M O = 2 := by unfold cost; rw [if_neg (by omega), if_neg (by omega), if_neg (by omega), if_neg (by omega), if_pos n]
    refine ⟨ks, by rw [eV]; exact h.blk, ?_, fun hx => by rw [d] at hx; exact absurd hx (by decide), .inr (.inl ⟨rfl, ?_⟩)⟩
    · rw [eO]; unfold chkO; split <;> rfl
    · rw [eO]
      unfold chkO
      split
      · rename_i hne
        have hl : late ks O := ⟨by omega, by omega, by rw [hcn, ← hcell]; exact hne⟩
        rw [cst_late hl, c4, cst_not (fun hl => by have := hl.1; revert this; show ¬ (2 : Int) ≤ 1; decide)]
        show 2 * M + 9 < 2 + (2 * M + 10)
        omega
      · refine Nat.lt_of_lt_of_le ?_ (cst_le M ks O)
        rw [c4, cst_not (fun hl => by have := hl.2.1; revert this; show ¬ (10 : Int) ≤ 7; decide)]
        show 1 < 2
        omega
  | s5 K n d f hh tb =>
    have eO : stO L.V L.Y L.B O = bldO L.V O := by simp [stO, n]
    have hV : stV L.V L.Y L.B O = L.V.alloc O.list.length := by simp [stV, n]
    have c5 : cost M O = O.list.length + 4 := by unfold cost; rw [if_neg (by omega), if_neg (by omega), if_neg (by omega), if_neg (by omega), if_neg (by omega), if_pos n]
    refine ⟨ks, by rw [hV]; exact alloc_find _ h.blk, ?_, fun hx => by rw [d] at hx; exact absurd hx (by decide), .inr (.inl ⟨rfl, ?_⟩)⟩
    · rw [eO]; unfold bldO; split <;> rfl
    · rw [eO]
      unfold bldO
      split
      · refine late_same ⟨by omega, by omega⟩ rfl rfl ?_
        rw [c5]
        show ((O.list.length : Int) - 0).toNat + 3 < _
        omega
      · have hfa : ∀ e, (O.fail e).next = 10 := fun e => by unfold CO.fail; simp [f]
        refine Nat.lt_of_lt_of_le ?_ (cst_le M ks O)
        rw [c5, cst_not (fun hl => by have := hl.2.1; rw [hfa] at this; omega)]
        unfold cost
        simp only [hfa]
        show 1 < _
        omega
  | s6 K F c n d hh tb fr ct cl tk =>
    have eO : stO L.V L.Y L.B O = wrtO O := by simp [stO, n]
    have c6 : cost M O = (O.list.length - c) + 3 := by unfold cost; rw [if_neg (by omega), if_neg (by omega), if_neg (by omega), if_neg (by omega), if_neg (by omega), if_neg (by omega), if_pos n, ct]; omega
    have eV : stV L.V L.Y L.B O = L.V.set O.fresh c (O.list.getD c 0) := by
      simp only [stV, n, ct, Int.toNat_natCast]
      unfold AV.store
      rw [AV.err_hit fr.find (by rw [fr.len]; omega)]
      rfl
    have hnx : (wrtO O).next = if c + 1 = O.list.length then 7 else 6 := by
      unfold wrtO
      simp only [ct]
      by_cases h : c + 1 = O.list.length
      · rw [if_pos h, if_pos (by omega)]
      · rw [if_neg h, if_neg (by omega)]
    refine ⟨ks, by rw [eV, find_set, if_neg (hnb _ _ fr.role (by intro h; cases h))]; exact h.blk, by rw [eO]; rfl, fun hx => by rw [d] at hx; exact absurd hx (by decide), .inr (.inl ⟨rfl, ?_⟩)⟩
    rw [eO]
    refine late_same ⟨by omega, by omega⟩ rfl rfl ?_
    rw [c6]
    unfold cost
    by_cases hl : c + 1 = O.list.length
    · rw [if_pos hl] at hnx
      simp only [hnx]
      show 3 < _
      omega
    · rw [if_neg hl] at hnx
      simp only [hnx]
      show ((O.list.length : Int) - (O.count + 1)).toNat + 3 < _
      rw [ct]
      omega
  | s7 K n d hh tb fr =>
    obtain ⟨hs, hch⟩ := a7 (by omega)
    obtain ⟨c, hc, hcc, hcn⟩ := chain_nat hch
    have hcell := h.cell hc hcc
    have hcok := h.cellok hc hcc
    have hV : stV L.V L.Y L.B O = L.V.swap L.B.block (O.chain - 1) O.old O.fresh := by simp [stV, n]
    have eO : stO L.V L.Y L.B O = swapO L.V L.B O := by simp [stO, n]
    have c7 : cost M O = 3 := by unfold cost; rw [if_neg (by omega), if_neg (by omega), if_neg (by omega), if_neg (by omega), if_neg (by omega), if_neg (by omega), if_neg (by omega), if_pos n]
    by_cases he : ks.getD c 0 = O.old
    · have hok : L.V.swapOk L.B.block (O.chain - 1) O.old = true := by unfold AV.swapOk; rw [hcok, hcell, he]; simp
      have eV : stV L.V L.Y L.B O = L.V.set L.B.block (O.chain - 1) O.fresh := by rw [hV]; unfold AV.swap; rw [hok]; rfl
      have hO : swapO L.V L.B O = { O with done := true, err := 0, ok := true, stamp := hd0 O.list, values := [], fresh := 0, next := if O.old = 0 then 10 else 9 } := by unfold swapO; rw [if_pos hok]
      refine ⟨ks.set c O.fresh, by rw [eV, find_set, if_pos rfl, h.blk, hcn]; rfl, by rw [eO, hO], fun hx => by rw [d] at hx; exact absurd hx (by decide), .inr (.inr ⟨d, by rw [eO, hO], ?_⟩)⟩
      rw [eO, hO]
      refine Nat.lt_of_lt_of_le ?_ (cst_le M ks O)
      rw [c7]
      by_cases h0 : O.old = 0
      · simp only [if_pos h0]
        rw [cst_not (fun hl => by have := hl.2.1; revert this; show ¬ (10 : Int) ≤ 7; decide)]
        show 1 < 3
        omega
      · simp only [if_neg h0]
        rw [cst_not (fun hl => by have := hl.2.1; revert this; show ¬ (9 : Int) ≤ 7; decide)]
        show 2 < 3
        omega
    · have hok : L.V.swapOk L.B.block (O.chain - 1) O.old = false := by unfold AV.swapOk; rw [hcok, hcell, beq_eq_false_iff_ne.2 he]; rfl
      have eV : stV L.V L.Y L.B O = L.V := by rw [hV]; unfold AV.swap; rw [hok]; exact AV.touch_hit h.blk
      have hO : swapO L.V L.B O = { O with err := 0, ok := false, stamp := 0, values := [], next := 8 } := by unfold swapO; rw [if_neg (by rw [hok]; decide)]
      refine ⟨ks, by rw [eV]; exact h.blk, by rw [eO, hO], fun hx => by rw [d] at hx; exact absurd hx (by decide), .inr (.inl ⟨rfl, ?_⟩)⟩
      have hl : late ks O := ⟨by omega, by omega, by rw [hcn]; exact he⟩
      rw [eO, hO, cst_late hl, c7, cst_not (fun hl => by have := hl.2.1; revert this; show ¬ (8 : Int) ≤ 7; decide)]
      show 2 * M + 10 < 3 + (2 * M + 10)
      omega
  | s8 F n d fr er =>
    have eV : stV L.V L.Y L.B O = L.V.free O.fresh := by simp [stV, n]
    have eO : stO L.V L.Y L.B O = undO O := by simp [stO, n]
    have hnx : (undO O).next = 1 := by unfold undO; rw [er]; rfl
    refine ⟨ks, by rw [eV, find_free_ne L.V (hnb _ _ fr.role (by intro h; cases h))]; exact h.blk, by rw [eO]; rfl, fun hx => by rw [d] at hx; exact absurd hx (by decide), .inr (.inl ⟨rfl, ?_⟩)⟩
    rw [eO, cst_not (fun hl => by have := hl.1; rw [hnx] at this; omega), cst_not (fun hl => by have := hl.2.1; omega)]
    unfold cost
    simp only [hnx, n]
    show 2 * M + 9 < 2 * M + 10
    omega
  | s9 K n d f hh g an =>
    have hV : stV L.V L.Y L.B O = retireV L.Y L.V t O.old := by simp [stV, n, a1]
    have eO : stO L.V L.Y L.B O = { O with next := 10 } := by simp [stO, n]
    refine ⟨ks, ?_, by rw [eO], fun hx => by rw [eO]; exact hx, .inr (.inl ⟨rfl, ?_⟩)⟩
    · rw [hV]
      unfold retireV
      rw [h.good ht t1]
      split
      · exact h.blk
      · split
        · exact h.blk
        · have hfe : L.V.freeErr O.old = 0 := by unfold AV.freeErr; rw [hh.find]
          rw [if_pos hfe, (Swept.sweep (r := r) h.bd hlg).find _ (by rw [h.blkr]; intro h; cases h)]
          exact h.blk
    · rw [eO, cst_not (fun hl => by have := hl.2.1; revert this; show ¬ (10 : Int) ≤ 7; decide), cst_not (fun hl => by have := hl.2.1; omega)]
      unfold cost
      simp only [n]
      show 1 < 2
      omega
  | s10 n f an no =>
    have eV : stV L.V L.Y L.B O = L.V := by simp [stV, n]
    have eO : stO L.V L.Y L.B O = { O with next := 11 } := by simp [stO, n]
    exact ⟨ks, by rw [eV]; exact h.blk, by rw [eO], fun hx => by rw [eO]; exact hx, .inl (by rw [eO])⟩
/-- Never more than this. -/
theorem OpI.cost_le {V : AV} {Y : YV} {m : Nat} {A : AskV} {did : Bool} {want : AnsV} (h : OpI M N V Y r m t A did want O) : cost M O ≤ 2 * M + 10 := by
  have hst := h.st
  unfold cost
  cases hst with
  | s3 K n d f hh fd lt ct al =>
    have := hh.l2
    simp only [n]
    show (O.count - O.found.length).toNat + (M + 6) ≤ _
    omega
  | s5 K n d f hh tb =>
    have := (tb.len hh).2
    simp only [n]
    show O.list.length + 4 ≤ _
    omega
  | s6 K F c n d hh tb fr ct cl tk =>
    have := (tb.len hh).2
    simp only [n]
    show ((O.list.length : Int) - O.count).toNat + 3 ≤ _
    omega
  | s0 n => simp only [n]; show 2 * M + 10 ≤ _; omega
  | s1 n => simp only [n]; show 2 * M + 9 ≤ _; omega
  | s2 K n => simp only [n]; show 2 * M + 8 ≤ _; omega
  | s4 K n => simp only [n]; show 2 ≤ _; omega
  | s7 K n => simp only [n]; show 3 ≤ _; omega
  | s8 F n => simp only [n]; show 2 * M + 10 ≤ _; omega
  | s9 K n => simp only [n]; show 2 ≤ _; omega
  | s10 n => simp only [n]; show 1 ≤ _; omega
end
end Go.Proofs.Ytefhngbeodnldaa
