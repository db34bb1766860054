/- Layer 2: one call against the document (cell, asks), whatever the two arenas are. -/
import Derived.Test.YtemibcglhbjaoaaCellsRef
import Derived.Test.YtemibcglhbjaoaaCellsLaw
import Derived.Test.YtemibcglhbjaoaaPlan3
import Derived.Deep.DeepCutAuto
set_option maxRecDepth 20000
set_option linter.unusedVariables false
set_option linter.unusedSimpArgs false
namespace Go.Proofs.Ytemibcglhbjaoaa
open Go.RowKit Go.PM

def cellV (V : AV) (kd b i x y : Int) : AV := if kd = 3 then V.touch b else if kd = 4 then V.store b i x else if kd = 5 then V.swap b i x y else V.add b i x
def cellOld (A : RA) (b i : Int) : Int := if A.reachErr b i = 0 then (A.blk b).getD i.toNat 0 else 0
def cellR (A : RA) (kd b i x y : Int) : RA :=
  if A.reachErr b i ≠ 0 then A.reach b else if kd = 3 then A else if kd = 4 then A.set b i x else if kd = 5 then (if cellOld A b i = x then A.set b i y else A) else A.set b i (wrap64 (cellOld A b i + x))
def cellOk (V : AV) (A : RA) (kd b i x y : Int) : Bool :=
  if kd = 3 then (V.err b i == A.reachErr b i && V.val b i == cellOld A b i)
  else if kd = 4 then (if A.reachErr b i ≠ 0 then V.err b i == A.reachErr b i else V.err b i == 0)
  else if kd = 5 then (if A.reachErr b i ≠ 0 ∨ cellOld A b i ≠ x then (V.err b i == A.reachErr b i && !V.swapOk b i x) else (V.swapOk b i x && V.err b i == 0))
  else (if A.reachErr b i ≠ 0 then (V.err b i == A.reachErr b i && V.addVal b i x == 0) else (V.err b i == 0 && V.addVal b i x == wrap64 (cellOld A b i + x)))
theorem RA.reach_same {A : RA} {b i : Int} (h : A.reachErr b i = 0) : A.reach b = A := by
  unfold RA.reachErr at h
  unfold RA.reach
  split
  · rfl
  · rename_i h'; rw [if_neg h'] at h; cases h
theorem RA.reach_ok {A : RA} {b i : Int} (h : A.reachErr b i = 0) : ∃ j ii : Nat, b = (j : Int) + 1 ∧ i = (ii : Int) ∧ ∃ hj : j < A.blocks.length, ∃ hi : ii < A.blocks[j].length, cellOld A b i = A.blocks[j][ii] := by
  have h0 := h
  unfold RA.reachErr at h
  split at h
  · rename_i his
    obtain ⟨j, rfl, hj, hpos⟩ := RA.is_in his
    rw [RA.blk_in hj] at h
    split at h
    · cases h
    · obtain ⟨ii, rfl⟩ := Int.eq_ofNat_of_zero_le (show 0 ≤ i by omega)
      have hii : ii < A.blocks[j].length := by omega
      refine ⟨j, ii, rfl, rfl, hj, hii, ?_⟩
      unfold cellOld
      rw [if_pos h0, RA.blk_in hj, Int.toNat_natCast, List.getD_eq_getElem?_getD, List.getElem?_eq_getElem hii]
      rfl
  · cases h
/-- The call's end: both arenas behind it. -/
def AsPost (k a L : Nat) (V' : AV) (A' : RA) (ok : Bool) (w : World) (own : Nat → Nat) (e : Ending) (w' : World) : Prop :=
  ∃ v' own', e = .returned (.tuple #[v', .bool ok]) ∧ Ext (fun c => c = k) w w' own own' ∧ Arena w' own' k a V' ∧ RefA w' own' L v' A'
section
variable {w : World} {own : Nat → Nat} {k a L : Nat} {V : AV} {v : Value} {A : RA}
/-- The result's variable is set. -/
theorem as_end {wr : World} {own1 : Nat → Nat} {V' : AV} {A' : RA} {bv : Value} {b : Nat} {z0 z1 z2 : Value} {B : Nat} (hn : w.heap.size ≤ b) (hBk : k ≠ B) (hBL : L ≠ B)
    (hE : Ext (fun c => c = k) w wr own own1) (hb : Blk wr own1 B b (.cells #[z0, z1, z2] 56 (0, 0))) (hS : Arena wr own1 k a V') (hR : RefA wr own1 L (aAgg bv A') A') :
    (∀ V2 A2 ok ok', V' = V2 → A' = A2 → ok = ok' → AsPost k a L V2 A2 ok' w own (.returned (.tuple #[aAgg bv A', .bool ok])) (putCells wr b 0 [bv, .int .i64 A'.most, .int .i64 A'.faults])) ∧
      (putCells wr b 0 [bv, .int .i64 A'.most, .int .i64 A'.faults]).heap[b]? = some (.cells #[bv, .int .i64 A'.most, .int .i64 A'.faults] 56 (0, 0)) := by
  have h2 : Ext (fun c => c = B) wr (putCells wr b 0 [bv, .int .i64 A'.most, .int .i64 A'.faults]) own1 own1 := Ext.putCells (fun _ => hb.col) _ _ _ Ext.refl
  have h3 : Ext (fun c => c = k) w (putCells wr b 0 [bv, .int .i64 A'.most, .int .i64 A'.faults]) own own1 := Ext.putCells (fun h => absurd h (by omega)) _ _ _ hE
  refine ⟨fun V2 A2 ok ok' e1 e2 e3 => ?_, (hb.putCells (cs := [z0, z1, z2]) (vs := [bv, .int .i64 A'.most, .int .i64 A'.faults]) rfl).at_⟩
  subst e1
  subst e2
  subst e3
  exact ⟨_, own1, rfl, h3, hS.ext h2 (by intro h; exact hBk h), hR.ext h2 (by intro h; exact hBL h)⟩
theorem as_start (w : World) (own : Nat → Nat) (B : Nat) (o1 o2 o3 : Obj) :
    (∀ M, Ext M w (((w.alloc o1).alloc o2).alloc o3) own (ow own w.heap.size B)) ∧ Blk (((w.alloc o1).alloc o2).alloc o3) (ow own w.heap.size B) B w.heap.size o1 ∧
      Blk (((w.alloc o1).alloc o2).alloc o3) (ow own w.heap.size B) B (w.heap.size + 1) o2 ∧ Blk (((w.alloc o1).alloc o2).alloc o3) (ow own w.heap.size B) B (w.heap.size + 1 + 1) o3 := by
  refine ⟨fun M => ((((Ext.refl (M := M)).ow B).alloc _).alloc _).alloc _, ((Blk.new w o1 (ow_ge (by omega))).alloc _).alloc _, ?_, ?_⟩
  · have := (Blk.new (own := ow own w.heap.size B) (k := B) (w.alloc o1) o2 (by rw [World.size_alloc]; exact ow_ge (by omega))).alloc o3
    rwa [World.size_alloc] at this
  · have := Blk.new (own := ow own w.heap.size B) (k := B) ((w.alloc o1).alloc o2) o3 (by rw [World.size_alloc, World.size_alloc]; exact ow_ge (by omega))
    rwa [World.size_alloc, World.size_alloc] at this
def NO (nb ob : Nat) (x0 x1 x2 y0 y1 y2 y3 y4 : Value) (w : World) : Prop :=
  (w.cell? ⟨nb, 0, none⟩ = some x0 ∧ w.cell? ⟨nb, 1, none⟩ = some x1 ∧ w.cell? ⟨nb, 2, none⟩ = some x2) ∧
    w.cell? ⟨ob, 0, none⟩ = some y0 ∧ w.cell? ⟨ob, 1, none⟩ = some y1 ∧ w.cell? ⟨ob, 2, none⟩ = some y2 ∧ w.cell? ⟨ob, 3, none⟩ = some y3 ∧ w.cell? ⟨ob, 4, none⟩ = some y4
theorem fiveO {w : World} {own : Nat → Nat} {k b : Nat} {T : TypeId} {x0 x1 x2 x3 x4 : Value} (h : Blk w own k b (.cells #[x0, x1, x2, x3, x4] T (0, 0))) :
    w.cell? ⟨b, 0, none⟩ = some x0 ∧ w.cell? ⟨b, 1, none⟩ = some x1 ∧ w.cell? ⟨b, 2, none⟩ = some x2 ∧ w.cell? ⟨b, 3, none⟩ = some x3 ∧ w.cell? ⟨b, 4, none⟩ = some x4 :=
  ⟨h.cell 0, h.cell 1, h.cell 2, h.cell 3, h.cell 4⟩

set_option maxHeartbeats 8000000 in
theorem cell_any (hS : Arena w own k a V) (hR : RefA w own L v A) (hkL : k ≠ L) (hf : V.faults < 1000000000000000) (hrf : -1 ≤ A.faults ∧ A.faults < 6000000000000000) (kd b i x y : Int) :
    Calls Try.prog 54 #[.pointer (some ⟨a, 0, none⟩), v, .agg #[.int .i64 kd, .int .i64 b, .int .i64 i, .int .i64 x, .int .i64 y]] w (AsPost k a L (cellV V kd b i x y) (cellR A kd b i x y) (cellOk V A kd b i x y) w own) := by
  obtain ⟨ba, bc, rfl⟩ := hR.agg
  obtain ⟨hE, hb1, hb2, hb3⟩ := as_start w own (k + L + 1) (.cells #[.slice ba A.blocks.length bc, .int .i64 A.most, .int .i64 A.faults] 56 (0, 0)) (.cells #[.int .i64 kd, .int .i64 b, .int .i64 i, .int .i64 x, .int .i64 y] 53 (0, 0)) (.cells #[.slice none 0 0, .int .i64 0, .int .i64 0] 56 (0, 0))
  have hBk : k ≠ k + L + 1 := by omega
  have hBL : L ≠ k + L + 1 := by omega
  have hSa := hS.ext (hE (fun _ => False)) (by simp)
  have hRa := hR.ext (hE (fun _ => False)) (by simp)
  have hEa := hE (fun c => c = k)
  generalize k + L + 1 = B at *
  clear hE hS hR
  unfold aAgg
  go_enter Try.func54, Try.ntmps54
  generalize hown : ow own w.heap.size B = own1 at *
  clear hown
  go_wp2_with fail
  generalize ((w.alloc (.cells #[.slice ba A.blocks.length bc, .int .i64 A.most, .int .i64 A.faults] 56)).alloc (.cells #[.int .i64 kd, .int .i64 b, .int .i64 i, .int .i64 x, .int .i64 y] 53)).alloc (.cells #[.slice none 0 0, .int .i64 0, .int .i64 0] 56) = wa at *
  refine (aReach_any hRa hrf b i).mono ?_
  rintro e w2 ⟨v', rfl, hR2, hB⟩
  have hX : ∀ M, Ext M wa w2 own1 (ow own1 wa.heap.size L) := fun M => Ext.of_below hB _ _
  have hb1 := hb1.ext (hX (fun _ => False)) (by simp)
  have hb2 := hb2.ext (hX (fun _ => False)) (by simp)
  have hb3 := hb3.ext (hX (fun _ => False)) (by simp)
  have hS2 := hSa.ext (hX (fun _ => False)) (by simp)
  have hR1 := hRa.ext (hX (fun _ => False)) (by simp)
  have hE2 := hEa.trans (hX _)
  generalize ow own1 wa.heap.size L = own2 at *
  clear hX hB hSa hRa hEa
  obtain ⟨na, nc, rfl⟩ := hR2.agg
  have hn2 := hb3.lt
  have hY : ∀ M, Ext M w2 (w2.alloc (.cells #[.slice na (A.reach b).blocks.length nc, .int .i64 (A.reach b).most, .int .i64 (A.reach b).faults] 56)) own2 (ow own2 w2.heap.size B) := fun M => (Ext.refl.ow B).alloc _
  have hbN : Blk (w2.alloc (.cells #[.slice na (A.reach b).blocks.length nc, .int .i64 (A.reach b).most, .int .i64 (A.reach b).faults] 56)) (ow own2 w2.heap.size B) B w2.heap.size (.cells #[.slice na (A.reach b).blocks.length nc, .int .i64 (A.reach b).most, .int .i64 (A.reach b).faults] 56 (0, 0)) := Blk.new w2 _ (ow_ge (Nat.le_refl _))
  have hb1 := hb1.ext (hY (fun _ => False)) (by simp)
  have hb2 := hb2.ext (hY (fun _ => False)) (by simp)
  have hb3 := hb3.ext (hY (fun _ => False)) (by simp)
  have hS3 := hS2.ext (hY (fun _ => False)) (by simp)
  have hR1 := hR1.ext (hY (fun _ => False)) (by simp)
  have hR3 := hR2.ext (hY (fun _ => False)) (by simp)
  have hE3 := hE2.trans (hY _)
  clear hY hS2 hR2 hE2
  obtain ⟨c0, c1, c2⟩ := three hb1
  obtain ⟨o0, o1, o2, o3, o4⟩ := fiveO hb2
  unfold withErr aAgg
  go_upto_if 28 with fail
  generalize hw2 : w2.heap.size = nb at *
  generalize w2.alloc (.cells #[.slice na (A.reach b).blocks.length nc, .int .i64 (A.reach b).most, .int .i64 (A.reach b).faults] 56) = w3 at *
  generalize ow own2 nb B = own3 at *
  go_cut [10] (fun s10 wx => s10 = .int .i64 (cellOld A b i) ∧ ∃ nd, wx = w3.drewN nd)
  case first =>
    by_cases hf0 : A.reachErr b i = 0
    · obtain ⟨j, ii, rfl, rfl, hj, hii, hold⟩ := RA.reach_ok hf0
      have bf : (A.reachErr ((j : Int) + 1) (ii : Int) == 0) = true := by simp [hf0]
      have hlen := hR1.1
      have hj2 : (j : Int) < A.blocks.length := by omega
      obtain ⟨g, xa, xc, rfl, hg, hgc, hc, hx, hx256⟩ := hR1.at_ rfl hj
      obtain ⟨gy, rfl, hgy, _, _, hxi, hcy⟩ := Row.long_at hx hii
      have hii2 : (ii : Int) < A.blocks[j].length := by omega
      have HO := Lib.hid hold
      generalize A.blocks[j][ii] = ov at *
      generalize A.blocks[j].length = q at *
      clear hold hf0 hx
      go_wp2_with fail
      go_quiet (fail)
      go_wp2_with fail
      go_meet
      exact ⟨by rw [HO.out], _, rfl⟩
    · have bf : (A.reachErr b i == 0) = false := by simp [hf0]
      have ho : cellOld A b i = 0 := by simp [cellOld, hf0]
      have HO := Lib.hid ho
      clear ho hf0
      go_wp2_with fail
      go_meet
      exact ⟨by rw [HO.out], 0, rfl⟩
  case rest =>
    obtain ⟨rfl, nd, rfl⟩ := hcut
    have hY : ∀ M, Ext M w3 (w3.drewN nd) own3 own3 := fun M => Ext.refl.drewN nd
    have hb1 := hb1.ext (hY (fun _ => False)) (by simp)
    have hb2 := hb2.ext (hY (fun _ => False)) (by simp)
    have hb3 := hb3.ext (hY (fun _ => False)) (by simp)
    have hbN := hbN.ext (hY (fun _ => False)) (by simp)
    have hS3 := hS3.ext (hY (fun _ => False)) (by simp)
    have hR3 := hR3.ext (hY (fun _ => False)) (by simp)
    have hE3 := hE3.trans (hY _)
    clear hY hR1 c0 c1 c2
    generalize w3.drewN nd = w4 at *
    clear o0 o1 o2 o3 o4
    obtain ⟨o0, o1, o2, o3, o4⟩ := fiveO hb2
    by_cases h3 : kd = 3
    · subst h3
      have hV : cellV V 3 b i x y = V.touch b := by simp [cellV]
      have hRv : cellR A 3 b i x y = A.reach b := by
        unfold cellR
        split
        · rfl
        · rename_i h; rw [if_pos rfl, RA.reach_same (Classical.not_not.1 h)]
      have hok : cellOk V A 3 b i x y = (V.err b i == A.reachErr b i && V.val b i == cellOld A b i) := by simp [cellOk]
      have HV := Lib.hid hV
      have HRV := Lib.hid hRv
      have HOK := Lib.hid hok
      clear hV hRv hok
      go_wp2_with fail
      refine (Load_any hS3 hf b i).mono ?_
      rintro e w5 ⟨rfl, own5, hE5, hS5⟩
      have hb2 := hb2.ext hE5 (fun h => hBk h.symm)
      have hb3 := hb3.ext hE5 (fun h => hBk h.symm)
      have hbN := hbN.ext hE5 (fun h => hBk h.symm)
      have hR5 := hR3.ext hE5 (fun h => hkL h.symm)
      have hE6 := hE3.trans hE5
      clear hE5 hS3 hR3 hE3 o0 o1 o2 o3 o4
      obtain ⟨o0, o1, o2, o3, o4⟩ := fiveO hb2
      obtain ⟨n0, n1, n2⟩ := three hbN
      obtain ⟨d0, d1, d2⟩ := three hb3
      obtain ⟨f0, f1, f2⟩ := three_free hb3
      have hEND := as_end (by omega) hBk hBL hE6 hb3 hS5 hR5
      have HEND := Lib.hid hEND
      clear hEND hE6 hb2 hb3 hbN hS5 hR5
      go_wp2
      all_goals
        ((try simp only [Exit.inBlock, Exit.then]); refine bodyPost_ret (results_ct rfl _ _ ((w.heap.size + 1 + 1)) 56 _ _ _ rfl (HEND.out.2) Try.underlying56 rfl (by kernel_rfl)) rfl ?_)
        refine HEND.out.1 _ _ _ _ HV.out.symm HRV.out.symm ?_
        first | exact HOK.out.symm | (rw [HOK.out]; simp [*])
    by_cases h4 : kd = 4
    · subst h4
      have hV : cellV V 4 b i x y = V.store b i x := by simp [cellV]
      by_cases hf0 : A.reachErr b i = 0
      · have bf : (A.reachErr b i != 0) = false := by simp [hf0]
        rw [RA.reach_same hf0] at *
        obtain ⟨j, ii, rfl, rfl, hj, hii, hold⟩ := RA.reach_ok hf0
        have hlen := hR3.1
        have hRs : ∀ z, A.set ((j : Int) + 1) (ii : Int) z = A.put ((j : Int) + 1) (A.blocks[j].set ii z) := by
          intro z
          rw [RA.set, RA.blk_in hj, Int.toNat_natCast]
        have hRv : cellR A 4 ((j : Int) + 1) ii x y = A.put ((j : Int) + 1) (A.blocks[j].set ii x) := by rw [← hRs]; simp [cellR, hf0]
        have hok : cellOk V A 4 ((j : Int) + 1) ii x y = (V.err ((j : Int) + 1) ii == 0) := by simp [cellOk, hf0]
        clear hf0 hRs
        have HV := Lib.hid hV
        have HRV := Lib.hid hRv
        have HOK := Lib.hid hok
        clear hV hRv hok
        go_wp2_with fail
        refine (Store_any hS3 hf ((j : Int) + 1) ii x).mono ?_
        rintro e w5 ⟨rfl, own5, hE5, hS5⟩
        have hb2 := hb2.ext hE5 (fun h => hBk h.symm)
        have hb3 := hb3.ext hE5 (fun h => hBk h.symm)
        have hbN := hbN.ext hE5 (fun h => hBk h.symm)
        have hR5 := hR3.ext hE5 (fun h => hkL h.symm)
        have hE6 := hE3.trans hE5
        clear hE5 hS3 hR3 hE3 o0 o1 o2 o3 o4
        obtain ⟨o0, o1, o2, o3, o4⟩ := fiveO hb2
        obtain ⟨n0, n1, n2⟩ := three hbN
        obtain ⟨d0, d1, d2⟩ := three hb3
        obtain ⟨f0, f1, f2⟩ := three_free hb3
        go_wp2_with fail
        refine (aSet_any hR5 j hj ii hii (x)).mono ?_
        rintro e w6 ⟨v6, rfl, hR6, hB6⟩
        have hZ : ∀ M, Ext M w5 w6 own5 (ow own5 w5.heap.size L) := fun M => Ext.of_below hB6 _ _
        have hS6 := hS5.ext (hZ (fun _ => False)) (by simp)
        have hb3 := hb3.ext (hZ (fun _ => False)) (by simp)
        have hb2 := hb2.ext (hZ (fun _ => False)) (by simp)
        have hE7 := hE6.trans (hZ _)
        generalize ow own5 w5.heap.size L = own6 at *
        clear hZ hB6 hR5 hS5 hE6 hbN n0 n1 n2
        obtain ⟨d0, d1, d2⟩ := three hb3
        obtain ⟨f0, f1, f2⟩ := three_free hb3
        obtain ⟨o0, o1, o2, o3, o4⟩ := fiveO hb2
        obtain ⟨sa, sc, rfl⟩ := hR6.agg
        have hEND := as_end (by omega) hBk hBL hE7 hb3 hS6 hR6
        have HEND := Lib.hid hEND
        clear hEND hE7 hb2 hb3 hS6 hR6
        unfold id aAgg
        go_wp2
        all_goals
          ((try simp only [Exit.inBlock, Exit.then]); refine bodyPost_ret (results_ct rfl _ _ ((w.heap.size + 1 + 1)) 56 _ _ _ rfl (HEND.out.2) Try.underlying56 rfl (by kernel_rfl)) rfl ?_)
          refine HEND.out.1 _ _ _ _ HV.out.symm HRV.out.symm ?_
          first | exact HOK.out.symm | (rw [HOK.out]; simp [*])
      · have bf : (A.reachErr b i != 0) = true := by simp [hf0]
        have hRv : cellR A 4 b i x y = A.reach b := by simp [cellR, hf0]
        have hok : cellOk V A 4 b i x y = (V.err b i == A.reachErr b i) := by simp [cellOk, hf0]
        clear hf0
        have HV := Lib.hid hV
        have HRV := Lib.hid hRv
        have HOK := Lib.hid hok
        clear hV hRv hok
        go_wp2_with fail
        refine (Store_any hS3 hf b i x).mono ?_
        rintro e w5 ⟨rfl, own5, hE5, hS5⟩
        have hb2 := hb2.ext hE5 (fun h => hBk h.symm)
        have hb3 := hb3.ext hE5 (fun h => hBk h.symm)
        have hbN := hbN.ext hE5 (fun h => hBk h.symm)
        have hR5 := hR3.ext hE5 (fun h => hkL h.symm)
        have hE6 := hE3.trans hE5
        clear hE5 hS3 hR3 hE3 o0 o1 o2 o3 o4
        obtain ⟨o0, o1, o2, o3, o4⟩ := fiveO hb2
        obtain ⟨n0, n1, n2⟩ := three hbN
        obtain ⟨d0, d1, d2⟩ := three hb3
        obtain ⟨f0, f1, f2⟩ := three_free hb3
        have hEND := as_end (by omega) hBk hBL hE6 hb3 hS5 hR5
        have HEND := Lib.hid hEND
        clear hEND hE6 hb2 hb3 hbN hS5 hR5
        go_wp2
        all_goals
          ((try simp only [Exit.inBlock, Exit.then]); refine bodyPost_ret (results_ct rfl _ _ ((w.heap.size + 1 + 1)) 56 _ _ _ rfl (HEND.out.2) Try.underlying56 rfl (by kernel_rfl)) rfl ?_)
          refine HEND.out.1 _ _ _ _ HV.out.symm HRV.out.symm ?_
          first | exact HOK.out.symm | (rw [HOK.out]; simp [*])
    by_cases h5 : kd = 5
    · subst h5
      have hV : cellV V 5 b i x y = V.swap b i x y := by simp [cellV]
      by_cases hf0 : A.reachErr b i = 0
      · have bf : (A.reachErr b i != 0) = false := by simp [hf0]
        rw [RA.reach_same hf0] at *
        obtain ⟨j, ii, rfl, rfl, hj, hii, hold⟩ := RA.reach_ok hf0
        have hlen := hR3.1
        have hRs : ∀ z, A.set ((j : Int) + 1) (ii : Int) z = A.put ((j : Int) + 1) (A.blocks[j].set ii z) := by
          intro z
          rw [RA.set, RA.blk_in hj, Int.toNat_natCast]
        by_cases ho : cellOld A ((j : Int) + 1) ii = x
        · have bo : (cellOld A ((j : Int) + 1) ii != x) = false := by simp [ho]
          have hRv : cellR A 5 ((j : Int) + 1) ii x y = A.put ((j : Int) + 1) (A.blocks[j].set ii y) := by rw [← hRs]; simp [cellR, hf0, ho]
          have hok : cellOk V A 5 ((j : Int) + 1) ii x y = (V.swapOk ((j : Int) + 1) ii x && V.err ((j : Int) + 1) ii == 0) := by simp [cellOk, hf0, ho]
          have HO := Lib.hid ho
          clear hf0 hRs ho hold
          have HV := Lib.hid hV
          have HRV := Lib.hid hRv
          have HOK := Lib.hid hok
          clear hV hRv hok
          go_wp2_with fail
          refine (Swap_any hS3 hf ((j : Int) + 1) ii x y).mono ?_
          rintro e w5 ⟨rfl, own5, hE5, hS5⟩
          have hb2 := hb2.ext hE5 (fun h => hBk h.symm)
          have hb3 := hb3.ext hE5 (fun h => hBk h.symm)
          have hbN := hbN.ext hE5 (fun h => hBk h.symm)
          have hR5 := hR3.ext hE5 (fun h => hkL h.symm)
          have hE6 := hE3.trans hE5
          clear hE5 hS3 hR3 hE3 o0 o1 o2 o3 o4
          obtain ⟨o0, o1, o2, o3, o4⟩ := fiveO hb2
          obtain ⟨n0, n1, n2⟩ := three hbN
          obtain ⟨d0, d1, d2⟩ := three hb3
          obtain ⟨f0, f1, f2⟩ := three_free hb3
          go_wp2_with fail
          refine (aSet_any hR5 j hj ii hii (y)).mono ?_
          rintro e w6 ⟨v6, rfl, hR6, hB6⟩
          have hZ : ∀ M, Ext M w5 w6 own5 (ow own5 w5.heap.size L) := fun M => Ext.of_below hB6 _ _
          have hS6 := hS5.ext (hZ (fun _ => False)) (by simp)
          have hb3 := hb3.ext (hZ (fun _ => False)) (by simp)
          have hb2 := hb2.ext (hZ (fun _ => False)) (by simp)
          have hE7 := hE6.trans (hZ _)
          generalize ow own5 w5.heap.size L = own6 at *
          clear hZ hB6 hR5 hS5 hE6 hbN n0 n1 n2
          obtain ⟨d0, d1, d2⟩ := three hb3
          obtain ⟨f0, f1, f2⟩ := three_free hb3
          obtain ⟨o0, o1, o2, o3, o4⟩ := fiveO hb2
          obtain ⟨sa, sc, rfl⟩ := hR6.agg
          have hEND := as_end (by omega) hBk hBL hE7 hb3 hS6 hR6
          have HEND := Lib.hid hEND
          clear hEND hE7 hb2 hb3 hS6 hR6
          unfold id aAgg
          go_wp2
          all_goals
            ((try simp only [Exit.inBlock, Exit.then]); refine bodyPost_ret (results_ct rfl _ _ ((w.heap.size + 1 + 1)) 56 _ _ _ rfl (HEND.out.2) Try.underlying56 rfl (by kernel_rfl)) rfl ?_)
            refine HEND.out.1 _ _ _ _ HV.out.symm HRV.out.symm ?_
            first | exact HOK.out.symm | (rw [HOK.out]; simp [*])
        · have bo : (cellOld A ((j : Int) + 1) ii != x) = true := by simp [ho]
          have hRv : cellR A 5 ((j : Int) + 1) ii x y = A := by simp [cellR, hf0, ho]
          have hok : cellOk V A 5 ((j : Int) + 1) ii x y = (V.err ((j : Int) + 1) ii == A.reachErr ((j : Int) + 1) ii && !V.swapOk ((j : Int) + 1) ii x) := by simp [cellOk, hf0, ho]
          have HO := Lib.hid ho
          clear hf0 hRs ho hold
          have HV := Lib.hid hV
          have HRV := Lib.hid hRv
          have HOK := Lib.hid hok
          clear hV hRv hok
          go_wp2_with fail
          refine (Swap_any hS3 hf ((j : Int) + 1) ii x y).mono ?_
          rintro e w5 ⟨rfl, own5, hE5, hS5⟩
          have hb2 := hb2.ext hE5 (fun h => hBk h.symm)
          have hb3 := hb3.ext hE5 (fun h => hBk h.symm)
          have hbN := hbN.ext hE5 (fun h => hBk h.symm)
          have hR5 := hR3.ext hE5 (fun h => hkL h.symm)
          have hE6 := hE3.trans hE5
          clear hE5 hS3 hR3 hE3 o0 o1 o2 o3 o4
          obtain ⟨o0, o1, o2, o3, o4⟩ := fiveO hb2
          obtain ⟨n0, n1, n2⟩ := three hbN
          obtain ⟨d0, d1, d2⟩ := three hb3
          obtain ⟨f0, f1, f2⟩ := three_free hb3
          have hEND := as_end (by omega) hBk hBL hE6 hb3 hS5 hR5
          have HEND := Lib.hid hEND
          clear hEND hE6 hb2 hb3 hbN hS5 hR5
          go_wp2
          all_goals
            ((try simp only [Exit.inBlock, Exit.then]); refine bodyPost_ret (results_ct rfl _ _ ((w.heap.size + 1 + 1)) 56 _ _ _ rfl (HEND.out.2) Try.underlying56 rfl (by kernel_rfl)) rfl ?_)
            refine HEND.out.1 _ _ _ _ HV.out.symm HRV.out.symm ?_
            first | exact HOK.out.symm | (rw [HOK.out]; simp [*])
      · have bf : (A.reachErr b i != 0) = true := by simp [hf0]
        have hRv : cellR A 5 b i x y = A.reach b := by simp [cellR, hf0]
        have hok : cellOk V A 5 b i x y = (V.err b i == A.reachErr b i && !V.swapOk b i x) := by simp [cellOk, hf0]
        clear hf0
        have HV := Lib.hid hV
        have HRV := Lib.hid hRv
        have HOK := Lib.hid hok
        clear hV hRv hok
        go_wp2_with fail
        refine (Swap_any hS3 hf b i x y).mono ?_
        rintro e w5 ⟨rfl, own5, hE5, hS5⟩
        have hb2 := hb2.ext hE5 (fun h => hBk h.symm)
        have hb3 := hb3.ext hE5 (fun h => hBk h.symm)
        have hbN := hbN.ext hE5 (fun h => hBk h.symm)
        have hR5 := hR3.ext hE5 (fun h => hkL h.symm)
        have hE6 := hE3.trans hE5
        clear hE5 hS3 hR3 hE3 o0 o1 o2 o3 o4
        obtain ⟨o0, o1, o2, o3, o4⟩ := fiveO hb2
        obtain ⟨n0, n1, n2⟩ := three hbN
        obtain ⟨d0, d1, d2⟩ := three hb3
        obtain ⟨f0, f1, f2⟩ := three_free hb3
        have hEND := as_end (by omega) hBk hBL hE6 hb3 hS5 hR5
        have HEND := Lib.hid hEND
        clear hEND hE6 hb2 hb3 hbN hS5 hR5
        go_wp2
        all_goals
          ((try simp only [Exit.inBlock, Exit.then]); refine bodyPost_ret (results_ct rfl _ _ ((w.heap.size + 1 + 1)) 56 _ _ _ rfl (HEND.out.2) Try.underlying56 rfl (by kernel_rfl)) rfl ?_)
          refine HEND.out.1 _ _ _ _ HV.out.symm HRV.out.symm ?_
          first | exact HOK.out.symm | (rw [HOK.out]; simp [*])
    have b3 : (kd == 3) = false := by simp [h3]
    have b4 : (kd == 4) = false := by simp [h4]
    have b5 : (kd == 5) = false := by simp [h5]
    have hV : cellV V kd b i x y = V.add b i x := by simp [cellV, h3, h4, h5]
    by_cases hf0 : A.reachErr b i = 0
    · have bf : (A.reachErr b i != 0) = false := by simp [hf0]
      rw [RA.reach_same hf0] at *
      obtain ⟨j, ii, rfl, rfl, hj, hii, hold⟩ := RA.reach_ok hf0
      have hlen := hR3.1
      have hRs : ∀ z, A.set ((j : Int) + 1) (ii : Int) z = A.put ((j : Int) + 1) (A.blocks[j].set ii z) := by
        intro z
        rw [RA.set, RA.blk_in hj, Int.toNat_natCast]
      have hRv : cellR A kd ((j : Int) + 1) ii x y = A.put ((j : Int) + 1) (A.blocks[j].set ii (wrap64 (cellOld A ((j : Int) + 1) ii + x))) := by rw [← hRs]; simp [cellR, hf0, h3, h4, h5]
      have hok : cellOk V A kd ((j : Int) + 1) ii x y = (V.err ((j : Int) + 1) ii == 0 && V.addVal ((j : Int) + 1) ii x == wrap64 (cellOld A ((j : Int) + 1) ii + x)) := by simp [cellOk, hf0, h3, h4, h5]
      clear hf0 hRs hold h3 h4 h5
      have HV := Lib.hid hV
      have HRV := Lib.hid hRv
      have HOK := Lib.hid hok
      clear hV hRv hok
      go_wp2_with fail
      refine (Add_any hS3 hf ((j : Int) + 1) ii x).mono ?_
      rintro e w5 ⟨rfl, own5, hE5, hS5⟩
      have hb2 := hb2.ext hE5 (fun h => hBk h.symm)
      have hb3 := hb3.ext hE5 (fun h => hBk h.symm)
      have hbN := hbN.ext hE5 (fun h => hBk h.symm)
      have hR5 := hR3.ext hE5 (fun h => hkL h.symm)
      have hE6 := hE3.trans hE5
      clear hE5 hS3 hR3 hE3 o0 o1 o2 o3 o4
      obtain ⟨o0, o1, o2, o3, o4⟩ := fiveO hb2
      obtain ⟨n0, n1, n2⟩ := three hbN
      obtain ⟨d0, d1, d2⟩ := three hb3
      obtain ⟨f0, f1, f2⟩ := three_free hb3
      go_wp2_with fail
      rcases Bool.eq_false_or_eq_true (V.err ((j : Int) + 1) ii == 0) with be | be
      all_goals
        refine wp_region_plan3 [(true, 0, [9, 12, 13, 14, 15, 16, 17, 18, 19, 20, 21]), (true, 1, [2, 9, 12, 13, 14, 15, 16, 17, 18, 19, 20, 21]), (true, 2, [9, 12, 13, 14, 15, 16, 17, 18, 19, 20, 21]), (true, 3, [4, 9, 12, 13, 14, 15, 16, 17, 18, 19, 20, 21]), (true, 4, [9, 12, 13, 14, 15, 16, 17, 18, 19, 20, 21]), (true, 5, [8, 9, 12, 13, 14, 15, 16, 17, 18, 19, 20, 21]), (true, 6, [7, 8, 9, 12, 13, 14, 15, 16, 17, 18, 19, 20, 21]), (true, 7, [8, 9, 12, 13, 14, 15, 16, 17, 18, 19, 20, 21]), (true, 8, [9, 12, 13, 14, 15, 16, 17, 18, 19, 20, 21]), (true, 10, [11, 12, 13, 14, 15, 16, 17, 18, 19, 20, 21]), (true, 11, [12, 13, 14, 15, 16, 17, 18, 19, 20, 21]), (false, 9, []), (true, 12, [13, 14, 15, 16, 17, 18, 19, 20, 21]), (true, 13, [18, 19, 21]), (true, 14, [17, 18, 19, 21]), (true, 15, [16, 17, 18, 19, 21]), (true, 16, [17, 18, 19, 21]), (true, 17, [18, 19, 21]), (true, 18, [19, 21]), (true, 19, [21]), (false, 20, []), (true, 21, [])] (NO nb (w.heap.size + 1) (.slice na A.blocks.length nc) (.int .i64 A.most) (.int .i64 A.faults) (.int .i64 kd) (.int .i64 ((j : Int) + 1)) (.int .i64 ii) (.int .i64 x) (.int .i64 y)) (by kernel_rfl) (by kernel_rfl) (fun _ _ _ d _ h => by cases d <;> exact h) ⟨three hbN.drew, fiveO hb2.drew⟩ ?_
        have hD : ∀ M, Ext M w5 w5.drew own5 own5 := fun M => Ext.refl.drew
        have hb2 := hb2.ext (hD (fun _ => False)) (by simp)
        have hb3 := hb3.ext (hD (fun _ => False)) (by simp)
        have hbN := hbN.ext (hD (fun _ => False)) (by simp)
        have hS5 := hS5.ext (hD (fun _ => False)) (by simp)
        have hR5 := hR5.ext (hD (fun _ => False)) (by simp)
        have hE6 := hE6.trans (hD _)
        clear hD o0 o1 o2 o3 o4 n0 n1 n2 d0 d1 d2 f0 f1 f2
        generalize w5.drew = w5 at *
        iterate 11
          apply plan3_early
          case hi => rfl
          case h =>
            rintro w1 ⟨⟨n0, n1, n2⟩, o0, o1, o2, o3, o4⟩
            still_step
            exact wpStill_nil rfl
        refine plan3_big rfl ?_
        obtain ⟨o0, o1, o2, o3, o4⟩ := fiveO hb2
        obtain ⟨n0, n1, n2⟩ := three hbN
        go_wp2_with fail
        refine (aSet_any hR5 j hj ii hii (wrap64 (cellOld A ((j : Int) + 1) ii + x))).mono ?_
        rintro e w6 ⟨v6, rfl, hR6, hB6⟩
        have hZ : ∀ M, Ext M w5 w6 own5 (ow own5 w5.heap.size L) := fun M => Ext.of_below hB6 _ _
        have hS6 := hS5.ext (hZ (fun _ => False)) (by simp)
        have hb3 := hb3.ext (hZ (fun _ => False)) (by simp)
        have hb2 := hb2.ext (hZ (fun _ => False)) (by simp)
        have hbN := hbN.ext (hZ (fun _ => False)) (by simp)
        have hE7 := hE6.trans (hZ _)
        generalize ow own5 w5.heap.size L = own6 at *
        clear hZ hB6 hR5 hS5 hE6 n0 n1 n2 o0 o1 o2 o3 o4
        obtain ⟨sa, sc, rfl⟩ := hR6.agg
        have hEND := as_end (by omega) hBk hBL hE7 hb3 hS6 hR6
        have HEND := Lib.hid hEND
        have HI6 := Lib.hid (show NO nb (w.heap.size + 1) (.slice na A.blocks.length nc) (.int .i64 A.most) (.int .i64 A.faults) (.int .i64 kd) (.int .i64 ((j : Int) + 1)) (.int .i64 ii) (.int .i64 x) (.int .i64 y) w6 from ⟨three hbN, fiveO hb2⟩)
        obtain ⟨d0, d1, d2⟩ := three hb3
        obtain ⟨f0, f1, f2⟩ := three_free hb3
        have HNO := Lib.hid (show NO nb (w.heap.size + 1) (.slice na A.blocks.length nc) (.int .i64 A.most) (.int .i64 A.faults) (.int .i64 kd) (.int .i64 ((j : Int) + 1)) (.int .i64 ii) (.int .i64 x) (.int .i64 y) (putCells w6 (w.heap.size + 1 + 1) 0 [.slice sa (A.put ((j : Int) + 1) (A.blocks[j].set ii (wrap64 (cellOld A ((j : Int) + 1) ii + x)))).blocks.length sc, .int .i64 (A.put ((j : Int) + 1) (A.blocks[j].set ii (wrap64 (cellOld A ((j : Int) + 1) ii + x)))).most, .int .i64 (A.put ((j : Int) + 1) (A.blocks[j].set ii (wrap64 (cellOld A ((j : Int) + 1) ii + x)))).faults]) from ⟨three (hbN.putCells_other (by omega) _ _ _), fiveO (hb2.putCells_other (by omega) _ _ _)⟩)
        clear hEND hE7 hS6 hR6
        unfold id aAgg
        go_wp2_with fail
        refine ⟨HI6.out, ?_⟩
        iterate 8
          apply plan3_early
          case hi => rfl
          case h =>
            rintro w1 ⟨⟨n0, n1, n2⟩, o0, o1, o2, o3, o4⟩
            still_step
            exact wpStill_nil rfl
        refine plan3_big rfl ?_
        go_wp2_with fail
        refine ⟨HNO.out, ?_⟩
        apply plan3_early
        case hi => rfl
        case h =>
          rintro w1 ⟨⟨n0, n1, n2⟩, o0, o1, o2, o3, o4⟩
          still_step
          exact wpStill_nil rfl
        refine plan3_nil ?_
        go_wp2
        ((try simp only [Exit.inBlock, Exit.then]); refine bodyPost_ret (results_ct rfl _ _ ((w.heap.size + 1 + 1)) 56 _ _ _ rfl (HEND.out.2) Try.underlying56 rfl (by kernel_rfl)) rfl ?_)
        refine HEND.out.1 _ _ _ _ HV.out.symm HRV.out.symm ?_
        rw [HOK.out, be]; simp
    · have bf : (A.reachErr b i != 0) = true := by simp [hf0]
      have hRv : cellR A kd b i x y = A.reach b := by simp [cellR, hf0]
      have hok : cellOk V A kd b i x y = (V.err b i == A.reachErr b i && V.addVal b i x == 0) := by simp [cellOk, hf0, h3, h4, h5]
      clear hf0 h3 h4 h5
      have HV := Lib.hid hV
      have HRV := Lib.hid hRv
      have HOK := Lib.hid hok
      clear hV hRv hok
      go_wp2_with fail
      refine (Add_any hS3 hf b i x).mono ?_
      rintro e w5 ⟨rfl, own5, hE5, hS5⟩
      have hb2 := hb2.ext hE5 (fun h => hBk h.symm)
      have hb3 := hb3.ext hE5 (fun h => hBk h.symm)
      have hbN := hbN.ext hE5 (fun h => hBk h.symm)
      have hR5 := hR3.ext hE5 (fun h => hkL h.symm)
      have hE6 := hE3.trans hE5
      clear hE5 hS3 hR3 hE3 o0 o1 o2 o3 o4
      obtain ⟨o0, o1, o2, o3, o4⟩ := fiveO hb2
      obtain ⟨n0, n1, n2⟩ := three hbN
      obtain ⟨d0, d1, d2⟩ := three hb3
      obtain ⟨f0, f1, f2⟩ := three_free hb3
      have hEND := as_end (by omega) hBk hBL hE6 hb3 hS5 hR5
      have HEND := Lib.hid hEND
      clear hEND hE6 hb2 hb3 hbN hS5 hR5
      go_wp2
      all_goals
        ((try simp only [Exit.inBlock, Exit.then]); refine bodyPost_ret (results_ct rfl _ _ ((w.heap.size + 1 + 1)) 56 _ _ _ rfl (HEND.out.2) Try.underlying56 rfl (by kernel_rfl)) rfl ?_)
        refine HEND.out.1 _ _ _ _ HV.out.symm HRV.out.symm ?_
        first | exact HOK.out.symm | (rw [HOK.out]; simp [*])
end
end Go.Proofs.Ytemibcglhbjaoaa
