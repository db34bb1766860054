/- Layer 2: one call against the document (asks), whatever the two arenas are. -/
import Derived.Test.YtemibcglhbjaoaaCellsAsks
import Derived.BigRegion
set_option maxRecDepth 20000
set_option linter.unusedVariables false
set_option linter.unusedSimpArgs false
namespace Go.Proofs.Ytemibcglhbjaoaa
open Go.RowKit Go.PM

def askV (V : AV) (kd b i x y : Int) : AV := if kd = 1 then V.alloc i else if kd = 2 then V.free b else if kd = 7 then V.touch b else if kd = 3 ∨ kd = 4 ∨ kd = 5 ∨ kd = 6 then cellV V kd b i x y else V
def askR (A : RA) (kd b i x y : Int) : RA := if kd = 1 then A.alloc i else if kd = 2 then A.free b else if kd = 7 then A.reach b else if kd = 3 ∨ kd = 4 ∨ kd = 5 ∨ kd = 6 then cellR A kd b i x y else A
def AV.allocId (V : AV) (n : Int) : Int := if V.allocErr n = 0 then V.made + 1 else 0
def sizeOk (V : AV) (A : RA) (b : Int) : Bool := V.freeErr b == A.reachErr b 0 && ((A.reachErr b 0 == 0 && V.size b == ((A.blk b).length : Int)) || (A.reachErr b 0 != 0 && V.size b == 0))
def askOk (V : AV) (A : RA) (kd b i x y : Int) : Bool :=
  if kd = 1 then (V.allocId i == A.allocId i && V.allocErr i == A.allocErr i) else if kd = 2 then V.freeErr b == A.freeErr b else if kd = 7 then sizeOk V A b
  else if kd = 3 ∨ kd = 4 ∨ kd = 5 ∨ kd = 6 then cellOk V A kd b i x y else true
theorem RA.reach_in {A : RA} {b : Int} (h : A.reachErr b 0 = 0) : ∃ j : Nat, b = (j : Int) + 1 ∧ ∃ hj : j < A.blocks.length, A.blk b = A.blocks[j] := by
  unfold RA.reachErr at h
  split at h
  · rename_i his
    obtain ⟨j, rfl, hj, hpos⟩ := RA.is_in his
    exact ⟨j, rfl, hj, RA.blk_in hj⟩
  · cases h
theorem cell_putCells_ne {b : Nat} {x : Addr} (h : x.block ≠ b) (vs : List Value) : ∀ (w : World) (i : Nat), (putCells w b i vs).cell? x = w.cell? x := by
  induction vs with
  | nil => intro w i; rfl
  | cons v vs ih =>
    intro w i
    rw [putCells, ih]
    exact World.cell?_setCell_other _ _ _ _ (by intro h2; exact h (by rw [← h2]))
def AO (nb cb ob : Nat) (x0 x1 x2 z0 z1 z2 y0 y1 y2 y3 y4 : Value) (g j : Nat) (e : Option Value) (w : World) : Prop :=
  (w.cell? ⟨nb, 0, none⟩ = some x0 ∧ w.cell? ⟨nb, 1, none⟩ = some x1 ∧ w.cell? ⟨nb, 2, none⟩ = some x2) ∧
    (w.cell? ⟨cb, 0, none⟩ = some z0 ∧ w.cell? ⟨cb, 1, none⟩ = some z1 ∧ w.cell? ⟨cb, 2, none⟩ = some z2) ∧
    (w.cell? ⟨ob, 0, none⟩ = some y0 ∧ w.cell? ⟨ob, 1, none⟩ = some y1 ∧ w.cell? ⟨ob, 2, none⟩ = some y2 ∧ w.cell? ⟨ob, 3, none⟩ = some y3 ∧ w.cell? ⟨ob, 4, none⟩ = some y4) ∧
    ∀ v, e = some v → w.cell? ⟨g, j, none⟩ = some v
section
variable {w : World} {own : Nat → Nat} {k a L : Nat} {V : AV} {v : Value} {A : RA}
set_option maxHeartbeats 8000000 in
theorem asks_else (hS : Arena w own k a V) (hR : RefA w own L v A) (hkL : k ≠ L) (hf : V.faults < 1000000000000000) (hm : V.made < 1000000000000000) (hrf : -1 ≤ A.faults ∧ A.faults < 6000000000000000)
    (hlen2 : A.blocks.length < 4000000000000) (hmost : 0 ≤ A.most ∧ A.most ≤ 65536) (kd b i x y : Int) (hno : ¬(kd = 1 ∨ kd = 2 ∨ kd = 3 ∨ kd = 4 ∨ kd = 5 ∨ kd = 6 ∨ kd = 7)) :
    Calls Try.prog 29 #[.pointer (some ⟨a, 0, none⟩), v, .agg #[.int .i64 kd, .int .i64 b, .int .i64 i, .int .i64 x, .int .i64 y]] w (AsPost k a L (askV V kd b i x y) (askR A kd b i x y) (askOk V A kd b i x y) w own) := by
  obtain ⟨ba, bc, rfl⟩ := hR.agg
  have HEL := Lib.hid (show AsPost k a L V A true w own (.returned (.tuple #[aAgg (.slice ba A.blocks.length bc) A, .bool true])) (((w.alloc (.cells #[.slice ba A.blocks.length bc, .int .i64 A.most, .int .i64 A.faults] 56)).alloc (.cells #[.int .i64 kd, .int .i64 b, .int .i64 i, .int .i64 x, .int .i64 y] 53)).alloc (.cells #[.slice ba A.blocks.length bc, .int .i64 A.most, .int .i64 A.faults] 56)) ∧
      (((w.alloc (.cells #[.slice ba A.blocks.length bc, .int .i64 A.most, .int .i64 A.faults] 56)).alloc (.cells #[.int .i64 kd, .int .i64 b, .int .i64 i, .int .i64 x, .int .i64 y] 53)).alloc (.cells #[.slice ba A.blocks.length bc, .int .i64 A.most, .int .i64 A.faults] 56)).heap[w.heap.size + 1 + 1]? = some (.cells #[.slice ba A.blocks.length bc, .int .i64 A.most, .int .i64 A.faults] 56 (0, 0)) by
    obtain ⟨hE', _, _, hb3'⟩ := as_start w own (k + L + 1) (.cells #[.slice ba A.blocks.length bc, .int .i64 A.most, .int .i64 A.faults] 56 (0, 0)) (.cells #[.int .i64 kd, .int .i64 b, .int .i64 i, .int .i64 x, .int .i64 y] 53 (0, 0)) (.cells #[.slice ba A.blocks.length bc, .int .i64 A.most, .int .i64 A.faults] 56 (0, 0))
    exact ⟨⟨_, _, rfl, hE' _, hS.ext (hE' (fun _ => False)) (by simp), hR.ext (hE' (fun _ => False)) (by simp)⟩, hb3'.at_⟩)
  obtain ⟨hE, hb1, hb2, hb3⟩ := as_start w own (k + L + 1) (.cells #[.slice ba A.blocks.length bc, .int .i64 A.most, .int .i64 A.faults] 56 (0, 0)) (.cells #[.int .i64 kd, .int .i64 b, .int .i64 i, .int .i64 x, .int .i64 y] 53 (0, 0)) (.cells #[.slice none 0 0, .int .i64 0, .int .i64 0] 56 (0, 0))
  have hBk : k ≠ k + L + 1 := by omega
  have hBL : L ≠ k + L + 1 := by omega
  have hSa := hS.ext (hE (fun _ => False)) (by simp)
  have hRa := hR.ext (hE (fun _ => False)) (by simp)
  have hEa := hE (fun c => c = k)
  generalize k + L + 1 = B at *
  clear hE hS hR
  unfold aAgg
  go_enter Try.func29, Try.ntmps29
  generalize hown : ow own w.heap.size B = own1 at *
  clear hown
  have b1 : (kd == 1) = false := by simp; omega
  have b2 : (kd == 2) = false := by simp; omega
  have b3 : (kd == 3) = false := by simp; omega
  have b4 : (kd == 4) = false := by simp; omega
  have b5 : (kd == 5) = false := by simp; omega
  have b6 : (kd == 6) = false := by simp; omega
  have b7 : (kd == 7) = false := by simp; omega
  have hV : askV V kd b i x y = V := by unfold askV; rw [if_neg (by omega), if_neg (by omega), if_neg (by omega), if_neg (by omega)]
  have hRv : askR A kd b i x y = A := by unfold askR; rw [if_neg (by omega), if_neg (by omega), if_neg (by omega), if_neg (by omega)]
  have hok : askOk V A kd b i x y = true := by unfold askOk; rw [if_neg (by omega), if_neg (by omega), if_neg (by omega), if_neg (by omega)]
  have HV := Lib.hid hV
  have HRV := Lib.hid hRv
  have HOK := Lib.hid hok
  clear hV hRv hok
  clear hb1 hb2 hb3 hSa hRa hEa hno
  go_wp2
  all_goals
    ((try simp only [Exit.inBlock, Exit.then]); refine bodyPost_ret (results_ct rfl _ _ ((w.heap.size + 1 + 1)) 56 _ _ _ rfl (HEL.out.2) Try.underlying56 rfl (by kernel_rfl)) rfl ?_)
    rw [HV.out, HRV.out, HOK.out]
    exact HEL.out.1
end
end Go.Proofs.Ytemibcglhbjaoaa
