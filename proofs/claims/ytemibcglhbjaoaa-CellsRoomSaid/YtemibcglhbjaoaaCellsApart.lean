/- CellsApart: blocks are apart; what is freed tells nothing any more. -/
import Derived.Test.YtemibcglhbjaoaaCellsPlays
set_option maxRecDepth 20000
set_option linter.unusedVariables false
set_option linter.unusedSimpArgs false
namespace Go.Proofs.Ytemibcglhbjaoaa
open Go.RowKit Go.PM

/-! ### plain facts -/
section
variable {A : RA}
theorem blk_le (b : Int) : (A.blk b).length ≤ mlive A.blocks := by
  have key : ∀ (l : List (List Int)) (n b : Int), (atFrom n l b).length ≤ mlive l := by
    intro l
    induction l with
    | nil => intro n b; rw [atFrom_nil]; simp
    | cons x l ih =>
      intro n b
      have := ih (n + 1) b
      rw [atFrom_cons]
      simp only [mlive, List.map_cons, List.sum_cons] at this ⊢
      split <;> omega
  rw [RA.blk_from]
  exact key _ _ _
theorem blk_small {w : World} {own : Nat → Nat} {k a : Nat} (hA : Arena w own k a (abs A)) (b : Int) : (A.blk b).length ≤ 65536 := by
  have h1 := blk_le (A := A) b
  have h2 := hA.ok.most
  have h3 := hA.ok.live
  have e1 : (abs A).live = ((mlive A.blocks : Nat) : Int) := rfl
  omega
theorem RA.in_of {b : Int} {xs : List Int} (h : A.blk b = xs) (hx : xs ≠ []) : ∃ j : Nat, b = (j : Int) + 1 ∧ ∃ hj : j < A.blocks.length, A.blocks[j] = xs := by
  have his : A.is b = true := by
    unfold RA.is
    rw [h]
    simpa using List.length_pos_iff.2 hx
  obtain ⟨j, rfl, hj, _⟩ := RA.is_in his
  exact ⟨j, rfl, hj, by rw [← h, RA.blk_in hj]⟩
theorem RA.is_of {b : Int} {xs : List Int} (h : A.blk b = xs) (hx : xs ≠ []) : A.is b = true := by
  unfold RA.is
  rw [h]
  simpa using List.length_pos_iff.2 hx
theorem RA.dead_of {b : Int} (h : A.blk b = []) : A.is b = false := by unfold RA.is; rw [h]; rfl
theorem blk_put_ne {j : Nat} {b : Int} (hb : b ≠ (j : Int) + 1) (y : List Int) : (A.put ((j : Int) + 1) y).blk b = A.blk b := by
  unfold RA.blk RA.put
  have e1 : ((j : Int) + 1 - 1).toNat = j := by omega
  simp only [e1, List.length_set]
  split
  · rfl
  · rw [List.getD_eq_getElem?_getD, List.getD_eq_getElem?_getD, List.getElem?_set_ne (by omega)]
theorem blk_put_same {j : Nat} (hj : j < A.blocks.length) (y : List Int) : (A.put ((j : Int) + 1) y).blk ((j : Int) + 1) = y := by
  rw [RA.blk_in (by simpa [RA.put] using hj)]
  simp [RA.put]
theorem blk_alloc {b : Int} (hb : b ≤ A.blocks.length) (n : Int) : (A.alloc n).blk b = A.blk b := by
  unfold RA.alloc
  split
  · unfold RA.blk
    by_cases h : b < 1
    · rw [if_pos (.inl h), if_pos (.inl h)]
    · rw [if_neg (by simp; omega), if_neg (by omega)]
      rw [List.getD_eq_getElem?_getD, List.getD_eq_getElem?_getD, List.getElem?_append_left (by omega)]
  · rfl
theorem blk_reach (c b : Int) : (A.reach c).blk b = A.blk b := by
  unfold RA.reach
  split <;> rfl
theorem ask_other {b c : Int} {xs : List Int} (h : A.blk b = xs) (hx : xs ≠ []) (hc : c ≠ b) (kd i x y : Int) : (askR A kd c i x y).blk b = xs := by
  obtain ⟨j, hj0, hj, _⟩ := RA.in_of h hx
  have hput : ∀ z, A.is c = true → (A.put c z).blk b = A.blk b := by
    intro z hz
    obtain ⟨j', rfl, _, _⟩ := RA.is_in hz
    exact blk_put_ne (Ne.symm hc) z
  have hset : ∀ z, A.reachErr c i = 0 → (A.set c i z).blk b = A.blk b := by
    intro z hz
    obtain ⟨j', ii, rfl, rfl, _⟩ := RA.reach_ok hz
    exact blk_put_ne (Ne.symm hc) _
  rw [← h]
  unfold askR
  split
  · exact blk_alloc (by omega) _
  split
  · unfold RA.free
    split
    · rename_i hz; exact hput _ hz
    · rfl
  split
  · exact blk_reach _ _
  split
  · unfold cellR
    split
    · exact blk_reach _ _
    rename_i hz
    have hz := Classical.not_not.1 hz
    split
    · rfl
    split
    · exact hset _ hz
    split
    · split
      · exact hset _ hz
      · rfl
    · exact hset _ hz
  · rfl
theorem live_load {b : Int} {xs : List Int} (h : A.blk b = xs) {i : Nat} (hi : i < xs.length) : (abs A).touch b = abs A ∧ (abs A).val b i = xs[i] ∧ (abs A).err b i = 0 := by
  have hx : xs ≠ [] := by intro h0; rw [h0] at hi; simp at hi
  have his := RA.is_of h hx
  have he : A.reachErr b i = 0 := by
    unfold RA.reachErr
    rw [if_pos his, h, if_neg (by omega)]
  refine ⟨?_, ?_, by rw [abs_err, he]⟩
  · rw [abs_touch, RA.reach_same he]
  · rw [abs_val]
    unfold cellOld
    rw [if_pos he, h, Int.toNat_natCast, List.getD_eq_getElem?_getD, List.getElem?_eq_getElem hi]
    rfl
theorem dead_err {b : Int} (h : A.is b = false) (i : Int) : (abs A).err b i = 20 := by
  rw [abs_err]
  unfold RA.reachErr
  rw [if_neg (by simp [h])]
theorem dead_touch {b : Int} (h : A.is b = false) : (abs A).touch b = abs A.fault := by
  rw [abs_touch]
  unfold RA.reach
  rw [if_neg (by simp [h])]
theorem dead_store {b : Int} (h : A.is b = false) (i v : Int) : (abs A).store b i v = abs A.fault := by
  rw [abs_store, if_neg, RA.reach, if_neg (by simp [h])]
  unfold RA.reachErr
  rw [if_neg (by simp [h])]
  decide
theorem dead_fault {b : Int} (h : A.is b = false) : A.fault.is b = false := h
theorem live_size {b : Int} : (abs A).size b = ((A.blk b).length : Int) := abs_size b
end
section
variable {w : World} {own : Nat → Nat} {k a : Nat} {A : RA}
/-- Beside the empty arena: only what the arena becomes is told. -/
theorem asks_none (hS : Arena w own k a (abs A)) (hf : 0 ≤ A.faults ∧ A.faults < 1000000000000000) (hm : A.blocks.length < 1000000000000000) (kd b i x y : Int) :
    Calls Try.prog 29 #[.pointer (some ⟨a, 0, none⟩), .agg #[.slice none 0 0, .int .i64 0, .int .i64 0], .agg #[.int .i64 kd, .int .i64 b, .int .i64 i, .int .i64 x, .int .i64 y]] w fun e w' =>
      ∃ v' ok own', e = .returned (.tuple #[v', .bool ok]) ∧ Ext (fun c => c = k) w w' own own' ∧ Arena w' own' k a (abs (askR A kd b i x y)) := by
  refine (asks_any hS (RefA.empty w own (k + 1)) (by omega) (show A.faults < 1000000000000000 by omega) (show ((A.blocks.length : Nat) : Int) < 1000000000000000 by omega) (by decide) (by decide) (by decide) kd b i x y).mono ?_
  rintro e w' ⟨v', own', rfl, hE, hS', _⟩
  rw [(abs_ask kd b i x y).2] at hS'
  exact ⟨v', _, own', rfl, hE, hS'⟩
end

/-! ### the walk -/
def Ap1 (w0 : World) (a N : Nat) (g : Nat) (iv : Value) (w : World) : Prop :=
  ∃ (own : Nat → Nat) (i : Nat) (A : RA), iv = .int .i64 i ∧ i + g = N ∧ A.blocks.length ≤ i ∧ (0 ≤ A.faults ∧ A.faults ≤ i) ∧ Arena w own 1 a (abs A) ∧ Ext (fun c => c ≠ 0) w0 w (fun _ => 0) own
def Ap2 (w0 : World) (a : Nat) (A : RA) (xs : List Int) (g : Nat) (wv iv : Value) (w : World) : Prop :=
  ∃ (own : Nat → Nat) (i : Nat), iv = .int .i64 i ∧ i + g = xs.length ∧ Row w own 3 2 1 wv i (longs (xs.take i)) ∧ Arena w own 1 a (abs A) ∧ Ext (fun c => c ≠ 0) w0 w (fun _ => 0) own
def Ap3 (w0 : World) (a N M0 : Nat) (b : Int) (xs : List Int) (wv : Value) (g : Nat) (iv : Value) (w : World) : Prop :=
  ∃ (own : Nat → Nat) (i : Nat) (A : RA), iv = .int .i64 i ∧ i + g = N ∧ A.blocks.length ≤ M0 + i ∧ (0 ≤ A.faults ∧ A.faults ≤ M0 + 1 + i) ∧ (xs ≠ [] → A.blk b = xs) ∧
    Row w own 3 2 1 wv xs.length (longs xs) ∧ Arena w own 1 a (abs A) ∧ Ext (fun c => c ≠ 0) w0 w (fun _ => 0) own
def Ap4 (w0 : World) (a : Nat) (A : RA) (xs : List Int) (wv : Value) (g : Nat) (iv : Value) (w : World) : Prop :=
  ∃ (own : Nat → Nat) (i : Nat), iv = .int .i64 i ∧ i + g = xs.length ∧ Row w own 3 2 1 wv xs.length (longs xs) ∧ Arena w own 1 a (abs A) ∧ Ext (fun c => c ≠ 0) w0 w (fun _ => 0) own
set_option maxHeartbeats 8000000 in
theorem cellsApart_walk (w : World) (v : Value) (n b0 off : Nat) (f : Nat → Nat → Int) (hp : Recs Try.prog 51 5 w v n b0 off f)
    (v' : Value) (n' b0' off' : Nat) (f' : Nat → Nat → Int) (hp' : Recs Try.prog 51 5 w v' n' b0' off' f') (b : Int) (hb : -9223372036854775808 ≤ b ∧ b ≤ 9223372036854775807) :
    Calls Try.prog 6 #[v, v', .int .i64 b] w fun e w' => e = .returned (.bool true) ∧ Below w.heap.size w w' := by
  have hlen := hp.len
  have hidx := hp.idx
  have hsz := hp.size
  have hlen' := hp'.len
  have hidx' := hp'.idx
  have hsz' := hp'.size
  go_enter Try.func6, Try.ntmps6
  go_wp2_with fail
  refine (New_any 3000 1 (fun _ => 0) w).mono ?_
  rintro e w1 ⟨rfl, hB, hA⟩
  have h01 : Ext (fun c => c ≠ 0) w w1 (fun _ => 0) (ow (fun _ => 0) w.heap.size 1) := Ext.of_below hB _ _
  generalize ow (fun _ => 0) w.heap.size 1 = own1 at *
  generalize w.heap.size + 1 = a at *
  have H := Lib.hid h01
  clear h01 hB
  go_wp2_with fail
  refine (alive_any w1).mono ?_
  rintro e w2 ⟨rfl, hB⟩
  have h12 : Ext (fun c => c ≠ 0) w1 w2 own1 (ow own1 w1.heap.size 2) := Ext.of_below hB _ _
  have hA2 := hA.ext (M := fun _ => False) (Ext.of_below hB _ 2) (by simp)
  have hinv : Ap1 w a n n (.int .i64 0) w2 := ⟨_, 0, RA.fresh 3000, rfl, by omega, by simp [RA.fresh], by simp [RA.fresh], hA2, H.out.trans h12⟩
  have HINV := Lib.hid hinv
  clear h12 hB hA H hA2 hinv
  go_wp2_with fail
  go_loopg [34] n (fun g iv wr => Ap1 w a n g iv wr)
  case atStart => exact HINV.out
  case round =>
    clear HINV
    obtain ⟨own, i, A, rfl, hi, hl, hfl, hA, hE⟩ := hrel
    have HE := Lib.hid hE
    clear hE
    by_cases hlt : i < n
    · have hlt2 : (i : Int) < n := by omega
      have c0 := hp.at_ (HE.out.below (by simp)) hlt (show 0 < 5 by omega)
      have c1 := hp.at_ (HE.out.below (by simp)) hlt (show 1 < 5 by omega)
      have c2 := hp.at_ (HE.out.below (by simp)) hlt (show 2 < 5 by omega)
      have c3 := hp.at_ (HE.out.below (by simp)) hlt (show 3 < 5 by omega)
      have c4 := hp.at_ (HE.out.below (by simp)) hlt (show 4 < 5 by omega)
      rw [Nat.add_zero] at c0
      generalize f i 0 = kd at *
      generalize f i 1 = bb at *
      generalize f i 2 = ii at *
      generalize f i 3 = x at *
      generalize f i 4 = y at *
      have hX : ∀ M, Ext M wr (wr.alloc (.cells #[.int .i64 kd, .int .i64 bb, .int .i64 ii, .int .i64 x, .int .i64 y] 53)) own (ow own wr.heap.size 2) := fun M => (Ext.refl.ow 2).alloc _
      have hA' := hA.ext (hX (fun _ => False)) (by simp)
      have HE' := Lib.hid (HE.out.trans (hX _))
      clear hA HE hX
      go_wp2_with fail
      generalize wr.alloc (.cells #[.int .i64 kd, .int .i64 bb, .int .i64 ii, .int .i64 x, .int .i64 y] 53) = wa at *
      generalize ow own wr.heap.size 2 = own2 at *
      refine (asks_none hA' (by omega) (by omega) kd bb ii x y).mono ?_
      rintro e w4 ⟨u', ok, own4, rfl, hE4, hA4⟩
      obtain ⟨hst1, hst2, hst3⟩ := Step.ask (A := A) kd bb ii x y
      have HE4 := Lib.hid (HE'.out.trans (hE4.mono (M' := fun c => c ≠ 0) (by simp)))
      generalize askR A kd bb ii x y = A4 at *
      clear hE4 HE' hA' c0 c1 c2 c3 c4 hst1
      go_wp2_with fail
      go_roundg (n - (i + 1))
      case measure => omega
      case rel => exact ⟨own4, i + 1, A4, by go_num, by omega, by omega, by omega, hA4, HE4.out⟩
    · obtain rfl : i = n := by omega
      go_wp2_with fail
      have hsm := blk_small hA b
      obtain ⟨xs, hxs⟩ : ∃ xs, A.blk b = xs := ⟨_, rfl⟩
      rw [hxs] at hsm
      refine (calls_as (r' := .tuple #[.int .i64 xs.length, .int .i64 (A.freeErr b)]) (V' := abs (A.reach b)) (Size_any hA (show A.faults < 1000000000000000 by omega) b) (by rw [abs_size, abs_freeErr, hxs]) (abs_touch b)).mono ?_
      rintro e w5 ⟨rfl, own5, hE5, hA5⟩
      have hxs5 : (A.reach b).blk b = xs := by rw [blk_reach, hxs]
      have hfe : xs ≠ [] → A.freeErr b = 0 := fun h => by unfold RA.freeErr; rw [if_pos (RA.is_of hxs h)]
      have hfe0 : xs = [] → A.freeErr b = 20 := fun h => by subst h; unfold RA.freeErr; rw [if_neg (by rw [RA.dead_of hxs]; decide)]
      obtain ⟨hst1, hst2, hst3⟩ := Step.reach (A := A) b
      have hl5 : (A.reach b).blocks.length ≤ i := by unfold RA.reach; split <;> exact hl
      have HE5 := Lib.hid (HE.out.trans (hE5.mono (M' := fun c => c ≠ 0) (by simp)))
      have HX := Lib.hid hxs5
      have HF := Lib.hid hfe
      have HF0 := Lib.hid hfe0
      generalize A.reach b = A5 at *
      generalize A.freeErr b = fe at *
      clear hE5 hA HE hxs hxs5 hfe hfe0 hst1 hst2 hl
      have hX : ∀ M o, Ext M w5 (w5.alloc o) own5 (ow own5 w5.heap.size 3) := fun M o => (Ext.refl.ow 3).alloc o
      have HXX := Lib.hid hX
      clear hX
      go_wp2_with fail
      go_loopg [12, 13] xs.length (fun g wv iv wr => Ap2 w a A5 xs g wv iv wr)
      case atStart =>
        exact ⟨ow own5 w5.heap.size 3, 0, rfl, by omega, Row.start (Blk.new w5 _ (ow_ge (Nat.le_refl _))), hA5.ext (HXX.out (fun _ => False) _) (by simp), HE5.out.trans (HXX.out _ _)⟩
      case round =>
        clear HXX hA5 HE5
        obtain ⟨own, k, rfl, hk, hr, hA, hE⟩ := hrel
        have HE := Lib.hid hE
        clear hE
        by_cases hlt : k < xs.length
        · have hlt2 : (k : Int) < xs.length := by omega
          obtain ⟨l1, l2, l3⟩ := live_load HX.out hlt
          have HTA := Lib.hid (show xs.take (k + 1) = xs.take k ++ [xs[k]] from List.take_succ_eq_append_getElem hlt)
          have hn7 : k ≤ 7000000000000 := by omega
          have HLD := Lib.hid (calls_as (r' := .tuple #[.int .i64 xs[k], .int .i64 0]) (V' := abs A5) (Load_any hA (show A5.faults < 1000000000000000 by omega) b k) (by rw [l2, l3]) l1)
          clear l1 l2 l3
          go_wp2_with fail
          refine HLD.out.mono ?_
          rintro e w6 ⟨rfl, own6, hE6, hA6⟩
          have hr6 := hr.ext hE6 (by simp)
          have HE6 := Lib.hid (HE.out.trans (hE6.mono (M' := fun c => c ≠ 0) (by simp)))
          clear hE6 hA hr HE HLD
          go_wp2_with (at_builtin; refine wpList_append_long rfl _ _ rfl _ rfl hr6 hn7 rfl (by simp) ?_; intro v1 wa owna hra hEa)
          go_roundg (xs.length - (k + 1))
          case measure => omega
          case rel => exact ⟨owna, k + 1, by go_num, by omega, by rw [HTA.out]; exact hra, hA6.ext hEa (by simp), HE6.out.trans (hEa.mono (by simp))⟩
        · obtain rfl : k = xs.length := by omega
          rw [List.take_length] at hr
          obtain ⟨ra, rc, rfl⟩ := hr.shape
          have hinv : Ap3 w a n' i b xs (.slice ra xs.length rc) n' (.int .i64 0) wr := ⟨own, 0, A5, rfl, by omega, by omega, by omega, fun _ => HX.out, hr, hA, HE.out⟩
          have HINV := Lib.hid hinv
          clear hinv HE hA hr hl5 hst3 HX
          go_wp2_with fail
          go_loopg [68] n' (fun g iv wr => Ap3 w a n' i b xs (.slice ra xs.length rc) g iv wr)
          case atStart => exact HINV.out
          case round =>
            clear HINV
            obtain ⟨own, m, A, rfl, hm, hl, hfl, hbk, hr, hA, hE⟩ := hrel
            have HE := Lib.hid hE
            have HBK := Lib.hid hbk
            clear hE hbk
            by_cases hlt : m < n'
            · have hlt2 : (m : Int) < n' := by omega
              have c0 := hp'.at_ (HE.out.below (by simp)) hlt (show 0 < 5 by omega)
              have c1 := hp'.at_ (HE.out.below (by simp)) hlt (show 1 < 5 by omega)
              have c2 := hp'.at_ (HE.out.below (by simp)) hlt (show 2 < 5 by omega)
              have c3 := hp'.at_ (HE.out.below (by simp)) hlt (show 3 < 5 by omega)
              have c4 := hp'.at_ (HE.out.below (by simp)) hlt (show 4 < 5 by omega)
              rw [Nat.add_zero] at c0
              generalize f' m 0 = kd at *
              generalize f' m 1 = bb at *
              generalize f' m 2 = ii at *
              generalize f' m 3 = x at *
              generalize f' m 4 = y at *
              have hX : ∀ M, Ext M wr (wr.alloc (.cells #[.int .i64 kd, .int .i64 bb, .int .i64 ii, .int .i64 x, .int .i64 y] 53)) own (ow own wr.heap.size 2) := fun M => (Ext.refl.ow 2).alloc _
              have hA' := hA.ext (hX (fun _ => False)) (by simp)
              have hr' := hr.ext (hX (fun _ => False)) (by simp)
              have HE' := Lib.hid (HE.out.trans (hX _))
              clear hA hr HE hX
              by_cases hbb : bb = b
              · have bne : (bb != b) = false := by simp [hbb]
                clear hbb
                go_wp2_with fail
                go_roundg (n' - (m + 1))
                case measure => omega
                case rel => exact ⟨_, m + 1, A, by go_num, by omega, by omega, by omega, HBK.out, hr', hA', HE'.out⟩
              · have bne : (bb != b) = true := by simp [hbb]
                have HBB := Lib.hid hbb
                clear hbb
                go_wp2_with fail
                generalize wr.alloc (.cells #[.int .i64 kd, .int .i64 bb, .int .i64 ii, .int .i64 x, .int .i64 y] 53) = wa at *
                generalize ow own wr.heap.size 2 = own2 at *
                refine (asks_none hA' (by omega) (by omega) kd bb ii x y).mono ?_
                rintro e w7 ⟨u', ok, own7, rfl, hE7, hA7⟩
                obtain ⟨hst1, hst2, hst3⟩ := Step.ask (A := A) kd bb ii x y
                have HB7 := Lib.hid (show xs ≠ [] → (askR A kd bb ii x y).blk b = xs from fun h => ask_other (HBK.out h) h HBB.out kd ii x y)
                have hr7 := hr'.ext hE7 (by simp)
                have HE7 := Lib.hid (HE'.out.trans (hE7.mono (M' := fun c => c ≠ 0) (by simp)))
                generalize askR A kd bb ii x y = A7 at *
                clear hE7 HE' hA' hr' HBK HBB c0 c1 c2 c3 c4 hst1
                go_wp2_with fail
                go_roundg (n' - (m + 1))
                case measure => omega
                case rel => exact ⟨own7, m + 1, A7, by go_num, by omega, by omega, by omega, HB7.out, hr7, hA7, HE7.out⟩
            · obtain rfl : m = n' := by omega
              by_cases hxe : xs = []
              · have hfe := HF0.out hxe
                subst hfe
                clear HF HF0 HBK hr hxe
                by_cases his : A.is b = true
                · obtain ⟨j, rfl, hj, hjp⟩ := RA.is_in his
                  have he : A.reachErr ((j : Int) + 1) 0 = 0 := by
                    unfold RA.reachErr
                    rw [if_pos his, RA.blk_in hj, if_neg (by omega)]
                  have HLD := Lib.hid (calls_as (r' := .tuple #[.int .i64 ((abs A).val ((j : Int) + 1) 0), .int .i64 0]) (V' := abs A) (Load_any hA (show A.faults < 1000000000000000 by omega) ((j : Int) + 1) 0) (by rw [abs_err, he]) (by rw [abs_touch, RA.reach_same he]))
                  have hj1 : (j : Int) + 1 ≤ A.blocks.length := by omega
                  have hj2 : 0 < (j : Int) + 1 := by omega
                  clear his he hjp
                  go_wp2_with fail
                  refine HLD.out.mono ?_
                  rintro e w6 ⟨rfl, own6, hE6, hA6⟩
                  have HE6 := Lib.hid (HE.out.trans (hE6.mono (M' := fun c => c ≠ 0) (by simp)))
                  have HMD := Lib.hid (show Calls Try.prog 27 #[.pointer (some ⟨a, 0, none⟩)] w6 fun e w' => e = .returned (.int .i64 (A.blocks.length : Nat)) ∧ w6 = w' from Made_any hA6)
                  clear hE6 hA HE hA6
                  go_wp2_with fail
                  refine HMD.out.mono ?_
                  rintro e w7 ⟨rfl, rfl⟩
                  go_wp2_with fail
                  go_ret
                  exact ⟨by simp, HE6.out.below (by simp)⟩
                · have his : A.is b = false := by simpa using his
                  have HLD := Lib.hid (calls_as (r' := .tuple #[.int .i64 ((abs A).val b 0), .int .i64 20]) (V' := abs A.fault) (Load_any hA (show A.faults < 1000000000000000 by omega) b 0) (by rw [dead_err his]) (dead_touch his))
                  go_wp2_with fail
                  refine HLD.out.mono ?_
                  rintro e w6 ⟨rfl, own6, hE6, hA6⟩
                  have HE6 := Lib.hid (HE.out.trans (hE6.mono (M' := fun c => c ≠ 0) (by simp)))
                  clear hE6 hA HE hA6
                  go_wp2_with fail
                  go_ret
                  exact ⟨rfl, HE6.out.below (by simp)⟩
              · have hfe := HF.out hxe
                subst hfe
                have hbk := HBK.out hxe
                clear HF HF0 HBK
                have his := RA.is_of hbk hxe
                obtain ⟨j, rfl, hj, hjx⟩ := RA.in_of hbk hxe
                have HBJ := Lib.hid hbk
                have HIS := Lib.hid his
                clear hbk his hjx hxe
                go_wp2_with fail
                go_loopg [107] xs.length (fun g iv wr => Ap4 w a A xs (.slice ra xs.length rc) g iv wr)
                case atStart => exact ⟨own, 0, rfl, by omega, hr, hA, HE.out⟩
                case round =>
                  clear hr hA HE
                  obtain ⟨own, q, rfl, hq, hr, hA, hE⟩ := hrel
                  have HE := Lib.hid hE
                  clear hE
                  by_cases hlt : q < xs.length
                  · have hlt2 : (q : Int) < xs.length := by omega
                    obtain ⟨l1, l2, l3⟩ := live_load HBJ.out hlt
                    have HLD := Lib.hid (calls_as (r' := .tuple #[.int .i64 xs[q], .int .i64 0]) (V' := abs A) (Load_any hA (show A.faults < 1000000000000000 by omega) ((j : Int) + 1) q) (by rw [l2, l3]) l1)
                    clear l1 l2 l3
                    go_wp2_with fail
                    refine HLD.out.mono ?_
                    rintro e w6 ⟨rfl, own6, hE6, hA6⟩
                    have hr6 := hr.ext hE6 (by simp)
                    have HR6 := Lib.hid hr6
                    have HE6 := Lib.hid (HE.out.trans (hE6.mono (M' := fun c => c ≠ 0) (by simp)))
                    clear hE6 hA hr HE HLD
                    obtain ⟨gy, rfl, hgy, _, _, hxi, hcy⟩ := Row.long_at hr6 hlt
                    clear hr6
                    generalize xs[q] = xq at *
                    go_wp2_with fail
                    go_roundg (xs.length - (q + 1))
                    case measure => omega
                    case rel => exact ⟨own6, q + 1, by go_num, by omega, HR6.out, hA6, HE6.out⟩
                  · obtain rfl : q = xs.length := by omega
                    have HFR := Lib.hid (calls_as (r' := .int .i64 0) (V' := abs (A.put ((j : Int) + 1) [])) (Free_any hA (show A.faults < 1000000000000000 by omega) ((j : Int) + 1)) (by rw [abs_freeErr, RA.freeErr, if_pos HIS.out]) (by rw [abs_free, RA.free, if_pos HIS.out]))
                    have hd5 : (A.put ((j : Int) + 1) []).blk ((j : Int) + 1) = [] := blk_put_same hj []
                    have hl5 : (A.put ((j : Int) + 1) []).blocks.length = A.blocks.length := by simp [RA.put]
                    have hf5 : (A.put ((j : Int) + 1) []).faults = A.faults := rfl
                    have HD5 := Lib.hid hd5
                    have HL5 := Lib.hid hl5
                    have HF5 := Lib.hid hf5
                    clear hd5 hl5 hf5 hr
                    generalize A.put ((j : Int) + 1) [] = A5 at *
                    go_wp2_with fail
                    refine HFR.out.mono ?_
                    rintro e w6 ⟨rfl, own6, hE6, hA6⟩
                    have HE6 := Lib.hid (HE.out.trans (hE6.mono (M' := fun c => c ≠ 0) (by simp)))
                    have HAL := Lib.hid (calls_as (r' := .tuple #[.int .i64 ((abs A5).allocId xs.length), .int .i64 ((abs A5).allocErr xs.length)]) (V' := abs (A5.alloc xs.length)) (Alloc_any hA6 (show ((A5.blocks.length : Nat) : Int) < 1000000000000000 by rw [HL5.out]; omega) xs.length) rfl (abs_alloc _))
                    have HD6 := Lib.hid (show (A5.alloc xs.length).is ((j : Int) + 1) = false from RA.dead_of (by rw [blk_alloc (by rw [HL5.out]; omega), HD5.out]))
                    have HF6 := Lib.hid (show 0 ≤ (A5.alloc xs.length).faults ∧ (A5.alloc xs.length).faults < 900000000000000 by
                      have : (A5.alloc xs.length).faults = A5.faults := by unfold RA.alloc; split <;> rfl
                      rw [this, HF5.out]; omega)
                    generalize A5.alloc xs.length = A6 at *
                    clear hE6 hA HE HFR hA6
                    go_wp2_with fail
                    refine HAL.out.mono ?_
                    rintro e w7 ⟨rfl, own7, hE7, hA7⟩
                    have HE7 := Lib.hid (HE6.out.trans (hE7.mono (M' := fun c => c ≠ 0) (by simp)))
                    have HLD := Lib.hid (calls_as (r' := .tuple #[.int .i64 ((abs A6).val ((j : Int) + 1) 0), .int .i64 20]) (V' := abs A6.fault) (Load_any hA7 (show A6.faults < 1000000000000000 by have := HF6.out; omega) ((j : Int) + 1) 0) (by rw [dead_err HD6.out]) (dead_touch HD6.out))
                    clear hE7 HE6 HAL hA7
                    go_wp2_with fail
                    refine HLD.out.mono ?_
                    rintro e w8 ⟨rfl, own8, hE8, hA8⟩
                    have HE8 := Lib.hid (HE7.out.trans (hE8.mono (M' := fun c => c ≠ 0) (by simp)))
                    have HST := Lib.hid (calls_as (r' := .int .i64 20) (V' := abs A6.fault.fault) (Store_any hA8 (show A6.faults + 1 < 1000000000000000 by have := HF6.out; omega) ((j : Int) + 1) 0 1) (by rw [dead_err (dead_fault HD6.out)]) (dead_store (dead_fault HD6.out) 0 1))
                    clear hE8 HE7 HLD hA8
                    go_wp2_with fail
                    refine HST.out.mono ?_
                    rintro e w9 ⟨rfl, own9, hE9, hA9⟩
                    have HE9 := Lib.hid (HE8.out.trans (hE9.mono (M' := fun c => c ≠ 0) (by simp)))
                    have HFE := Lib.hid (calls_as (r' := .int .i64 20) (V' := (abs A6.fault.fault).free ((j : Int) + 1)) (Free_any hA9 (show A6.faults + 1 + 1 < 1000000000000000 by have := HF6.out; omega) ((j : Int) + 1)) (by rw [abs_freeErr, RA.freeErr, if_neg (by rw [dead_fault (dead_fault HD6.out)]; decide)]) rfl)
                    clear hE9 HE8 HST hA9
                    go_wp2_with fail
                    refine HFE.out.mono ?_
                    rintro e w10 ⟨rfl, own10, hE10, hA10⟩
                    have HE10 := Lib.hid (HE9.out.trans (hE10.mono (M' := fun c => c ≠ 0) (by simp)))
                    clear hE10 HE9 HFE hA10
                    go_wp2_with fail
                    go_ret
                    exact ⟨rfl, HE10.out.below (by simp)⟩
end Go.Proofs.Ytemibcglhbjaoaa
