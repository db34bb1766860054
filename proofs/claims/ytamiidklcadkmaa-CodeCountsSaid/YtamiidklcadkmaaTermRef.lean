/- The document's functions on terms (pythiaref07): what they answer, over plain terms. -/
import Derived.Test.YtamiidklcadkmaaTerms
import Derived.Test.YtamiidklcadkmaaLongs
import Derived.Test.YtamiidklcadkmaaRes
import Derived.Test.YtamiidklcadkmaaPlan2
import Derived.Lib.Hide
import Derived.Deep.LoopGhost
set_option maxRecDepth 20000
set_option linter.unusedVariables false
set_option linter.unusedSimpArgs false
namespace Go.Proofs.Ytamiidklcadkmaa
open Go.RowKit Go.PM
mutual
def Tm.sizeN : Tm → Int → Int
  | .mk k _ _ ls, m => if k = 4 then Tms.sizeN ls 1 m else 1
def Tms.sizeN : List Tm → Int → Int → Int
  | [], n, _ => n
  | t :: ts, n, m => if n ≤ m then Tms.sizeN ts (n + Tm.sizeN t (m - n)) m else n
end
theorem sizeN_le : ∀ t m, 1 ≤ Tm.sizeN t m ∧ Tm.sizeN t m ≤ max 1 (m + 1) := by
  refine Tm.ind fun k s x ls ih m => ?_
  have key : ∀ l : List Tm, (∀ t ∈ l, ∀ m, 1 ≤ Tm.sizeN t m ∧ Tm.sizeN t m ≤ max 1 (m + 1)) → ∀ n, n ≤ max 1 (m + 1) → n ≤ Tms.sizeN l n m ∧ Tms.sizeN l n m ≤ max 1 (m + 1) := by
    intro l
    induction l with
    | nil => intro _ n hn; unfold Tms.sizeN; omega
    | cons t ts iht =>
      intro h n hn
      unfold Tms.sizeN
      split
      · have h1 := h t (by simp) (m - n)
        have := iht (fun u hu => h u (List.mem_cons_of_mem _ hu)) (n + Tm.sizeN t (m - n)) (by omega)
        omega
      · omega
  unfold Tm.sizeN
  split
  · have := key ls ih 1 (by omega)
    omega
  · omega
def SzInv (w0 : World) (ts : List Tm) (m r : Int) (g : Nat) (nv iv : Value) (w : World) : Prop :=
  ∃ (i : Nat) (n : Int), iv = .int .i64 i ∧ i + g = ts.length ∧ nv = .int .i64 n ∧ 1 ≤ n ∧ n ≤ max 1 (m + 1) ∧ Tms.sizeN (ts.drop i) n m = r ∧ Below w0.heap.size w0 w
set_option maxHeartbeats 2000000 in
theorem Size_any : ∀ (t : Tm) (w : World) (C : Nat → Prop) (v : Value) (m : Int), TmV w C t v → -9000000000000000000 ≤ m → m ≤ 9000000000000000000 →
    Calls Try.prog 33 #[v, .int .i64 m] w fun e w' => e = .returned (.int .i64 (Tm.sizeN t m)) ∧ Below w.heap.size w w' := by
  refine Tm.ind fun k s x ls ih w C v m hv hm1 hm2 => ?_
  obtain ⟨sl, rfl, wk, ws, wx, hat⟩ := hv
  have HAT := Lib.hid hat
  have IH := Lib.hid ih
  have HR := Lib.hid (show Tm.sizeN (.mk k s x ls) m = if k = 4 then Tms.sizeN ls 1 m else 1 by unfold Tm.sizeN; rfl)
  have hk1 : Tm.k (.mk k s x ls) = k := rfl
  have hs1 : Tm.s (.mk k s x ls) = s := rfl
  have hx1 : Tm.x (.mk k s x ls) = x := rfl
  rw [hk1, hs1, hx1]
  rw [hk1] at wk
  clear hat ih hk1 hs1 hx1 ws wx
  unfold Tm.At at HAT
  by_cases h4 : k = 4
  · subst h4
    rw [if_pos rfl] at HR
    generalize Tm.sizeN (.mk 4 s x ls) m = r at *
    rcases HAT.out with ⟨hl, a, c, rfl⟩ | ⟨hl, g, off, c, rfl, hg, hc, hts⟩
    · subst hl
      have hr : r = 1 := by rw [HR.out]; unfold Tms.sizeN; rfl
      subst hr
      clear HAT HR
      go_enter Try.func33, Try.ntmps33
      go_wp2_with fail
      go_loopg [5, 6] 0 (fun g nv iv wr => iv = .int .i64 0 ∧ nv = .int .i64 1 ∧ wr = w.alloc (.cells #[.int .i64 4, .string s, .int .i64 x, .slice a 0 c] 24))
      case atStart => exact ⟨rfl, rfl, rfl⟩
      case round =>
        obtain ⟨rfl, rfl, rfl⟩ := hrel
        go_wp2_with fail
        go_ret
        exact ⟨rfl, (Below.refl _ _).alloc (Nat.le_refl _) _⟩
    · have HTS := Lib.hid hts
      have HRR := Lib.hid HR.out
      clear hts HAT HR
      go_enter Try.func33, Try.ntmps33
      go_wp2_with fail
      have hbx : (w.alloc (.cells #[.int .i64 4, .string s, .int .i64 x, .slice (some ⟨g, off, none⟩) ls.length c] 24)).cell? ⟨w.heap.size, 3, none⟩ = some (.slice (some ⟨g, off, none⟩) ls.length c) := (Blk.new (own := fun _ => 0) (k := 0) w _ rfl).cell 3
      have hbs : w.heap.size < (w.alloc (.cells #[.int .i64 4, .string s, .int .i64 x, .slice (some ⟨g, off, none⟩) ls.length c] 24)).heap.size := by rw [World.size_alloc]; omega
      have hB0 : Below w.heap.size w (w.alloc (.cells #[.int .i64 4, .string s, .int .i64 x, .slice (some ⟨g, off, none⟩) ls.length c] 24)) := (Below.refl _ _).alloc (Nat.le_refl _) _
      generalize hw0 : w.alloc (.cells #[.int .i64 4, .string s, .int .i64 x, .slice (some ⟨g, off, none⟩) ls.length c] 24) = w1 at *
      go_loopg [5, 6] ls.length (fun g nv iv wr => SzInv w1 ls m r g nv iv wr)
      case atStart => exact ⟨0, 1, rfl, by omega, rfl, by omega, by omega, HRR.out.symm, Below.refl _ _⟩
      case round =>
        obtain ⟨i, n, rfl, hi, rfl, hn1, hn2, hr, hB⟩ := hrel
        have HB := Lib.hid hB
        have hb3 : wr.cell? ⟨w.heap.size, 3, none⟩ = some (.slice (some ⟨g, off, none⟩) ls.length c) := by rw [hB.cell hbs]; exact hbx
        have HBW : Hid (Below w.heap.size w wr) := Lib.hid (hB0.trans (hB.mono hB0.size))
        clear hB
        by_cases hlt : i < ls.length
        · have hlt2 : (i : Int) < ls.length := by omega
          rw [List.drop_eq_getElem_cons hlt] at hr
          unfold Tms.sizeN at hr
          by_cases hnm : n ≤ m
          · rw [if_pos hnm] at hr
            have HRR2 := Lib.hid hr
            obtain ⟨q0, q1, q2, w0, w1', w2, sl2, q3, ha2⟩ := Tms.at_get HTS.out hlt
            have hsz := sizeN_le ls[i] (m - n)
            have HI := Lib.hid (IH.out ls[i] (List.getElem_mem hlt) wr C _ (m - n) (TmV.carry ⟨sl2, rfl, w0, w1', w2, ha2⟩ HBW.out.size fun g hg hc => ⟨HBW.out.block g hg, hc⟩) (by omega) (by omega))
            rw [← HBW.out.cell (p := ⟨g, off + i * 4, none⟩) hg] at q0
            rw [← HBW.out.cell (p := ⟨g, off + i * 4 + 1, none⟩) hg] at q1
            rw [← HBW.out.cell (p := ⟨g, off + i * 4 + 2, none⟩) hg] at q2
            rw [← HBW.out.cell (p := ⟨g, off + i * 4 + 3, none⟩) hg] at q3
            clear ha2 hr w0 w1' w2
            generalize Tm.k ls[i] = k1 at *
            generalize Tm.s ls[i] = s1 at *
            generalize Tm.x ls[i] = x1 at *
            generalize Tm.sizeN ls[i] (m - n) = z at *
            go_wp2_with fail
            refine HI.out.mono ?_
            rintro e w5 ⟨rfl, hB5⟩
            have HB5 := Lib.hid (HB.out.trans (hB5.mono HB.out.size))
            clear hB5 HI q0 q1 q2 q3 hb3 HB HBW
            go_wp2_with fail
            go_roundg (ls.length - (i + 1))
            case measure => omega
            case rel => exact ⟨i + 1, n + z, by go_num, by omega, rfl, by omega, by omega, HRR2.out, HB5.out⟩
          · rw [if_neg hnm] at hr
            subst hr
            go_wp2_with fail
            go_ret
            exact ⟨rfl, HBW.out⟩
        · obtain rfl : i = ls.length := by omega
          rw [List.drop_length] at hr
          have hr : n = r := by rw [← hr]; unfold Tms.sizeN; rfl
          subst hr
          go_wp2_with fail
          go_ret
          exact ⟨rfl, HBW.out⟩
  · rw [if_neg h4] at HR
    have hb : (k == 4) = false := by simp [h4]
    go_enter Try.func33, Try.ntmps33
    go_wp2_with fail
    go_ret
    exact ⟨by rw [HR.out]; rfl, (Below.refl _ _).alloc (Nat.le_refl _) _⟩
/-! ### helpers -/
theorem elem_facts {w wr : World} {C : Nat → Prop} {ls : List Tm} {g off : Nat} (hts : Tms.At w C ls g off) (hg : g < w.heap.size) (hB : Below w.heap.size w wr) {i : Nat} (hlt : i < ls.length) :
    ∃ sl2, wr.cell? ⟨g, off + i * 4, none⟩ = some (.int .i64 ls[i].k) ∧ wr.cell? ⟨g, off + i * 4 + 1, none⟩ = some (.string ls[i].s) ∧ wr.cell? ⟨g, off + i * 4 + 2, none⟩ = some (.int .i64 ls[i].x) ∧ wr.cell? ⟨g, off + i * 4 + 3, none⟩ = some sl2 ∧
      TmV wr C ls[i] (.agg #[.int .i64 ls[i].k, .string ls[i].s, .int .i64 ls[i].x, sl2]) := by
  obtain ⟨q0, q1, q2, w0, w1', w2, sl2, q3, ha2⟩ := Tms.at_get hts hlt
  refine ⟨sl2, ?_, ?_, ?_, ?_, TmV.carry (w := w) ⟨sl2, rfl, w0, w1', w2, ha2⟩ hB.size fun g hg hc => ⟨hB.block g hg, hc⟩⟩
  · rw [hB.cell (p := ⟨g, off + i * 4, none⟩) hg]; exact q0
  · rw [hB.cell (p := ⟨g, off + i * 4 + 1, none⟩) hg]; exact q1
  · rw [hB.cell (p := ⟨g, off + i * 4 + 2, none⟩) hg]; exact q2
  · rw [hB.cell (p := ⟨g, off + i * 4 + 3, none⟩) hg]; exact q3
/-! ### Depth -/
mutual
def Tm.depN : Tm → Int → Int
  | .mk k _ _ ls, m => if m ≤ 0 ∨ k ≠ 4 then 1 else Tms.depN ls 0 (m - 1) + 1
def Tms.depN : List Tm → Int → Int → Int
  | [], d, _ => d
  | t :: ts, d, m => Tms.depN ts (if d < Tm.depN t m then Tm.depN t m else d) m
end
theorem depN_le : ∀ t m, 1 ≤ Tm.depN t m ∧ Tm.depN t m ≤ max 1 (m + 1) := by
  refine Tm.ind fun k s x ls ih m => ?_
  have key : ∀ l : List Tm, (∀ t ∈ l, ∀ m, 1 ≤ Tm.depN t m ∧ Tm.depN t m ≤ max 1 (m + 1)) → ∀ d m, 0 ≤ d → d ≤ max 1 (m + 1) → 0 ≤ Tms.depN l d m ∧ Tms.depN l d m ≤ max 1 (m + 1) := by
    intro l
    induction l with
    | nil => intro _ d m h0 hn; unfold Tms.depN; omega
    | cons t ts iht =>
      intro h d m h0 hn
      unfold Tms.depN
      have h1 := h t (by simp) m
      exact iht (fun u hu => h u (List.mem_cons_of_mem _ hu)) _ m (by split <;> omega) (by split <;> omega)
  unfold Tm.depN
  split
  · omega
  · have := key ls ih 0 (m - 1) (by omega) (by omega)
    omega
def DpInv (w0 : World) (ts : List Tm) (m r : Int) (g : Nat) (nv iv : Value) (w : World) : Prop :=
  ∃ (i : Nat) (d : Int), iv = .int .i64 i ∧ i + g = ts.length ∧ nv = .int .i64 d ∧ 0 ≤ d ∧ d ≤ max 1 (m + 1) ∧ Tms.depN (ts.drop i) d m = r ∧ Below w0.heap.size w0 w
set_option maxHeartbeats 2000000 in
theorem Depth_any : ∀ (t : Tm) (w : World) (C : Nat → Prop) (v : Value) (m : Int), TmV w C t v → -9000000000000000000 ≤ m → m ≤ 9000000000000000000 →
    Calls Try.prog 34 #[v, .int .i64 m] w fun e w' => e = .returned (.int .i64 (Tm.depN t m)) ∧ Below w.heap.size w w' := by
  refine Tm.ind fun k s x ls ih w C v m hv hm1 hm2 => ?_
  obtain ⟨sl, rfl, wk, ws, wx, hat⟩ := hv
  have HAT := Lib.hid hat
  have IH := Lib.hid ih
  have HR := Lib.hid (show Tm.depN (.mk k s x ls) m = if m ≤ 0 ∨ k ≠ 4 then 1 else Tms.depN ls 0 (m - 1) + 1 by unfold Tm.depN; rfl)
  have hk1 : Tm.k (.mk k s x ls) = k := rfl
  have hs1 : Tm.s (.mk k s x ls) = s := rfl
  have hx1 : Tm.x (.mk k s x ls) = x := rfl
  rw [hk1, hs1, hx1]
  rw [hk1] at wk
  clear hat ih hk1 hs1 hx1 ws wx
  unfold Tm.At at HAT
  by_cases hm : m ≤ 0
  · rw [if_pos (.inl hm)] at HR
    go_enter Try.func34, Try.ntmps34
    go_wp2_with fail
    go_ret
    exact ⟨by rw [HR.out]; rfl, (Below.refl _ _).alloc (Nat.le_refl _) _⟩
  by_cases h4 : k = 4
  · subst h4
    rw [if_neg (by omega)] at HR
    generalize Tm.depN (.mk 4 s x ls) m = r0 at *
    generalize hr0 : Tms.depN ls 0 (m - 1) = r at *
    have HR0 := Lib.hid hr0
    have hrb : r0 = r + 1 := HR.out
    subst hrb
    clear hr0 HR
    rcases HAT.out with ⟨hl, a, c, rfl⟩ | ⟨hl, g, off, c, rfl, hg, hc, hts⟩
    · subst hl
      have hr : r = 0 := by rw [← HR0.out]; unfold Tms.depN; rfl
      subst hr
      clear HAT HR0
      go_enter Try.func34, Try.ntmps34
      go_wp2_with fail
      go_loopg [5, 6] 0 (fun g nv iv wr => iv = .int .i64 0 ∧ nv = .int .i64 0 ∧ wr = w.alloc (.cells #[.int .i64 4, .string s, .int .i64 x, .slice a 0 c] 24))
      case atStart => exact ⟨rfl, rfl, rfl⟩
      case round =>
        obtain ⟨rfl, rfl, rfl⟩ := hrel
        go_wp2_with fail
        go_ret
        exact ⟨rfl, (Below.refl _ _).alloc (Nat.le_refl _) _⟩
    · have HTS := Lib.hid hts
      clear hts HAT
      go_enter Try.func34, Try.ntmps34
      go_wp2_with fail
      have hbx : (w.alloc (.cells #[.int .i64 4, .string s, .int .i64 x, .slice (some ⟨g, off, none⟩) ls.length c] 24)).cell? ⟨w.heap.size, 3, none⟩ = some (.slice (some ⟨g, off, none⟩) ls.length c) := (Blk.new (own := fun _ => 0) (k := 0) w _ rfl).cell 3
      have hbs : w.heap.size < (w.alloc (.cells #[.int .i64 4, .string s, .int .i64 x, .slice (some ⟨g, off, none⟩) ls.length c] 24)).heap.size := by rw [World.size_alloc]; omega
      have hB0 : Below w.heap.size w (w.alloc (.cells #[.int .i64 4, .string s, .int .i64 x, .slice (some ⟨g, off, none⟩) ls.length c] 24)) := (Below.refl _ _).alloc (Nat.le_refl _) _
      generalize hw0 : w.alloc (.cells #[.int .i64 4, .string s, .int .i64 x, .slice (some ⟨g, off, none⟩) ls.length c] 24) = w1 at *
      go_loopg [5, 6] ls.length (fun g nv iv wr => DpInv w1 ls (m - 1) r g nv iv wr)
      case atStart => exact ⟨0, 0, rfl, by omega, rfl, by omega, by omega, HR0.out, Below.refl _ _⟩
      case round =>
        obtain ⟨i, d, rfl, hi, rfl, hn1, hn2, hr, hB⟩ := hrel
        have HB := Lib.hid hB
        have hb3 : wr.cell? ⟨w.heap.size, 3, none⟩ = some (.slice (some ⟨g, off, none⟩) ls.length c) := by rw [hB.cell hbs]; exact hbx
        have HBW : Hid (Below w.heap.size w wr) := Lib.hid (hB0.trans (hB.mono hB0.size))
        clear hB
        by_cases hlt : i < ls.length
        · have hlt2 : (i : Int) < ls.length := by omega
          rw [List.drop_eq_getElem_cons hlt] at hr
          unfold Tms.depN at hr
          obtain ⟨sl2, q0, q1, q2, q3, htv⟩ := elem_facts HTS.out hg HBW.out hlt
          have hsz := depN_le ls[i] (m - 1)
          have HI := Lib.hid (IH.out ls[i] (List.getElem_mem hlt) wr C _ (m - 1) htv (by omega) (by omega))
          generalize Tm.k ls[i] = k1 at *
          generalize Tm.s ls[i] = s1 at *
          generalize Tm.x ls[i] = x1 at *
          generalize Tm.depN ls[i] (m - 1) = z at *
          have HRR2 := Lib.hid hr
          clear hr htv
          go_wp2_with fail
          refine HI.out.mono ?_
          rintro e w5 ⟨rfl, hB5⟩
          have HB5 := Lib.hid (HB.out.trans (hB5.mono HB.out.size))
          clear hB5 HI q0 q1 q2 q3 hb3 HB HBW
          by_cases hdz : d < z
          · rw [if_pos hdz] at HRR2
            go_wp2_with fail
            go_roundg (ls.length - (i + 1))
            case measure => omega
            case rel => exact ⟨i + 1, z, by go_num, by omega, rfl, by omega, by omega, HRR2.out, HB5.out⟩
          · rw [if_neg hdz] at HRR2
            go_wp2_with fail
            go_roundg (ls.length - (i + 1))
            case measure => omega
            case rel => exact ⟨i + 1, d, by go_num, by omega, rfl, by omega, by omega, HRR2.out, HB5.out⟩
        · obtain rfl : i = ls.length := by omega
          rw [List.drop_length] at hr
          have hr : d = r := by rw [← hr]; unfold Tms.depN; rfl
          subst hr
          go_wp2_with fail
          go_ret
          exact ⟨rfl, HBW.out⟩
  · rw [if_pos (.inr h4)] at HR
    have hb : (k == 4) = false := by simp [h4]
    have hb2 : (k != 4) = true := by simp [h4]
    go_enter Try.func34, Try.ntmps34
    go_wp2_with fail
    go_ret
    exact ⟨by rw [HR.out]; rfl, (Below.refl _ _).alloc (Nat.le_refl _) _⟩
/-! ### plain -/
mutual
def Tm.plainN : Tm → Int → Bool
  | .mk k s x ls, m => if m ≤ 0 then false else if k = 1 then decide (1 ≤ x) else if k = 2 then true else if k = 3 then decide (s.size ≤ 64) else if k = 4 then (if 64 < s.size ∨ ls.length < 1 ∨ 8 < ls.length then false else Tms.plainN ls (m - 1)) else false
def Tms.plainN : List Tm → Int → Bool
  | [], _ => true
  | t :: ts, m => if Tm.plainN t m then Tms.plainN ts m else false
end
def PlInv (w0 : World) (ts : List Tm) (m : Int) (r : Bool) (g : Nat) (iv : Value) (w : World) : Prop :=
  ∃ (i : Nat), iv = .int .i64 i ∧ i + g = ts.length ∧ Tms.plainN (ts.drop i) m = r ∧ Below w0.heap.size w0 w
set_option maxHeartbeats 4000000 in
theorem plain_any : ∀ (t : Tm) (w : World) (C : Nat → Prop) (v : Value) (m : Int), TmV w C t v → -9000000000000000000 ≤ m → m ≤ 9000000000000000000 →
    Calls Try.prog 35 #[v, .int .i64 m] w fun e w' => e = .returned (.bool (Tm.plainN t m)) ∧ Below w.heap.size w w' := by
  refine Tm.ind fun k s x ls ih w C v m hv hm1 hm2 => ?_
  obtain ⟨sl, rfl, wk, ws, wx, hat⟩ := hv
  have HAT := Lib.hid hat
  have IH := Lib.hid ih
  have HR := Lib.hid (show Tm.plainN (.mk k s x ls) m = if m ≤ 0 then false else if k = 1 then decide (1 ≤ x) else if k = 2 then true else if k = 3 then decide (s.size ≤ 64) else if k = 4 then (if 64 < s.size ∨ ls.length < 1 ∨ 8 < ls.length then false else Tms.plainN ls (m - 1)) else false by unfold Tm.plainN; rfl)
  have hk1 : Tm.k (.mk k s x ls) = k := rfl
  have hs1 : Tm.s (.mk k s x ls) = s := rfl
  have hx1 : Tm.x (.mk k s x ls) = x := rfl
  rw [hk1, hs1, hx1]
  clear hat ih hk1 hs1 hx1 wk ws wx
  unfold Tm.At at HAT
  by_cases hm : m ≤ 0
  · rw [if_pos hm] at HR
    go_enter Try.func35, Try.ntmps35
    go_wp2_with fail
    go_ret
    exact ⟨by rw [HR.out]; rfl, (Below.refl _ _).alloc (Nat.le_refl _) _⟩
  rw [if_neg hm] at HR
  by_cases k1 : k = 1
  · subst k1
    rw [if_pos rfl] at HR
    by_cases hx : 1 ≤ x
    · rw [decide_eq_true hx] at HR
      go_enter Try.func35, Try.ntmps35
      go_wp2_with fail
      go_ret
      exact ⟨by rw [HR.out]; rfl, (Below.refl _ _).alloc (Nat.le_refl _) _⟩
    · rw [decide_eq_false hx] at HR
      go_enter Try.func35, Try.ntmps35
      go_wp2_with fail
      go_ret
      exact ⟨by rw [HR.out]; rfl, (Below.refl _ _).alloc (Nat.le_refl _) _⟩
  rw [if_neg k1] at HR
  by_cases k2 : k = 2
  · subst k2
    rw [if_pos rfl] at HR
    go_enter Try.func35, Try.ntmps35
    go_wp2_with fail
    go_ret
    exact ⟨by rw [HR.out]; rfl, (Below.refl _ _).alloc (Nat.le_refl _) _⟩
  rw [if_neg k2] at HR
  by_cases k3 : k = 3
  · subst k3
    rw [if_pos rfl] at HR
    by_cases hx : s.size ≤ 64
    · have hx2 : (s.size : Int) ≤ 64 := by omega
      rw [decide_eq_true hx] at HR
      go_enter Try.func35, Try.ntmps35
      go_wp2_with fail
      go_ret
      exact ⟨by rw [HR.out]; rfl, (Below.refl _ _).alloc (Nat.le_refl _) _⟩
    · have hx2 : ¬ (s.size : Int) ≤ 64 := by omega
      rw [decide_eq_false hx] at HR
      go_enter Try.func35, Try.ntmps35
      go_wp2_with fail
      go_ret
      exact ⟨by rw [HR.out]; rfl, (Below.refl _ _).alloc (Nat.le_refl _) _⟩
  rw [if_neg k3] at HR
  by_cases h4 : k = 4
  · subst h4
    rw [if_pos rfl] at HR
    rcases HAT.out with ⟨hl, a, c, rfl⟩ | ⟨hl, g, off, c, rfl, hg, hc, hts⟩
    · subst hl
      rw [if_pos (.inr (.inl (by simp)))] at HR
      by_cases hx : (s.size : Int) ≤ 64
      · go_enter Try.func35, Try.ntmps35
        go_wp2_with fail
        go_ret
        exact ⟨by rw [HR.out]; rfl, (Below.refl _ _).alloc (Nat.le_refl _) _⟩
      · go_enter Try.func35, Try.ntmps35
        go_wp2_with fail
        go_ret
        exact ⟨by rw [HR.out]; rfl, (Below.refl _ _).alloc (Nat.le_refl _) _⟩
    · have HTS := Lib.hid hts
      clear hts HAT
      by_cases hx : (s.size : Int) ≤ 64
      · by_cases hl1 : (ls.length : Int) < 1
        · rw [if_pos (by omega)] at HR
          go_enter Try.func35, Try.ntmps35
          go_wp2_with fail
          go_ret
          exact ⟨by rw [HR.out]; rfl, (Below.refl _ _).alloc (Nat.le_refl _) _⟩
        by_cases hl8 : 8 < (ls.length : Int)
        · rw [if_pos (by omega)] at HR
          go_enter Try.func35, Try.ntmps35
          go_wp2_with fail
          go_ret
          exact ⟨by rw [HR.out]; rfl, (Below.refl _ _).alloc (Nat.le_refl _) _⟩
        rw [if_neg (by omega)] at HR
        generalize Tm.plainN (.mk 4 s x ls) m = r at *
        have HR0 := Lib.hid HR.out.symm
        clear HR
        go_enter Try.func35, Try.ntmps35
        go_wp2_with fail
        have hbx : (w.alloc (.cells #[.int .i64 4, .string s, .int .i64 x, .slice (some ⟨g, off, none⟩) ls.length c] 24)).cell? ⟨w.heap.size, 3, none⟩ = some (.slice (some ⟨g, off, none⟩) ls.length c) := (Blk.new (own := fun _ => 0) (k := 0) w _ rfl).cell 3
        have hbs : w.heap.size < (w.alloc (.cells #[.int .i64 4, .string s, .int .i64 x, .slice (some ⟨g, off, none⟩) ls.length c] 24)).heap.size := by rw [World.size_alloc]; omega
        have hB0 : Below w.heap.size w (w.alloc (.cells #[.int .i64 4, .string s, .int .i64 x, .slice (some ⟨g, off, none⟩) ls.length c] 24)) := (Below.refl _ _).alloc (Nat.le_refl _) _
        generalize hw0 : w.alloc (.cells #[.int .i64 4, .string s, .int .i64 x, .slice (some ⟨g, off, none⟩) ls.length c] 24) = w1 at *
        go_loopg [5] ls.length (fun g iv wr => PlInv w1 ls (m - 1) r g iv wr)
        case atStart => exact ⟨0, rfl, by omega, HR0.out, Below.refl _ _⟩
        case round =>
          obtain ⟨i, rfl, hi, hr, hB⟩ := hrel
          have HB := Lib.hid hB
          have hb3 : wr.cell? ⟨w.heap.size, 3, none⟩ = some (.slice (some ⟨g, off, none⟩) ls.length c) := by rw [hB.cell hbs]; exact hbx
          have HBW : Hid (Below w.heap.size w wr) := Lib.hid (hB0.trans (hB.mono hB0.size))
          clear hB
          by_cases hlt : i < ls.length
          · have hlt2 : (i : Int) < ls.length := by omega
            rw [List.drop_eq_getElem_cons hlt] at hr
            unfold Tms.plainN at hr
            obtain ⟨sl2, q0, q1, q2, q3, htv⟩ := elem_facts HTS.out hg HBW.out hlt
            have HI := Lib.hid (IH.out ls[i] (List.getElem_mem hlt) wr C _ (m - 1) htv (by omega) (by omega))
            generalize Tm.k ls[i] = k1 at *
            generalize Tm.s ls[i] = s1 at *
            generalize Tm.x ls[i] = x1 at *
            have HRR2 := Lib.hid hr
            clear hr htv
            cases hz : Tm.plainN ls[i] (m - 1) with
            | true =>
              rw [hz] at HI HRR2
              clear hz
              go_wp2_with fail
              refine HI.out.mono ?_
              rintro e w5 ⟨rfl, hB5⟩
              have HB5 := Lib.hid (HB.out.trans (hB5.mono HB.out.size))
              clear hB5 HI q0 q1 q2 q3 hb3 HB HBW
              go_wp2_with fail
              go_roundg (ls.length - (i + 1))
              case measure => omega
              case rel => exact ⟨i + 1, by go_num, by omega, by have := HRR2.out; simpa using this, HB5.out⟩
            | false =>
              rw [hz] at HI HRR2
              clear hz
              go_wp2_with fail
              refine HI.out.mono ?_
              rintro e w5 ⟨rfl, hB5⟩
              have HB5 := Lib.hid (HBW.out.trans (hB5.mono HBW.out.size))
              have hrf : r = false := by have := HRR2.out; rw [if_neg (by decide)] at this; exact this.symm
              subst hrf
              clear hB5 HI q0 q1 q2 q3 hb3 HB HBW
              go_wp2_with fail
              go_ret
              exact ⟨rfl, HB5.out⟩
          · obtain rfl : i = ls.length := by omega
            rw [List.drop_length] at hr
            have hr : true = r := by rw [← hr]; unfold Tms.plainN; rfl
            subst hr
            go_wp2_with fail
            go_ret
            exact ⟨rfl, HBW.out⟩
      · rw [if_pos (by omega)] at HR
        go_enter Try.func35, Try.ntmps35
        go_wp2_with fail
        go_ret
        exact ⟨by rw [HR.out]; rfl, (Below.refl _ _).alloc (Nat.le_refl _) _⟩
  · rw [if_neg h4] at HR
    go_enter Try.func35, Try.ntmps35
    go_wp2_with fail
    go_ret
    exact ⟨by rw [HR.out]; rfl, (Below.refl _ _).alloc (Nat.le_refl _) _⟩
/-! ### Right -/
def Tm.rightN (t : Tm) : Bool := decide (Tm.sizeN t 2000 ≤ 2000) && (decide (Tm.depN t 101 ≤ 100) && Tm.plainN t 100)
/-- A struct in its box. -/
theorem box_facts (w : World) (k : Int) (s : ByteArray) (x : Int) (sl : Value) {wr : World} (h : Below (w.alloc (.cells #[.int .i64 k, .string s, .int .i64 x, sl] 24)).heap.size (w.alloc (.cells #[.int .i64 k, .string s, .int .i64 x, sl] 24)) wr) :
    wr.cell? ⟨w.heap.size, 0, none⟩ = some (.int .i64 k) ∧ wr.cell? ⟨w.heap.size, 1, none⟩ = some (.string s) ∧ wr.cell? ⟨w.heap.size, 2, none⟩ = some (.int .i64 x) ∧ wr.cell? ⟨w.heap.size, 3, none⟩ = some sl ∧ Below w.heap.size w wr := by
  have hbs : w.heap.size < (w.alloc (.cells #[.int .i64 k, .string s, .int .i64 x, sl] 24)).heap.size := by rw [World.size_alloc]; omega
  have hb := Blk.new (own := fun _ => 0) (k := 0) w (.cells #[.int .i64 k, .string s, .int .i64 x, sl] 24) rfl
  have hB0 : Below w.heap.size w (w.alloc (.cells #[.int .i64 k, .string s, .int .i64 x, sl] 24)) := (Below.refl _ _).alloc (Nat.le_refl _) _
  refine ⟨?_, ?_, ?_, ?_, hB0.trans (h.mono hB0.size)⟩
  · rw [h.cell hbs]; exact hb.cell 0
  · rw [h.cell hbs]; exact hb.cell 1
  · rw [h.cell hbs]; exact hb.cell 2
  · rw [h.cell hbs]; exact hb.cell 3
theorem TmV.below {w w' : World} {C : Nat → Prop} {t : Tm} {v : Value} (h : TmV w C t v) (hB : Below w.heap.size w w') : TmV w' C t v := h.carry hB.size fun g hg hc => ⟨hB.block g hg, hc⟩
set_option maxHeartbeats 4000000 in
theorem Right_any (t : Tm) (w : World) (C : Nat → Prop) (v : Value) (hv : TmV w C t v) :
    Calls Try.prog 12 #[v] w fun e w' => e = .returned (.bool (Tm.rightN t)) ∧ Below w.heap.size w w' := by
  have HV := Lib.hid hv
  have HR := Lib.hid (show Tm.rightN t = (decide (Tm.sizeN t 2000 ≤ 2000) && (decide (Tm.depN t 101 ≤ 100) && Tm.plainN t 100)) from rfl)
  obtain ⟨sl, rfl, _⟩ := hv
  have HS := Lib.hid (fun wr (h : Below w.heap.size w wr) => Size_any t wr C _ 2000 (TmV.below HV.out h) (by decide) (by decide))
  have HD := Lib.hid (fun wr (h : Below w.heap.size w wr) => Depth_any t wr C _ 101 (TmV.below HV.out h) (by decide) (by decide))
  have HP := Lib.hid (fun wr (h : Below w.heap.size w wr) => plain_any t wr C _ 100 (TmV.below HV.out h) (by decide) (by decide))
  have HBX := Lib.hid (fun wr => @box_facts w t.k t.s t.x sl wr)
  have HB0 := Lib.hid (show Below w.heap.size w (w.alloc (.cells #[.int .i64 t.k, .string t.s, .int .i64 t.x, sl] 24)) from (Below.refl _ _).alloc (Nat.le_refl _) _)
  clear HV
  generalize Tm.rightN t = r at *
  generalize Tm.k t = k at *
  generalize Tm.s t = s at *
  generalize Tm.x t = x at *
  generalize Tm.sizeN t 2000 = z1 at *
  generalize Tm.depN t 101 = z2 at *
  generalize Tm.plainN t 100 = z3 at *
  go_enter Try.func12, Try.ntmps12
  go_wp2_with fail
  refine (HS.out _ HB0.out).mono ?_
  rintro e w2 ⟨rfl, hB2⟩
  obtain ⟨b0, b1, b2, b3, b4⟩ := HBX.out _ hB2
  have HB2 := Lib.hid hB2
  have HB4 := Lib.hid b4
  clear hB2 b4
  by_cases h1 : z1 ≤ 2000
  · go_wp2_with fail
    refine (HD.out _ HB4.out).mono ?_
    rintro e w3 ⟨rfl, hB3⟩
    have HB3 := Lib.hid (HB2.out.trans (hB3.mono HB2.out.size))
    clear b0 b1 b2 b3 hB3 HB2 HB4
    obtain ⟨b0, b1, b2, b3, b4⟩ := HBX.out _ HB3.out
    have HB4 := Lib.hid b4
    clear b4
    by_cases h2 : z2 ≤ 100
    · go_wp2_with fail
      refine (HP.out _ HB4.out).mono ?_
      rintro e w5 ⟨rfl, hB5⟩
      have HB5 := Lib.hid (HB4.out.trans (hB5.mono HB4.out.size))
      clear b0 b1 b2 b3 hB5 HB4
      go_wp2_with fail
      go_ret
      exact ⟨by rw [HR.out, decide_eq_true h1, decide_eq_true h2]; rfl, HB5.out⟩
    · go_wp2_with fail
      go_ret
      exact ⟨by rw [HR.out, decide_eq_true h1, decide_eq_false (by omega : ¬ z2 ≤ 100)]; rfl, HB4.out⟩
  · go_wp2_with fail
    go_ret
    exact ⟨by rw [HR.out, decide_eq_false (by omega : ¬ z1 ≤ 2000)]; rfl, HB4.out⟩
end Go.Proofs.Ytamiidklcadkmaa
