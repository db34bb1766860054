/- term.Apply without bindings, term.Rename: a term as new memory, renamed. -/
import Derived.Test.YtamiidklcadkmaaTermPut
set_option maxRecDepth 20000
set_option linter.unusedVariables false
set_option linter.unusedSimpArgs false
namespace Go.Proofs.Ytamiidklcadkmaa
open Go.RowKit Go.PM
theorem Blk_sameN {w w' : World} {n : Nat} {own : Nat → Nat} {k b : Nat} {o : Obj} (h : Blk w own k b o) (e : Below n w w') (hb : b < n) : Blk w' own k b o := ⟨by rw [e.block b hb]; exact h.at_, h.col⟩
/-- put, its count in the newest block. -/
theorem put_new (t : Tm) (w : World) (C : Nat → Prop) (q : Nat) (v mv : Value) (m : List (Int × Int)) (hv : TmV w C t v) (hC : ∀ g, g < w.heap.size → C g → g ≠ q) (hm : MapTm w (fun _ => 0) 1 mv m) (hq : w.heap[q]? = some (.cells #[.int .i64 0] 3 (0, 0))) (hr : Tm.rightN t = true) :
    Calls Try.prog 43 #[v, mv, .int .i64 1, .pointer (some ⟨q, 0, none⟩)] w fun e w' => ∃ v', e = .returned (.tuple #[v', .bool true]) ∧ TmV w' (fun g => w.heap.size ≤ g) (Tm.ren m t) v' ∧ Below q w w' := by
  have hlt : q < w.heap.size := (Array.getElem?_eq_some_iff.1 hq).1
  obtain ⟨r1, r2, r3⟩ := (rightN_iff t).1 hr
  refine (put_any t w (fun b => if b = q then 1 else 0) 1 2 3 q v mv m 1 0 (hv.carry (Nat.le_refl _) fun g hg hc => ⟨rfl, by have := hC g hg hc; simp [this]⟩) ?_ ⟨hq, by simp⟩ r3 (by decide) (by omega) (by decide) (by omega) (by decide) (by decide) (by decide) (fun g => by split <;> omega)).mono ?_
  · rcases hm with h | ⟨r, l, c, h1, h2, h3, h4, h5⟩
    · exact .inl h
    · refine .inr ⟨r, l, c, h1, h2, ?_, h4, h5⟩
      have : r ≠ q := fun e => by subst e; rw [hq] at h4; cases h4
      simp [this]
  · rintro e w' ⟨v', he, h1, h2, _⟩
    exact ⟨v', he, h1, h2.os, h2.tape, h2.output, h2.size, fun b hb => h2.same b (by omega) (by rw [if_neg (by omega)]; decide)⟩
theorem MapTm.empty {w : World} {r c : Nat} (h : w.heap[r]? = some (.map #[] c)) : MapTm w (fun _ => 0) 1 (.map (some r)) [] :=
  .inr ⟨r, [], c, rfl, (Array.getElem?_eq_some_iff.1 h).1, by simp, h, fun x => rfl, fun x y h => by cases h⟩
/-- A term's value comes back with an error's number. -/
def TmRet (w : World) (t : Tm) (es : List Value) (e : Ending) (w' : World) : Prop :=
  ∃ v', e = .returned (.tuple (v' :: es).toArray) ∧ TmV w' (fun g => w.heap.size ≤ g) t v' ∧ Below w.heap.size w w'
theorem tm_zero (w : World) (C : Nat → Prop) : TmV w C (.mk 0 noStr 0 []) zeroTm := by
  refine ⟨_, rfl, ?_, ?_, ?_, ?_⟩
  · unfold rng64; show -9223372036854775808 ≤ (0 : Int) ∧ (0 : Int) ≤ 9223372036854775807; decide
  · show noStr.size ≤ _; decide
  · unfold rng64; show -9223372036854775808 ≤ (0 : Int) ∧ (0 : Int) ≤ 9223372036854775807; decide
  · unfold Tm.At; exact .inl ⟨rfl, _, _, rfl⟩
theorem Apply_wrong (t : Tm) (w : World) (C : Nat → Prop) (v : Value) (hv : TmV w C t v) (hr : Tm.rightN t = false) :
    Calls Try.prog 57 #[v, .slice none 0 0] w (TmRet w (.mk 0 noStr 0 []) [.int .i64 70]) := by
  have HV := Lib.hid hv
  obtain ⟨a2, l2, c2, rfl, -, -, -, -⟩ := TmV_open hv
  have HI := right_one t ((w.alloc (.cells #[.int .i64 t.k, .string t.s, .int .i64 t.x, .slice a2 l2 c2] 24)).alloc (.cells #[.int .i64 0, .string noStr, .int .i64 0, .slice none 0 0] 24)) C _ _ _ a2 l2 c2 (TmV.below HV.out (((Below.refl _ _).alloc (Nat.le_refl _) _).alloc (by rw [World.size_alloc]; omega) _))
  simp only [World.size_alloc] at HI
  rw [hr] at HI
  have HI := Lib.hid HI
  clear HV hv hr
  generalize Tm.k t = k1 at *
  generalize Tm.s t = s1 at *
  generalize Tm.x t = x1 at *
  have HB0 := Lib.hid (((Below.refl w.heap.size w).alloc (Nat.le_refl _) (.cells #[.int .i64 k1, .string s1, .int .i64 x1, .slice a2 l2 c2] 24)).alloc (by rw [World.size_alloc]; omega) (.cells #[.int .i64 0, .string noStr, .int .i64 0, .slice none 0 0] 24))
  have hb2 : Blk ((w.alloc (.cells #[.int .i64 k1, .string s1, .int .i64 x1, .slice a2 l2 c2] 24)).alloc (.cells #[.int .i64 0, .string noStr, .int .i64 0, .slice none 0 0] 24)) (fun _ => 0) 0 (w.heap.size + 1) (.cells #[.int .i64 0, .string noStr, .int .i64 0, .slice none 0 0] 24 (0, 0)) := by
    have := Blk.new (own := fun _ => 0) (k := 0) (w.alloc (.cells #[.int .i64 k1, .string s1, .int .i64 x1, .slice a2 l2 c2] 24)) (.cells #[.int .i64 0, .string noStr, .int .i64 0, .slice none 0 0] 24) rfl
    rwa [World.size_alloc] at this
  have HB2 := Lib.hid hb2
  clear hb2
  go_enter Try.func57, Try.ntmps57
  go_wp2_with fail
  refine HI.out.mono ?_
  rintro e w5 ⟨rfl, hB5⟩
  have hb5 := Blk_sameN HB2.out hB5 (by omega)
  have HB5 := Lib.hid hb5
  have f0 := hb5.free 0
  have f1 := hb5.free 1
  have f2 := hb5.free 2
  have f3 := hb5.free 3
  have l1 := hb5.lt
  have d0 : w5.cell? ⟨w.heap.size + 1, 0, none⟩ = some (.int .i64 0) := hb5.cell 0
  have d1 : w5.cell? ⟨w.heap.size + 1, 1, none⟩ = some (.string noStr) := hb5.cell 1
  have d2 : w5.cell? ⟨w.heap.size + 1, 2, none⟩ = some (.int .i64 0) := hb5.cell 2
  have d3 : w5.cell? ⟨w.heap.size + 1, 3, none⟩ = some (.slice none 0 0) := hb5.cell 3
  have HBB := Lib.hid (HB0.out.trans (hB5.mono (by omega)))
  clear HI hB5 hb5 HB2 HB0
  go_wp2_with fail
  have hend := Blk.putCells (cs := [.int .i64 0, .string noStr, .int .i64 0, .slice none 0 0]) (vs := [.int .i64 0, .string noStr, .int .i64 0, .slice none 0 0]) HB5.out rfl
  have hbel : Below w.heap.size w (putCells w5 (w.heap.size + 1) 0 [.int .i64 0, .string noStr, .int .i64 0, .slice none 0 0]) := by
    have := Ext.putCells (M := fun _ => False) (own := fun _ => 0) (own' := fun _ => 0) (b := w.heap.size + 1) (fun h => by omega) [.int .i64 0, .string noStr, .int .i64 0, .slice none 0 0] _ 0 (⟨HBB.out.os, HBB.out.tape, HBB.out.output, HBB.out.size, fun _ _ => rfl, fun b hb _ => HBB.out.block b hb⟩)
    exact this.below fun _ _ h => h
  simp only [putCells, Nat.reduceAdd] at hend hbel
  ((try simp only [Exit.inBlock, Exit.then]); refine bodyPost_ret (results_ct rfl _ _ ((w.heap.size + 1)) 24 _ _ _ rfl (hend.at_) Try.underlying24 rfl (by kernel_rfl)) rfl ?_)
  exact ⟨zeroTm, rfl, tm_zero _ _, hbel⟩
theorem two_new (w : World) (o1 o2 : Obj) : Blk ((w.alloc o1).alloc o2) (fun _ => 0) 0 w.heap.size o1 ∧ Blk ((w.alloc o1).alloc o2) (fun _ => 0) 0 (w.heap.size + 1) o2 ∧ Below w.heap.size w ((w.alloc o1).alloc o2) ∧ ((w.alloc o1).alloc o2).heap.size = w.heap.size + 1 + 1 := by
  have h1 := Blk.new (own := fun _ => 0) (k := 0) w o1 rfl
  have h2 := Blk.new (own := fun _ => 0) (k := 0) (w.alloc o1) o2 rfl
  rw [World.size_alloc] at h2
  exact ⟨h1.alloc o2, h2, ((Below.refl _ _).alloc (Nat.le_refl _) _).alloc (by rw [World.size_alloc]; omega) _, by rw [World.size_alloc, World.size_alloc]⟩
theorem below_put {w w5 : World} {b : Nat} (h : Below w.heap.size w w5) (hb : w.heap.size ≤ b) (vs : List Value) : Below w.heap.size w (putCells w5 b 0 vs) := by
  have := Ext.putCells (M := fun _ => False) (own := fun _ => 0) (own' := fun _ => 0) (b := b) (fun h => by omega) vs _ 0 (⟨h.os, h.tape, h.output, h.size, fun _ _ => rfl, fun b hb _ => h.block b hb⟩)
  exact this.below fun _ _ h => h
/-- A term stands while a block that is none of its own is set. -/
theorem TmV_put {w : World} {t : Tm} {v : Value} {b n : Nat} (hv : TmV w (fun g => n ≤ g) t v) (hb : b < n) (vs : List Value) : TmV (putCells w b 0 vs) (fun g => n ≤ g) t v := by
  have hE : Ext (fun c => c = 1) w (putCells w b 0 vs) (fun g => if g = b then 1 else 0) (fun g => if g = b then 1 else 0) := Ext.putCells (M := fun c => c = 1) (fun _ => by simp) _ _ _ Ext.refl
  exact hv.carry hE.size fun g hg hc => ⟨hE.same g hg (by rw [if_neg (by omega)]; decide), hc⟩
set_option maxHeartbeats 1000000 in
theorem Apply_right (t : Tm) (w : World) (C : Nat → Prop) (v : Value) (hv : TmV w C t v) (hr : Tm.rightN t = true) :
    Calls Try.prog 57 #[v, .slice none 0 0] w (TmRet w (Tm.ren [] t) [.int .i64 0]) := by
  have HV := Lib.hid hv
  obtain ⟨a2, l2, c2, rfl, -, -, -, -⟩ := TmV_open hv
  have HI := right_one t ((w.alloc (.cells #[.int .i64 t.k, .string t.s, .int .i64 t.x, .slice a2 l2 c2] 24)).alloc (.cells #[.int .i64 0, .string noStr, .int .i64 0, .slice none 0 0] 24)) C _ _ _ a2 l2 c2 (TmV.below HV.out (((Below.refl _ _).alloc (Nat.le_refl _) _).alloc (by rw [World.size_alloc]; omega) _))
  simp only [World.size_alloc] at HI
  rw [hr] at HI
  have HI := Lib.hid HI
  have HSZ := Lib.hid (sz_right hr)
  have HRT := Lib.hid hr
  have HJ := Lib.hid (fun w2 (hb : Below w.heap.size w w2) => vars_any0 t w w2 C _ (TmV.below HV.out hb) (by have := HSZ.out; omega) hb.size)
  have HK := Lib.hid (fun w2 q r (hb : Below w.heap.size w w2) (hq : w.heap.size ≤ q) (h1 : w2.heap[q]? = some (.cells #[.int .i64 0] 3 (0, 0))) c (h2 : w2.heap[r]? = some (.map #[] c)) => put_new t w2 (fun g => C g ∧ g < w.heap.size) q _ (.map (some r)) [] (HV.out.carry hb.size fun g hg hc => ⟨hb.block g hg, hc, hg⟩) (fun g _ hc => by have := hc.2; omega) (MapTm.empty h2) h1 HRT.out)
  clear HV hv hr
  generalize Tm.k t = k1 at *
  generalize Tm.s t = s1 at *
  generalize Tm.x t = x1 at *
  obtain ⟨hb0, hb1, hB0, hz0⟩ := two_new w (.cells #[.int .i64 k1, .string s1, .int .i64 x1, .slice a2 l2 c2] 24) (.cells #[.int .i64 0, .string noStr, .int .i64 0, .slice none 0 0] 24)
  have H0 := Lib.hid hb0
  have H1 := Lib.hid hb1
  have HB0 := Lib.hid hB0
  have HZ0 := Lib.hid hz0
  have hmm := @run_makeMap Try.prog
  clear hb0 hb1 hB0 hz0
  go_enter Try.func57, Try.ntmps57
  go_wp2_with fail
  refine HI.out.mono ?_
  rintro e w5 ⟨rfl, hB5⟩
  have hb0 := (Blk_sameN H0.out hB5 (by omega))
  have H15 := Lib.hid (Blk_sameN H1.out hB5 (by omega))
  have H05 := Lib.hid hb0
  have hz5 := hB5.size
  have l0 := hb0.lt
  have b0 := hb0.cell 0
  have b1 := hb0.cell 1
  have b2 := hb0.cell 2
  have b3 := hb0.cell 3
  simp at b0 b1 b2 b3
  have HB5 := Lib.hid (HB0.out.trans (hB5.mono (by omega)))
  have hz5 : w.heap.size + 2 ≤ w5.heap.size := by have := HZ0.out; omega
  clear hB5 hb0 HI H0 H1 HB0
  go_wp2_with fail
  refine (HJ.out _ (HB5.out.alloc HB5.out.size (.map #[] 0))).mono ?_
  rintro e w6 ⟨v6, rfl, hr6, hB6⟩
  obtain ⟨a6, c6, rfl⟩ := hr6.shape
  have hz6 := hB6.size
  rw [World.size_alloc] at hz6
  have hb0 := Blk_same (H05.out.alloc (.map #[] 0)) hB6
  have H16 := Lib.hid (Blk_same (H15.out.alloc (.map #[] 0)) hB6)
  have hr6 : Blk w6 (fun _ => 0) 0 w5.heap.size (.map #[] 0) := Blk_same (Blk.new w5 _ rfl) hB6
  have H06 := Lib.hid hb0
  have HM6 := Lib.hid hr6
  have HB6 := Lib.hid ((HB5.out.alloc HB5.out.size (.map #[] 0)).trans (hB6.mono (by rw [World.size_alloc]; omega)))
  have l0 := hb0.lt
  have b0 := hb0.cell 0
  have b1 := hb0.cell 1
  have b2 := hb0.cell 2
  have b3 := hb0.cell 3
  simp at b0 b1 b2 b3
  clear hB6 hr6 hb0 H05 H15 HB5 HJ
  go_wp2_with fail
  go_loopg [25] 0 (fun g iv wr => iv = .int .i64 0 ∧ wr = w6)
  case atStart => exact ⟨rfl, rfl⟩
  case round =>
    obtain ⟨rfl, rfl⟩ := hrel
    have HK2 := Lib.hid (HK.out (wr.alloc (.cells #[.int .i64 0] 3)) wr.heap.size w5.heap.size (HB6.out.alloc HB6.out.size _) (by omega) (heap_alloc_new _ _) 0 (by rw [heap_alloc_old _ _ HM6.out.lt]; exact HM6.out.at_))
    go_wp2_with fail
    refine HK2.out.mono ?_
    rintro e w7 ⟨v7, rfl, hv7, hB7⟩
    have hb1 := Blk_sameN (H16.out.alloc (.cells #[.int .i64 0] 3)) hB7 H16.out.lt
    have H17 := Lib.hid hb1
    have f0 := hb1.free 0
    have f1 := hb1.free 1
    have f2 := hb1.free 2
    have f3 := hb1.free 3
    have l1 := hb1.lt
    have d0 : w7.cell? ⟨w.heap.size + 1, 0, none⟩ = some (.int .i64 0) := hb1.cell 0
    have d1 : w7.cell? ⟨w.heap.size + 1, 1, none⟩ = some (.string noStr) := hb1.cell 1
    have d2 : w7.cell? ⟨w.heap.size + 1, 2, none⟩ = some (.int .i64 0) := hb1.cell 2
    have d3 : w7.cell? ⟨w.heap.size + 1, 3, none⟩ = some (.slice none 0 0) := hb1.cell 3
    have HB7 := Lib.hid ((HB6.out.alloc HB6.out.size _).trans (hB7.mono HB6.out.size))
    have HV7 := Lib.hid hv7
    obtain ⟨a7, l7, c7, rfl, -, -, -, -⟩ := TmV_open hv7
    clear hB7 hb1 hv7 HK2 HK H16 H06 HM6 HB6 b0 b1 b2 b3
    generalize Tm.ren [] t = t7 at *
    generalize Tm.k t7 = k7 at *
    generalize Tm.s t7 = s7 at *
    generalize Tm.x t7 = x7 at *
    go_wp2_with fail
    have hend := (Blk.putCells (cs := [.int .i64 0, .string noStr, .int .i64 0, .slice none 0 0]) (vs := [.int .i64 k7, .string s7, .int .i64 x7, .slice a7 l7 c7]) H17.out rfl).alloc (.cells #[.int .i64 k7, .string s7, .int .i64 x7, .slice a7 l7 c7] 24)
    have hbel := below_put HB7.out (b := w.heap.size + 1) (by omega) [.int .i64 k7, .string s7, .int .i64 x7, .slice a7 l7 c7]
    have hbel2 := hbel.alloc hbel.size (.cells #[.int .i64 k7, .string s7, .int .i64 x7, .slice a7 l7 c7] 24)
    have htv := TmV.below (TmV_put (b := w.heap.size + 1) HV7.out (by rw [World.size_alloc]; omega) [.int .i64 k7, .string s7, .int .i64 x7, .slice a7 l7 c7]) ((Below.refl _ _).alloc (Nat.le_refl _) (.cells #[.int .i64 k7, .string s7, .int .i64 x7, .slice a7 l7 c7] 24))
    have htv2 := htv.carry (C' := fun g => w.heap.size ≤ g) (Nat.le_refl _) fun g hg hc => ⟨rfl, by rw [World.size_alloc] at hc; show w.heap.size ≤ g; omega⟩
    simp only [putCells, Nat.reduceAdd] at hend hbel2 htv2
    ((try simp only [Exit.inBlock, Exit.then]); refine bodyPost_ret (results_ct rfl _ _ ((w.heap.size + 1)) 24 _ _ _ rfl (hend.at_) Try.underlying24 rfl (by kernel_rfl)) rfl ?_)
    exact ⟨_, rfl, htv2, hbel2⟩
/-! ### Rename -/
/-- Variables for variables: the numbers from on. -/
def renM : List Int → Int → List (Int × Int)
  | [], _ => []
  | v :: vs, n => (v, n) :: renM vs (n + 1)
theorem renM_append (xs : List Int) (y : Int) : ∀ n : Int, renM (xs ++ [y]) n = renM xs n ++ [(y, n + xs.length)] := by
  induction xs with
  | nil => intro n; simp [renM]
  | cons x xs ih =>
    intro n
    rw [List.cons_append, renM, ih (n + 1), renM, List.cons_append, List.length_cons]
    congr 4
    omega
theorem renM_rng (xs : List Int) : ∀ (n : Int), -9223372036854775808 ≤ n → n + xs.length ≤ 9223372036854775807 → ∀ p ∈ renM xs n, rng64 p.2 := by
  induction xs with
  | nil => intro n _ _ p hp; cases hp
  | cons x xs ih =>
    intro n h1 h2 p hp
    rw [renM] at hp
    rw [List.length_cons] at h2
    rcases List.mem_cons.1 hp with rfl | hp
    · exact ⟨h1, by show n ≤ _; omega⟩
    · exact ih (n + 1) (by omega) (by omega) p hp
theorem vars_nodup : ∀ (t : Tm) (out : List Int), out.Nodup → (Tm.vars t out).Nodup := by
  refine Tm.ind fun k s x ls ih out ho => ?_
  have key : ∀ l : List Tm, (∀ t ∈ l, ∀ out : List Int, out.Nodup → (Tm.vars t out).Nodup) → ∀ out : List Int, out.Nodup → (Tms.vars l out).Nodup := by
    intro l
    induction l with
    | nil => intro _ out ho; unfold Tms.vars; exact ho
    | cons t ts iht =>
      intro h out ho
      unfold Tms.vars
      exact iht (fun u hu => h u (List.mem_cons_of_mem _ hu)) _ (h t (by simp) out ho)
  unfold Tm.vars
  split
  · split
    · exact ho
    · rename_i h
      rw [List.nodup_append]
      exact ⟨ho, by simp, fun a ha b hb => by simp at hb; subst hb; exact fun e => h (e ▸ ha)⟩
  · split
    · exact key ls ih out ho
    · exact ho
/-- A map that has just these variables. -/
def RenMap (l : Ents) (vs : List Int) (n : Int) : Prop := l.map (fun e => (e.1, e.2.1)) = (renM vs n).map (fun p => (p.1, tvar p.2))
theorem mget_map (l : Ents) (x : Int) : mget l x = ((l.map (fun e => (e.1, e.2.1))).find? (fun p => p.1 == x)).map (·.2) := by
  unfold mget
  rw [List.find?_map, Option.map_map]
  rfl
theorem RenMap.get {l : Ents} {vs : List Int} {n : Int} (h : RenMap l vs n) (x : Int) : mget l x = (mlk (renM vs n) x).map tvar := by
  rw [mget_map, h, List.find?_map, Option.map_map]
  unfold mlk
  rw [Option.map_map]
  rfl
theorem renM_keys (vs : List Int) : ∀ n, (renM vs n).map (·.1) = vs := by
  induction vs with
  | nil => intro n; rfl
  | cons v vs ih => intro n; rw [renM, List.map_cons, ih]
theorem RenMap.none {l : Ents} {vs : List Int} {n : Int} (h : RenMap l vs n) {x : Int} (hx : x ∉ vs) : mget l x = none := by
  rw [h.get]
  unfold mlk
  have : (renM vs n).find? (fun p => p.1 == x) = Option.none := by
    rw [List.find?_eq_none]
    intro p hp he
    have h1 : p.1 ∈ (renM vs n).map (·.1) := List.mem_map.2 ⟨p, hp, rfl⟩
    rw [renM_keys] at h1
    have : p.1 = x := by simpa using he
    exact hx (this ▸ h1)
  rw [this]
  rfl
theorem RenMap.snoc {l : Ents} {vs : List Int} {n : Int} (h : RenMap l vs n) (x : Int) (c : Nat) : RenMap (l ++ [(x, tvar (n + vs.length), c)]) (vs ++ [x]) n := by
  unfold RenMap
  rw [List.map_append, h, renM_append, List.map_append]
  rfl
theorem RenMap.mapTm {w : World} {r c : Nat} {l : Ents} {vs : List Int} {n : Int} (h : RenMap l vs n) (hr : w.heap[r]? = some (.map (mobj l) c)) (h1 : -9223372036854775808 ≤ n) (h2 : n + vs.length ≤ 9223372036854775807) : MapTm w (fun _ => 0) 1 (.map (some r)) (renM vs n) := by
  refine .inr ⟨r, l, c, rfl, (Array.getElem?_eq_some_iff.1 hr).1, by simp, hr, h.get, fun x y hy => ?_⟩
  unfold mlk at hy
  obtain ⟨p, hp, rfl⟩ := Option.map_eq_some_iff.1 hy
  exact renM_rng vs n h1 h2 p (List.mem_of_find?_eq_some hp)
def RnInv (w2 : World) (own : Nat → Nat) (r : Nat) (vs : List Int) (n : Int) (g : Nat) (fv iv : Value) (w : World) : Prop :=
  ∃ (i : Nat) (l : Ents) (c : Nat), iv = .int .i64 i ∧ i + g = vs.length ∧ fv = .int .i64 (n + i) ∧ RenMap l (vs.take i) n ∧ w.heap[r]? = some (.map (mobj l) c) ∧ Ext (fun c => c = 3) w2 w own own
set_option maxHeartbeats 2000000 in
theorem Rename_right (t : Tm) (w : World) (C : Nat → Prop) (v : Value) (n : Int) (hv : TmV w C t v) (hr : Tm.rightN t = true) (hn1 : 1 ≤ n) (hn2 : n ≤ 4611686018427387904) :
    Calls Try.prog 26 #[v, .int .i64 n] w (TmRet w (Tm.ren (renM (Tm.vars t []) n) t) [.int .i64 (n + (Tm.vars t []).length), .int .i64 0]) := by
  have HV := Lib.hid hv
  obtain ⟨a2, l2, c2, rfl, -, -, -, -⟩ := TmV_open hv
  have HI := right_one t ((w.alloc (.cells #[.int .i64 t.k, .string t.s, .int .i64 t.x, .slice a2 l2 c2] 24)).alloc (.cells #[.int .i64 0, .string noStr, .int .i64 0, .slice none 0 0] 24)) C _ _ _ a2 l2 c2 (TmV.below HV.out (((Below.refl _ _).alloc (Nat.le_refl _) _).alloc (by rw [World.size_alloc]; omega) _))
  simp only [World.size_alloc] at HI
  rw [hr] at HI
  have HI := Lib.hid HI
  have HSZ := Lib.hid (sz_right hr)
  have HRT := Lib.hid hr
  have HJ := Lib.hid (fun w2 own (hb : Below w.heap.size w w2) (ho : ∀ g, g < w.heap.size → own g ≠ 1) => vars_any t w2 own 1 _ _ [] (HV.out.carry (C' := fun g => own g ≠ 1) hb.size fun g hg hc => ⟨hb.block g hg, ho g hg⟩) (Row.nil _ _ _ _ _) (by have := HSZ.out; simp; omega))
  have hvl := vars_len t []
  have hszr := sz_right hr
  have HND := Lib.hid (vars_nodup t [] (by simp))
  have HK := Lib.hid (fun w2 q mv m (hb : Below w.heap.size w w2) (hq : w.heap.size ≤ q) (h1 : w2.heap[q]? = some (.cells #[.int .i64 0] 3 (0, 0))) (h2 : MapTm w2 (fun _ => 0) 1 mv m) => put_new t w2 (fun g => C g ∧ g < w.heap.size) q _ mv m (HV.out.carry hb.size fun g hg hc => ⟨hb.block g hg, hc, hg⟩) (fun g _ hc => by have := hc.2; omega) h2 h1 HRT.out)
  clear HV hv hr
  have hvl : (Tm.vars t []).length ≤ 2000 := by simp at hvl; omega
  generalize Tm.vars t [] = vs at *
  generalize Tm.k t = k1 at *
  generalize Tm.s t = s1 at *
  generalize Tm.x t = x1 at *
  obtain ⟨hb0, hb1, hB0, hz0⟩ := two_new w (.cells #[.int .i64 k1, .string s1, .int .i64 x1, .slice a2 l2 c2] 24) (.cells #[.int .i64 0, .string noStr, .int .i64 0, .slice none 0 0] 24)
  have H0 := Lib.hid hb0
  have H1 := Lib.hid hb1
  have HB0 := Lib.hid hB0
  have HZ0 := Lib.hid hz0
  have hmm := @run_makeMap Try.prog
  clear hb0 hb1 hB0 hz0
  have hn3 : ¬ n < 1 := by omega
  have hn4 : ¬ 4611686018427387904 < n := by omega
  go_enter Try.func26, Try.ntmps26
  go_wp2_with fail
  refine HI.out.mono ?_
  rintro e w5 ⟨rfl, hB5⟩
  have hb0 := (Blk_sameN H0.out hB5 (by omega))
  have H15 := Lib.hid (Blk_sameN H1.out hB5 (by omega))
  have H05 := Lib.hid hb0
  have hz5 := hB5.size
  have l0 := hb0.lt
  have b0 := hb0.cell 0
  have b1 := hb0.cell 1
  have b2 := hb0.cell 2
  have b3 := hb0.cell 3
  simp at b0 b1 b2 b3
  have HB5 := Lib.hid (HB0.out.trans (hB5.mono (by omega)))
  have hz5 : w.heap.size + 2 ≤ w5.heap.size := by have := HZ0.out; omega
  clear hB5 hb0 HI H0 H1 HB0
  go_wp2_with fail
  refine (HJ.out (w5.alloc (.map #[] 0)) (fun b => if b < w.heap.size then 0 else if b = w5.heap.size then 3 else 5) (HB5.out.alloc HB5.out.size (.map #[] 0)) (fun g hg => by rw [if_pos hg]; decide)).mono ?_
  rintro e w6 ⟨own6, v6, rfl, hr6, hE6⟩
  obtain ⟨a6, c6, rfl⟩ := hr6.shape
  have hz6 := hE6.size
  rw [World.size_alloc] at hz6
  have hb0 : Blk w6 own6 5 w.heap.size _ := Blk.ext (w := w5.alloc (.map #[] 0)) (own := fun b => if b < w.heap.size then 0 else if b = w5.heap.size then 3 else 5) ⟨(H05.out.alloc (.map #[] 0)).at_, by simp; omega⟩ hE6 (by decide)
  have hb1 : Blk w6 own6 5 (w.heap.size + 1) _ := Blk.ext (w := w5.alloc (.map #[] 0)) (own := fun b => if b < w.heap.size then 0 else if b = w5.heap.size then 3 else 5) ⟨(H15.out.alloc (.map #[] 0)).at_, by show (if w.heap.size + 1 < w.heap.size then 0 else if w.heap.size + 1 = w5.heap.size then 3 else 5) = 5; rw [if_neg (by omega), if_neg (by omega)]⟩ hE6 (by decide)
  have hbm : Blk w6 own6 3 w5.heap.size (.map #[] 0) := Blk.ext (w := w5.alloc (.map #[] 0)) (own := fun b => if b < w.heap.size then 0 else if b = w5.heap.size then 3 else 5) ⟨heap_alloc_new _ _, by simp; omega⟩ hE6 (by decide)
  have hB6 : Below w.heap.size w w6 := by
    have h1 : Below w.heap.size (w5.alloc (.map #[] 0)) w6 := ⟨hE6.os, hE6.tape, hE6.output, hE6.size, fun b hb => hE6.same b (by rw [World.size_alloc]; omega) (by rw [if_pos hb]; decide)⟩
    exact (HB5.out.alloc HB5.out.size (.map #[] 0)).trans h1
  have HROW := Lib.hid hr6
  have H06 := Lib.hid hb0
  have H16 := Lib.hid hb1
  have HM6 := Lib.hid hbm
  have HB6 := Lib.hid hB6
  have hcol6 : ∀ g, g < w.heap.size → own6 g ≠ 3 := fun g hg => by
    rw [hE6.col g (by rw [World.size_alloc]; omega), if_pos hg]
    decide
  have HC6 := Lib.hid hcol6
  have hrl := hbm.lt
  have hz7 : w.heap.size + 2 ≤ w5.heap.size := hz5
  generalize hrr : w5.heap.size = r at *
  clear hr6 hE6 hb0 hb1 hbm hB6 hcol6 H05 H15 HB5 HJ b0 b1 b2 b3 hz5 hrr hz6
  go_wp2_with fail
  go_loopg [1, 31] vs.length (fun g fv iv wr => RnInv w6 own6 r vs n g fv iv wr)
  case atStart => exact ⟨0, [], 0, rfl, by omega, by simp, rfl, HM6.out.at_, Ext.refl⟩
  case round =>
    obtain ⟨i, l, c, rfl, hi, rfl, hren, hmap, hEr⟩ := hrel
    have HREN := Lib.hid hren
    have HMAP := Lib.hid hmap
    have HER := Lib.hid hEr
    clear hren hmap hEr
    by_cases hlt : i < vs.length
    · have hlt2 : (i : Int) < vs.length := by omega
      obtain ⟨g6, rfl, hg6, _, _, hx6, hc6⟩ := (HROW.out.ext HER.out (by decide)).irow_at hlt
      have hnot : vs[i] ∉ vs.take i := fun hm => by
        have := HND.out
        rw [← List.take_append_drop i vs, List.drop_eq_getElem_cons hlt, List.nodup_append] at this
        exact this.2.2 _ hm _ List.mem_cons_self rfl
      have hput := run_put_new (P := Try.prog) Try.underlying86 Try.underlying2 HMAP.out vs[i] (HREN.out.none hnot) (tvar (n + i))
      have HREN2 := Lib.hid (HREN.out.snoc vs[i] c)
      have HTK := Lib.hid (List.take_succ_eq_append_getElem hlt)
      unfold tvar noStr at hput
      clear hnot
      generalize vs[i] = x6 at *
      go_wp2_with fail
      go_roundg (vs.length - (i + 1))
      case measure => omega
      case rel =>
        refine ⟨i + 1, l ++ [(x6, tvar (n + i), c)], c + 1, by go_num, by omega, ?_, ?_, ?_, HER.out.setObj (fun _ => HM6.out.col) _⟩
        · congr 1; omega
        · rw [HTK.out]
          have := HREN2.out
          rw [List.length_take, show min i vs.length = i by omega] at this
          clear hput
          exact this
        · exact ((⟨HMAP.out, rfl⟩ : Blk wr own6 (own6 r) r _).setObj _).at_
    · obtain rfl : i = vs.length := by omega
      have hb0 := H06.out.ext HER.out (by decide)
      have H18 := Lib.hid (H16.out.ext HER.out (by decide))
      have b0 := hb0.cell 0
      have b1 := hb0.cell 1
      have b2 := hb0.cell 2
      have b3 := hb0.cell 3
      simp at b0 b1 b2 b3
      have l0 := hb0.lt
      rw [List.take_length] at HREN
      have HBR : Hid (Below w.heap.size w wr) := Lib.hid (HB6.out.trans ⟨HER.out.os, HER.out.tape, HER.out.output, HER.out.size, fun b hb => HER.out.same b (by have := HB6.out.size; omega) (HC6.out b hb)⟩)
      have HK2 := Lib.hid (HK.out (wr.alloc (.cells #[.int .i64 0] 3)) wr.heap.size (.map (some r)) (renM vs n) (HBR.out.alloc HBR.out.size _) (by omega) (heap_alloc_new _ _) (HREN.out.mapTm (c := c) (by rw [heap_alloc_old _ _ (Array.getElem?_eq_some_iff.1 HMAP.out).1]; exact HMAP.out) (by omega) (by omega)))
      clear hb0 HK HROW
      go_wp2_with fail
      refine HK2.out.mono ?_
      rintro e w7 ⟨v7, rfl, hv7, hB7⟩
      have hb1 := Blk_sameN (H18.out.alloc (.cells #[.int .i64 0] 3)) hB7 H18.out.lt
      have H17 := Lib.hid hb1
      have f0 := hb1.free 0
      have f1 := hb1.free 1
      have f2 := hb1.free 2
      have f3 := hb1.free 3
      have l1 := hb1.lt
      have d0 : w7.cell? ⟨w.heap.size + 1, 0, none⟩ = some (.int .i64 0) := hb1.cell 0
      have d1 : w7.cell? ⟨w.heap.size + 1, 1, none⟩ = some (.string noStr) := hb1.cell 1
      have d2 : w7.cell? ⟨w.heap.size + 1, 2, none⟩ = some (.int .i64 0) := hb1.cell 2
      have d3 : w7.cell? ⟨w.heap.size + 1, 3, none⟩ = some (.slice none 0 0) := hb1.cell 3
      have HB7 := Lib.hid ((HBR.out.alloc HBR.out.size _).trans (hB7.mono HBR.out.size))
      have HV7 := Lib.hid hv7
      have hzr : w.heap.size + 1 < wr.heap.size := H18.out.lt
      obtain ⟨a7, l7, c7, rfl, -, -, -, -⟩ := TmV_open hv7
      clear hB7 hb1 hv7 HK2 H16 H18 H06 HM6 HB6 b0 b1 b2 b3
      generalize Tm.ren (renM vs n) t = t7 at *
      generalize Tm.k t7 = k7 at *
      generalize Tm.s t7 = s7 at *
      generalize Tm.x t7 = x7 at *
      go_wp2_with fail
      have hend := (Blk.putCells (cs := [.int .i64 0, .string noStr, .int .i64 0, .slice none 0 0]) (vs := [.int .i64 k7, .string s7, .int .i64 x7, .slice a7 l7 c7]) H17.out rfl).alloc (.cells #[.int .i64 k7, .string s7, .int .i64 x7, .slice a7 l7 c7] 24)
      have hbel := below_put HB7.out (b := w.heap.size + 1) (by omega) [.int .i64 k7, .string s7, .int .i64 x7, .slice a7 l7 c7]
      have hbel2 := hbel.alloc hbel.size (.cells #[.int .i64 k7, .string s7, .int .i64 x7, .slice a7 l7 c7] 24)
      have htv := TmV.below (TmV_put (b := w.heap.size + 1) HV7.out (by rw [World.size_alloc]; omega) [.int .i64 k7, .string s7, .int .i64 x7, .slice a7 l7 c7]) ((Below.refl _ _).alloc (Nat.le_refl _) (.cells #[.int .i64 k7, .string s7, .int .i64 x7, .slice a7 l7 c7] 24))
      have htv2 := htv.carry (C' := fun g => w.heap.size ≤ g) (Nat.le_refl _) fun g hg hc => ⟨rfl, by rw [World.size_alloc] at hc; show w.heap.size ≤ g; omega⟩
      simp only [putCells, Nat.reduceAdd] at hend hbel2 htv2
      ((try simp only [Exit.inBlock, Exit.then]); refine bodyPost_ret (results_ctt' rfl _ _ ((w.heap.size + 1)) 24 _ _ _ rfl (hend.at_) Try.underlying24 rfl (by kernel_rfl)) rfl ?_)
      exact ⟨_, rfl, htv2, hbel2⟩
end Go.Proofs.Ytamiidklcadkmaa
