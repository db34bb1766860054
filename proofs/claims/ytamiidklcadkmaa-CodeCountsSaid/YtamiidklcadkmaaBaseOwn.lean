/- term.Rename of a wrong term, base.own, base.Of: what they answer. -/
import Derived.Test.YtamiidklcadkmaaTermRename
set_option maxRecDepth 20000
set_option linter.unusedVariables false
set_option linter.unusedSimpArgs false
namespace Go.Proofs.Ytamiidklcadkmaa
open Go.RowKit Go.PM
theorem Rename_wrong (t : Tm) (w : World) (C : Nat → Prop) (v : Value) (n : Int) (hv : TmV w C t v) (hr : Tm.rightN t = false) :
    Calls Try.prog 26 #[v, .int .i64 n] w (TmRet w (.mk 0 noStr 0 []) [.int .i64 0, .int .i64 70]) := by
  have HV := Lib.hid hv
  obtain ⟨a2, l2, c2, rfl, -, -, -, -⟩ := TmV_open hv
  have HI := right_one t ((w.alloc (.cells #[.int .i64 t.k, .string t.s, .int .i64 t.x, .slice a2 l2 c2] 24)).alloc (.cells #[.int .i64 0, .string noStr, .int .i64 0, .slice none 0 0] 24)) C _ _ _ a2 l2 c2 (TmV.below HV.out (((Below.refl _ _).alloc (Nat.le_refl _) _).alloc (by rw [World.size_alloc]; omega) _))
  simp only [World.size_alloc] at HI
  rw [hr] at HI
  have HI := Lib.hid HI
  clear HV hv hr
  generalize Tm.k t = k1 at *
  generalize Tm.s t = s1 at *
  generalize Tm.x t = x1 at *
  have HB0 := Lib.hid (((Below.refl w.heap.size w).alloc (Nat.le_refl _) (.cells #[.int .i64 k1, .string s1, .int .i64 x1, .slice a2 l2 c2] 24)).alloc (by rw [World.size_alloc]; omega) (.cells #[.int .i64 0, .string noStr, .int .i64 0, .slice none 0 0] 24))
  have hb2 : Blk ((w.alloc (.cells #[.int .i64 k1, .string s1, .int .i64 x1, .slice a2 l2 c2] 24)).alloc (.cells #[.int .i64 0, .string noStr, .int .i64 0, .slice none 0 0] 24)) (fun _ => 0) 0 (w.heap.size + 1) (.cells #[.int .i64 0, .string noStr, .int .i64 0, .slice none 0 0] 24 (0, 0)) := by
    have := Blk.new (own := fun _ => 0) (k := 0) (w.alloc (.cells #[.int .i64 k1, .string s1, .int .i64 x1, .slice a2 l2 c2] 24)) (.cells #[.int .i64 0, .string noStr, .int .i64 0, .slice none 0 0] 24) rfl
    rwa [World.size_alloc] at this
  have HB2 := Lib.hid hb2
  clear hb2
  go_enter Try.func26, Try.ntmps26
  go_wp2_with fail
  refine HI.out.mono ?_
  rintro e w5 ⟨rfl, hB5⟩
  have hb5 := Blk_sameN HB2.out hB5 (by omega)
  have HB5 := Lib.hid hb5
  have f0 := hb5.free 0
  have f1 := hb5.free 1
  have f2 := hb5.free 2
  have f3 := hb5.free 3
  have l1 := hb5.lt
  have d0 : w5.cell? ⟨w.heap.size + 1, 0, none⟩ = some (.int .i64 0) := hb5.cell 0
  have d1 : w5.cell? ⟨w.heap.size + 1, 1, none⟩ = some (.string noStr) := hb5.cell 1
  have d2 : w5.cell? ⟨w.heap.size + 1, 2, none⟩ = some (.int .i64 0) := hb5.cell 2
  have d3 : w5.cell? ⟨w.heap.size + 1, 3, none⟩ = some (.slice none 0 0) := hb5.cell 3
  have HBB := Lib.hid (HB0.out.trans (hB5.mono (by omega)))
  clear HI hB5 hb5 HB2 HB0
  go_wp2_with fail
  have hend := Blk.putCells (cs := [.int .i64 0, .string noStr, .int .i64 0, .slice none 0 0]) (vs := [.int .i64 0, .string noStr, .int .i64 0, .slice none 0 0]) HB5.out rfl
  have hbel : Below w.heap.size w (putCells w5 (w.heap.size + 1) 0 [.int .i64 0, .string noStr, .int .i64 0, .slice none 0 0]) := by
    have := Ext.putCells (M := fun _ => False) (own := fun _ => 0) (own' := fun _ => 0) (b := w.heap.size + 1) (fun h => by omega) [.int .i64 0, .string noStr, .int .i64 0, .slice none 0 0] _ 0 (⟨HBB.out.os, HBB.out.tape, HBB.out.output, HBB.out.size, fun _ _ => rfl, fun b hb _ => HBB.out.block b hb⟩)
    exact this.below fun _ _ h => h
  simp only [putCells, Nat.reduceAdd] at hend hbel
  ((try simp only [Exit.inBlock, Exit.then]); refine bodyPost_ret (results_ctt' rfl _ _ ((w.heap.size + 1)) 24 _ _ _ rfl (hend.at_) Try.underlying24 rfl (by kernel_rfl)) rfl ?_)
  exact ⟨zeroTm, rfl, tm_zero _ _, hbel⟩
/-- own: what Apply answers. -/
theorem own_of (t : Tm) (w : World) (C : Nat → Prop) (v : Value) (hv : TmV w C t v) (r : Tm) (er : Int)
    (H : ∀ w2, Below w.heap.size w w2 → Calls Try.prog 57 #[v, .slice none 0 0] w2 (TmRet w2 r [.int .i64 er])) :
    Calls Try.prog 40 #[v] w (TmRet w r [.int .i64 er]) := by
  have HV := Lib.hid hv
  have HH := Lib.hid H
  obtain ⟨a2, l2, c2, rfl, -, -, -, -⟩ := TmV_open hv
  clear HV hv H
  generalize Tm.k t = k1 at *
  generalize Tm.s t = s1 at *
  generalize Tm.x t = x1 at *
  obtain ⟨hb0, hb1, hB0, hz0⟩ := two_new w (.cells #[.int .i64 k1, .string s1, .int .i64 x1, .slice a2 l2 c2] 24) (.cells #[.int .i64 0, .string noStr, .int .i64 0, .slice none 0 0] 24)
  have H1 := Lib.hid hb1
  have HB0 := Lib.hid hB0
  have HZ0 := Lib.hid hz0
  clear hb0 hb1 hB0 hz0
  go_enter Try.func40, Try.ntmps40
  go_wp2_with fail
  refine (HH.out _ HB0.out).mono ?_
  rintro e w7 ⟨v7, rfl, hv7, hB7⟩
  have hb1 := Blk_same H1.out hB7
  have H17 := Lib.hid hb1
  have f0 := hb1.free 0
  have f1 := hb1.free 1
  have f2 := hb1.free 2
  have f3 := hb1.free 3
  have l1 := hb1.lt
  have d0 : w7.cell? ⟨w.heap.size + 1, 0, none⟩ = some (.int .i64 0) := hb1.cell 0
  have d1 : w7.cell? ⟨w.heap.size + 1, 1, none⟩ = some (.string noStr) := hb1.cell 1
  have d2 : w7.cell? ⟨w.heap.size + 1, 2, none⟩ = some (.int .i64 0) := hb1.cell 2
  have d3 : w7.cell? ⟨w.heap.size + 1, 3, none⟩ = some (.slice none 0 0) := hb1.cell 3
  have HB7 := Lib.hid (HB0.out.trans (hB7.mono HB0.out.size))
  have HV7 := Lib.hid hv7
  obtain ⟨a7, l7, c7, rfl, -, -, -, -⟩ := TmV_open hv7
  clear hB7 hb1 hv7 H1 HH
  generalize Tm.k r = k7 at *
  generalize Tm.s r = s7 at *
  generalize Tm.x r = x7 at *
  go_wp2_with fail
  have hend := (Blk.putCells (cs := [.int .i64 0, .string noStr, .int .i64 0, .slice none 0 0]) (vs := [.int .i64 k7, .string s7, .int .i64 x7, .slice a7 l7 c7]) H17.out rfl)
  have hbel := below_put HB7.out (b := w.heap.size + 1) (by omega) [.int .i64 k7, .string s7, .int .i64 x7, .slice a7 l7 c7]
  have htv := (TmV_put (b := w.heap.size + 1) HV7.out (by have := HZ0.out; omega) [.int .i64 k7, .string s7, .int .i64 x7, .slice a7 l7 c7])
  have htv2 := htv.carry (C' := fun g => w.heap.size ≤ g) (Nat.le_refl _) fun g hg hc => ⟨rfl, by have := HZ0.out; show w.heap.size ≤ g; omega⟩
  simp only [putCells, Nat.reduceAdd] at hend hbel htv2
  ((try simp only [Exit.inBlock, Exit.then]); refine bodyPost_ret (results_ct rfl _ _ ((w.heap.size + 1)) 24 _ _ _ rfl (hend.at_) Try.underlying24 rfl (by kernel_rfl)) rfl ?_)
  exact ⟨_, rfl, htv2, hbel⟩
theorem own_right (t : Tm) (w : World) (C : Nat → Prop) (v : Value) (hv : TmV w C t v) (hr : Tm.rightN t = true) :
    Calls Try.prog 40 #[v] w (TmRet w (Tm.ren [] t) [.int .i64 0]) :=
  own_of t w C v hv _ _ fun w2 hb => Apply_right t w2 C v (TmV.below hv hb) hr
theorem own_wrong (t : Tm) (w : World) (C : Nat → Prop) (v : Value) (hv : TmV w C t v) (hr : Tm.rightN t = false) :
    Calls Try.prog 40 #[v] w (TmRet w (.mk 0 noStr 0 []) [.int .i64 70]) :=
  own_of t w C v hv _ _ fun w2 hb => Apply_wrong t w2 C v (TmV.below hv hb) hr
/-- A head's predicate; is it a head? -/
def Tm.isHead (t : Tm) : Bool := decide (t.k = 3) || decide (t.k = 4)
def Tm.predS (t : Tm) : ByteArray := if t.k = 3 ∨ t.k = 4 then t.s else noStr
def Tm.predN (t : Tm) : Nat := if t.k = 4 then t.ls.length else 0
theorem at_len {w : World} {C : Nat → Prop} : ∀ {t : Tm} {a : Option Addr} {n c : Nat}, Tm.At w C t (.slice a n c) → n = t.ls.length ∧ n ≤ 9223372036854775807
  | .mk _ _ _ ls, a, n, c, h => by
    unfold Tm.At at h
    rcases h with ⟨hl, a', c', he⟩ | ⟨hl, g, off, c', he, _⟩
    · injection he with _ he
      subst hl
      subst he
      exact ⟨rfl, by decide⟩
    · injection he with _ he
      subst he
      exact ⟨rfl, hl⟩
theorem Of_any (t : Tm) (w : World) (C : Nat → Prop) (v : Value) (hv : TmV w C t v) :
    Calls Try.prog 25 #[v] w fun e w' => e = .returned (.tuple #[.agg #[.string (Tm.predS t), .int .i64 (Tm.predN t)], .bool (Tm.isHead t)]) ∧ Below w.heap.size w w' := by
  obtain ⟨a2, l2, c2, rfl, wk, ws, wx, hat⟩ := TmV_open hv
  obtain ⟨hl2, hl3⟩ := at_len hat
  have HP := Lib.hid (show Tm.predS t = if t.k = 3 ∨ t.k = 4 then t.s else noStr from rfl)
  have HN := Lib.hid (show Tm.predN t = if t.k = 4 then t.ls.length else 0 from rfl)
  have HI := Lib.hid (show Tm.isHead t = (decide (t.k = 3) || decide (t.k = 4)) from rfl)
  rw [← hl2] at HN
  clear hv hat hl2
  generalize Tm.predS t = ps at *
  generalize Tm.predN t = pn at *
  generalize Tm.isHead t = ih at *
  generalize Tm.k t = k1 at *
  generalize Tm.s t = s1 at *
  generalize Tm.x t = x1 at *
  have hB0 : ∀ o1 o2, Below w.heap.size w ((w.alloc o1).alloc o2) := fun o1 o2 => ((Below.refl _ _).alloc (Nat.le_refl _) _).alloc (by rw [World.size_alloc]; omega) _
  have HB0 := Lib.hid hB0
  clear hB0
  by_cases k3 : k1 = 3
  · subst k3
    go_enter Try.func25, Try.ntmps25
    go_wp2_with fail
    refine bodyPost_ret (v := .tuple #[.agg #[.string s1, .int .i64 0], .bool true]) (by simp [results, Try.results25, go_sem]) rfl ⟨?_, HB0.out _ _⟩
    rw [HP.out, HN.out, HI.out]
    rfl
  by_cases k4 : k1 = 4
  · subst k4
    go_enter Try.func25, Try.ntmps25
    go_wp2_with fail
    refine bodyPost_ret (v := .tuple #[.agg #[.string s1, .int .i64 l2], .bool true]) (by simp [results, Try.results25, go_sem]) rfl ⟨?_, HB0.out _ _⟩
    rw [HP.out, HN.out, HI.out]
    rfl
  have b3 : (k1 == 3) = false := by simp [k3]
  have b4 : (k1 == 4) = false := by simp [k4]
  rw [if_neg (by omega)] at HP
  rw [if_neg k4] at HN
  rw [decide_eq_false k3, decide_eq_false k4] at HI
  clear k3 k4
  go_enter Try.func25, Try.ntmps25
  go_wp2_with fail
  refine bodyPost_ret (v := .tuple #[.agg #[.string noStr, .int .i64 0], .bool false]) (by simp [results, Try.results25, go_sem]; rfl) rfl ⟨?_, HB0.out _ _⟩
  rw [HP.out, HN.out, HI.out]
  rfl
end Go.Proofs.Ytamiidklcadkmaa
