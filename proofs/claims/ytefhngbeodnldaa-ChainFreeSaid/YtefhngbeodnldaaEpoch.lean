/- Layer 4: what each function of package epoch answers, told over a plain yard. -/
import Derived.Test.YtefhngbeodnldaaCells
import Derived.Test.YtefhngbeodnldaaLongs
import Derived.Test.YtefhngbeodnldaaRes
import Derived.Test.YtefhngbeodnldaaPlan3
import Derived.Deep.LoopGhost
set_option maxRecDepth 20000
set_option linter.unusedVariables false
set_option linter.unusedSimpArgs false
namespace Go.Proofs.Ytefhngbeodnldaa
open Go.RowKit Go.PM

/-- A plain yard: how many of a thread may wait, the clock, when each thread came in, what waits (block, thread, when). -/
structure YV where
  bound : Int
  now : Int
  ent : List Int
  limbo : List (Int × Int × Int)
def wt (p : Int × Int × Int) : List Value := [.int .i64 p.1, .int .i64 p.2.1, .int .i64 p.2.2]
def flat (l : List (Int × Int × Int)) : List Value := l.flatMap wt
theorem flat_at (l : List (Int × Int × Int)) : ∀ (i : Nat) (hi : i < l.length), (flat l)[i * 3]? = some (.int .i64 l[i].1) ∧ (flat l)[i * 3 + 1]? = some (.int .i64 l[i].2.1) ∧ (flat l)[i * 3 + 2]? = some (.int .i64 l[i].2.2) := by
  induction l with
  | nil => intro i hi; simp at hi
  | cons x l ih =>
    intro i hi
    cases i with
    | zero => simp [flat, wt]
    | succ i =>
      have h := ih i (by simpa using hi)
      have e : flat (x :: l) = .int .i64 x.1 :: .int .i64 x.2.1 :: .int .i64 x.2.2 :: flat l := by simp [flat, wt]
      have e1 : (i + 1) * 3 = i * 3 + 1 + 1 + 1 := by omega
      rw [e, e1]
      simp only [List.getElem?_cons_succ, List.getElem_cons_succ]
      exact h
theorem flat_len (l : List (Int × Int × Int)) : (flat l).length = l.length * 3 := by
  induction l with
  | nil => rfl
  | cons x l ih =>
    have e : flat (x :: l) = .int .i64 x.1 :: .int .i64 x.2.1 :: .int .i64 x.2.2 :: flat l := by simp [flat, wt]
    rw [e]
    simp only [List.length_cons, ih]
    omega
def YV.bad (Y : YV) (t : Int) : Bool := decide (t < 1) || decide ((Y.ent.length : Int) ≤ t)
def YV.since (Y : YV) (t : Int) : Int := Y.ent.getD t.toNat 0
def YV.enterErr (Y : YV) (t : Int) : Int := if Y.bad t then 1 else if 0 < Y.since t then 40 else 0
def YV.enter (Y : YV) (t : Int) : YV := if Y.enterErr t = 0 then { Y with now := Y.now + 1, ent := Y.ent.set t.toNat (Y.now + 1) } else Y
def YV.leaveErr (Y : YV) (t : Int) : Int := if Y.bad t then 1 else if Y.since t = 0 then 41 else 0
def YV.leave (Y : YV) (t : Int) : YV := if Y.leaveErr t = 0 then { Y with ent := Y.ent.set t.toNat 0 } else Y
def holdsB (at_ x : Int) : Bool := decide (0 < x) && decide (x < at_)
def YV.held (Y : YV) (p : Int × Int × Int) : Bool := Y.ent.any (holdsB p.2.2)
def YV.limboN (Y : YV) (t : Int) : Nat := (Y.limbo.filter fun p => p.2.1 == t).length
structure YV.Ok (Y : YV) : Prop where
  ent : 2 ≤ Y.ent.length ∧ Y.ent.length ≤ 9
  now : 0 ≤ Y.now ∧ Y.now < 2000000000000000
  bound : 0 ≤ Y.bound ∧ Y.bound ≤ 64
  since : ∀ x ∈ Y.ent, 0 ≤ x ∧ x ≤ Y.now
/-- At y, in blocks of colour k, lies a yard that is Y, over the arena at a. -/
structure Yard (w : World) (own : Nat → Nat) (k y a : Nat) (Y : YV) (ev lv : Value) : Prop where
  box : Blk w own k y (.cells #[.pointer (some ⟨a, 0, none⟩), .int .i64 Y.bound, .int .i64 Y.now, ev, lv] 86 (0, 0))
  ent : Row w own k 3 1 ev Y.ent.length (irow Y.ent)
  lim : Row w own k 104 3 lv Y.limbo.length (flat Y.limbo)
  ok : Y.Ok
theorem five_y {w : World} {own : Nat → Nat} {k b : Nat} {T : TypeId} {x0 x1 x2 x3 x4 : Value} (h : Blk w own k b (.cells #[x0, x1, x2, x3, x4] T (0, 0))) :
    w.cell? ⟨b, 0, none⟩ = some x0 ∧ w.cell? ⟨b, 1, none⟩ = some x1 ∧ w.cell? ⟨b, 2, none⟩ = some x2 ∧ w.cell? ⟨b, 3, none⟩ = some x3 ∧ w.cell? ⟨b, 4, none⟩ = some x4 :=
  ⟨h.cell 0, h.cell 1, h.cell 2, h.cell 3, h.cell 4⟩
section
variable {w : World} {own : Nat → Nat} {k y a : Nat} {Y : YV} {ev lv : Value}
theorem Yard.ext {M : Nat → Prop} {w' : World} {own' : Nat → Nat} (h : Yard w own k y a Y ev lv) (e : Ext M w w' own own') (hk : ¬ M k) : Yard w' own' k y a Y ev lv :=
  ⟨h.box.ext e hk, h.ent.ext e hk, h.lim.ext e hk, h.ok⟩

/-! ### held -/
theorem held1_any (w : World) (B : Nat) (o : Int × Int × Int) (hB : w.cell? ⟨B, 0, none⟩ = some (.int .i64 o.1) ∧ w.cell? ⟨B, 1, none⟩ = some (.int .i64 o.2.1) ∧ w.cell? ⟨B, 2, none⟩ = some (.int .i64 o.2.2)) (x : Int) :
    Calls Try.prog 66 #[.int .i64 x, .pointer (some ⟨B, 0, none⟩)] w fun e w' => e = .returned (.bool (holdsB o.2.2 x)) ∧ w' = w := by
  obtain ⟨b0, b1, b2⟩ := hB
  generalize o.2.2 = t at *
  go_enter Try.func66, Try.ntmps66
  by_cases h1 : 0 < x
  · by_cases h2 : x < t
    · go_wp2
      go_ret
      exact ⟨by unfold holdsB; simp [h1, h2], rfl⟩
    · go_wp2
      go_ret
      exact ⟨by unfold holdsB; simp [h1, h2], rfl⟩
  · go_wp2
    go_ret
    exact ⟨by unfold holdsB; simp [h1]; omega, rfl⟩
/-! ### looking for the first -/
def idxP {α : Type} (p : α → Bool) (l : List α) : Int := match l.findIdx? p with | some i => (i : Int) | none => -1
theorem idxP_nonneg {α : Type} (p : α → Bool) (l : List α) : decide (idxP p l ≥ 0) = l.any p := by
  unfold idxP
  cases h : l.findIdx? p with
  | none =>
    have := List.findIdx?_eq_none_iff.1 h
    have h2 : l.any p = false := by simpa using this
    rw [h2]; rfl
  | some i =>
    have h3 : l.any p = true := by
      rw [List.any_eq_true]
      obtain ⟨hi, h4, _⟩ := List.findIdx?_eq_some_iff_getElem.1 h
      exact ⟨l[i], List.getElem_mem hi, h4⟩
    rw [h3]
    simp
theorem idxP_hit {α : Type} {p : α → Bool} {l : List α} {i : Nat} (hi : i < l.length) (h : p l[i] = true) (hb : ∀ j, (hj : j < i) → p (l[j]'(by omega)) = false) : idxP p l = i := by
  unfold idxP
  rw [List.findIdx?_eq_some_iff_getElem.2 ⟨hi, h, fun j hj => by simp [hb j hj]⟩]
theorem idxP_miss {α : Type} {p : α → Bool} {l : List α} (hb : ∀ j, (hj : j < l.length) → p l[j] = false) : idxP p l = -1 := by
  unfold idxP
  rw [List.findIdx?_eq_none_iff.2 (fun x hx => by
    obtain ⟨j, hj, rfl⟩ := List.mem_iff_getElem.1 hx
    simp [hb j hj])]
def ScanInv (w0 : World) (n : Nat) (p : Nat → Bool) (g : Nat) (iv : Value) (w : World) : Prop :=
  ∃ i : Nat, iv = .int .i64 i ∧ i + g = n ∧ w = w0 ∧ ∀ j, j < i → p j = false
set_option maxHeartbeats 1000000 in
theorem indexI_any {xs : List Int} {v : Value} (hR : Row w own k 3 1 v xs.length (irow xs)) (hl : xs.length ≤ 4000000000000) (B : Nat) (o : Int × Int × Int)
    (hB : w.cell? ⟨B, 0, none⟩ = some (.int .i64 o.1) ∧ w.cell? ⟨B, 1, none⟩ = some (.int .i64 o.2.1) ∧ w.cell? ⟨B, 2, none⟩ = some (.int .i64 o.2.2)) :
    Calls Try.prog 68 #[v, .func (.func 66) #[] #[.pointer (some ⟨B, 0, none⟩)]] w fun e w' => e = .returned (.int .i64 (idxP (holdsB o.2.2) xs)) ∧ w' = w := by
  obtain ⟨ra, rc, rfl⟩ := hR.shape
  have HR := Lib.hid hR
  have HB := Lib.hid hB
  clear hR hB
  go_enter Try.func68, Try.ntmps68
  go_wp2_with fail
  go_loopg [8] xs.length (fun g iv wr => ScanInv w xs.length (fun j => holdsB o.2.2 (xs.getD j 0)) g iv wr)
  case atStart => exact ⟨0, rfl, by omega, rfl, fun j hj => by omega⟩
  case round =>
    obtain ⟨i, rfl, hi, rfl, hb⟩ := hrel
    have HBE := Lib.hid hb
    clear hb
    by_cases hlt : i < xs.length
    · have hlt2 : (i : Int) < xs.length := by omega
      obtain ⟨g, rfl, hg, _, _, hx, hc⟩ := Row.irow_at HR.out hlt
      have HX := Lib.hid (show xs.getD i 0 = xs[i] by rw [List.getD_eq_getElem?_getD, List.getElem?_eq_getElem hx]; rfl)
      have HH := Lib.hid (held1_any wr B o HB.out xs[i])
      generalize hxi : xs[i] = xi at *
      go_wp2_with fail
      refine HH.out.mono ?_
      rintro e w1 ⟨rfl, rfl⟩
      cases hh : holdsB o.2.2 xi with
      | true =>
        go_wp2_with fail
        go_ret
        refine ⟨?_, rfl⟩
        rw [idxP_hit hx (by rw [hxi]; exact hh) (fun j hj => by have := HBE.out j hj; rw [List.getD_eq_getElem?_getD, List.getElem?_eq_getElem (by omega)] at this; exact this)]
        rfl
      | false =>
        go_wp2_with fail
        go_roundg (xs.length - (i + 1))
        case measure => omega
        case rel =>
          refine ⟨i + 1, by go_num, by omega, rfl, fun j hj => ?_⟩
          by_cases hji : j = i
          · subst hji; show holdsB o.2.2 (xs.getD j 0) = false; rw [HX.out]; exact hh
          · exact HBE.out j (by omega)
    · obtain rfl : i = xs.length := by omega
      go_wp2_with fail
      go_ret
      refine ⟨?_, rfl⟩
      rw [idxP_miss (fun j hj => by have := HBE.out j hj; rw [List.getD_eq_getElem?_getD, List.getElem?_eq_getElem hj] at this; exact this)]
      rfl
theorem containsI_any {xs : List Int} {v : Value} (hR : Row w own k 3 1 v xs.length (irow xs)) (hl : xs.length ≤ 4000000000000) (B : Nat) (o : Int × Int × Int)
    (hB : w.cell? ⟨B, 0, none⟩ = some (.int .i64 o.1) ∧ w.cell? ⟨B, 1, none⟩ = some (.int .i64 o.2.1) ∧ w.cell? ⟨B, 2, none⟩ = some (.int .i64 o.2.2)) :
    Calls Try.prog 65 #[v, .func (.func 66) #[] #[.pointer (some ⟨B, 0, none⟩)]] w fun e w' => e = .returned (.bool (xs.any (holdsB o.2.2))) ∧ w' = w := by
  have HI := Lib.hid (indexI_any hR hl B o hB)
  have HE := Lib.hid (idxP_nonneg (holdsB o.2.2) xs)
  obtain ⟨ra, rc, rfl⟩ := hR.shape
  clear hR hB
  go_enter Try.func65, Try.ntmps65
  go_wp2_with fail
  refine HI.out.mono ?_
  rintro e w1 ⟨rfl, rfl⟩
  go_wp2_with fail
  go_ret
  exact ⟨by rw [← HE.out]; rfl, rfl⟩
theorem held_any (hY : Yard w own k y a Y ev lv) (p : Int × Int × Int) :
    Calls Try.prog 59 #[.pointer (some ⟨y, 0, none⟩), .agg #[.int .i64 p.1, .int .i64 p.2.1, .int .i64 p.2.2]] w fun e w' => e = .returned (.bool (Y.held p)) ∧ Below w.heap.size w w' := by
  have hB : Below w.heap.size w (w.alloc (.cells #[.int .i64 p.1, .int .i64 p.2.1, .int .i64 p.2.2] 104)) := (Below.refl _ _).alloc (Nat.le_refl _) _
  have HB := Lib.hid hB
  have hY2 := hY.ext (M := fun _ => False) (Ext.of_below hB own 0) (by simp)
  have hb := Blk.new (own := ow own w.heap.size 0) (k := 0) w (.cells #[.int .i64 p.1, .int .i64 p.2.1, .int .i64 p.2.2] 104) (ow_ge (Nat.le_refl _))
  have hl := hY.ok.ent
  have HC := Lib.hid (containsI_any hY2.ent (by omega) w.heap.size p ⟨hb.cell 0, hb.cell 1, hb.cell 2⟩)
  obtain ⟨c0, c1, c2, c3, c4⟩ := five_y (hY.box.alloc (.cells #[.int .i64 p.1, .int .i64 p.2.1, .int .i64 p.2.2] 104))
  obtain ⟨ra, rc, rfl⟩ := hY.ent.shape
  clear hY2 hb hB hY
  unfold YV.held
  go_enter Try.func59, Try.ntmps59
  have hmf : ∀ (fn : Fn) (first cap : Array Value) (w : World), (Instr.makeFunc fn first cap).run Try.prog w = .ok (.func fn first cap) w := fun _ _ _ _ => rfl
  go_wp2_with fail
  refine HC.out.mono ?_
  rintro e w1 ⟨rfl, rfl⟩
  go_wp2_with fail
  go_ret
  exact ⟨rfl, HB.out⟩
/-! ### bad, Enter, Leave -/
theorem bad_any (hY : Yard w own k y a Y ev lv) (t : Int) :
    Calls Try.prog 54 #[.pointer (some ⟨y, 0, none⟩), .int .i64 t] w fun e w' => e = .returned (.bool (Y.bad t)) ∧ w' = w := by
  obtain ⟨c0, c1, c2, c3, c4⟩ := five_y hY.box
  obtain ⟨ra, rc, rfl⟩ := hY.ent.shape
  clear hY
  go_enter Try.func54, Try.ntmps54
  unfold YV.bad
  by_cases h1 : t < 1
  · go_wp2
    go_ret
    exact ⟨by simp [h1], rfl⟩
  · go_wp2
    go_ret
    exact ⟨by simp [h1]; omega, rfl⟩
theorem Yard.set_now (hY : Yard w own k y a Y ev lv) (x : Int) (hok : YV.Ok { Y with now := x }) :
    Yard (w.setCell ⟨y, 2, none⟩ (.int .i64 x)) own k y a { Y with now := x } ev lv ∧ Ext (fun c => c = k) w (w.setCell ⟨y, 2, none⟩ (.int .i64 x)) own own := by
  refine ⟨⟨?_, ?_, ?_, hok⟩, Ext.refl.setCell (fun _ => hY.box.col) _⟩
  · have := hY.box.setCell 2 (.int .i64 x)
    simpa using this
  · exact hY.ent.setCell_other hY.box.at_ (by intro cs h; injection h with _ h; cases h) _
  · exact hY.lim.setCell_other hY.box.at_ (by intro cs h; injection h with _ h; cases h) _
theorem Yard.set_ent {g n c : Nat} (hY : Yard w own k y a Y (.slice (some ⟨g, 0, none⟩) n c) lv) {j : Nat} (hj : j < Y.ent.length) (x : Int) (hok : YV.Ok { Y with ent := Y.ent.set j x }) :
    Yard (w.setCell ⟨g, j, none⟩ (.int .i64 x)) own k y a { Y with ent := Y.ent.set j x } (.slice (some ⟨g, 0, none⟩) n c) lv ∧ Ext (fun c => c = k) w (w.setCell ⟨g, j, none⟩ (.int .i64 x)) own own := by
  obtain ⟨g', cap, cur, hv, hb, _, _, _, _⟩ := hY.ent.cells (by omega)
  injection hv with hv1 hv2 hv3
  injection hv1 with hv1
  injection hv1 with hv1
  subst hv1
  subst hv2
  have hne : y ≠ g := hY.box.ne_obj hb (by intro h; injection h with _ h; cases h)
  refine ⟨⟨hY.box.setCell_other hne _, ?_, ?_, hok⟩, Ext.refl.setCell (fun _ => hb.col) _⟩
  · have := hY.ent.irow_set hj x
    simpa using this
  · exact hY.lim.setCell_other hb.at_ (by intro cs h; injection h with _ h; cases h) _
theorem YV.good_at {t : Int} (h : Y.bad t = false) : ∃ j : Nat, t = j ∧ ∃ hj : j < Y.ent.length, 1 ≤ j ∧ Y.since t = Y.ent[j] := by
  unfold YV.bad at h
  simp at h
  refine ⟨t.toNat, by omega, by omega, by omega, ?_⟩
  unfold YV.since
  rw [List.getD_eq_getElem?_getD, List.getElem?_eq_getElem (by omega)]
  rfl
/-- A call answers x, and leaves a yard that is Y'. -/
def YPost (k y a : Nat) (Y' : YV) (w : World) (own : Nat → Nat) (ev lv : Value) (x : Int) (e : Ending) (w' : World) : Prop :=
  e = .returned (.int .i64 x) ∧ Ext (fun c => c = k) w w' own own ∧ Yard w' own k y a Y' ev lv
theorem YV.Ok.enter (h : Y.Ok) (hn : Y.now < 1000000000000000) (j : Nat) : YV.Ok { Y with now := Y.now + 1, ent := Y.ent.set j (Y.now + 1) } :=
  ⟨by simpa using h.ent, by have := h.now; constructor <;> (show _ ; simp only []; omega), h.bound, fun x hx => by
    have hx : x ∈ Y.ent.set j (Y.now + 1) := hx
    show 0 ≤ x ∧ x ≤ Y.now + 1
    rcases List.mem_or_eq_of_mem_set hx with h1 | rfl
    · have := h.since x h1; omega
    · have := h.now; omega⟩
set_option maxHeartbeats 1000000 in
theorem Enter_any (hY : Yard w own k y a Y ev lv) (hn : Y.now < 1000000000000000) (t : Int) :
    Calls Try.prog 37 #[.pointer (some ⟨y, 0, none⟩), .int .i64 t] w (YPost k y a (Y.enter t) w own ev lv (Y.enterErr t)) := by
  have HBD := Lib.hid (bad_any hY t)
  cases hb : Y.bad t with
  | true =>
    have he : Y.enterErr t = 1 := by unfold YV.enterErr; rw [hb]; rfl
    have HP := Lib.hid (show YPost k y a (Y.enter t) w own ev lv (Y.enterErr t) (.returned (.int .i64 1)) w from ⟨by rw [he], Ext.refl, by unfold YV.enter; rw [if_neg (by rw [he]; decide)]; exact hY⟩)
    clear he hY
    go_enter Try.func37, Try.ntmps37
    go_wp2_with fail
    refine HBD.out.mono ?_
    rintro e w1 ⟨rfl, rfl⟩
    go_wp2_with fail
    go_ret
    exact HP.out
  | false =>
    obtain ⟨j, rfl, hj, hj1, hs⟩ := YV.good_at hb
    obtain ⟨c0, c1, c2, c3, c4⟩ := five_y hY.box
    obtain ⟨f0, f1, f2, f3, f4⟩ : w.frozen? ⟨y, 0, none⟩ = false ∧ w.frozen? ⟨y, 1, none⟩ = false ∧ w.frozen? ⟨y, 2, none⟩ = false ∧ w.frozen? ⟨y, 3, none⟩ = false ∧ w.frozen? ⟨y, 4, none⟩ = false := ⟨hY.box.free 0, hY.box.free 1, hY.box.free 2, hY.box.free 3, hY.box.free 4⟩
    obtain ⟨ra, rc, rfl⟩ := hY.ent.shape
    obtain ⟨g, rfl, hg, hgc, hfg, hx, hc⟩ := Row.irow_at hY.ent hj
    have hj2 : (j : Int) < Y.ent.length := by omega
    have hl := hY.ok.ent
    by_cases h0 : 0 < Y.since (j : Int)
    · have he : Y.enterErr (j : Int) = 40 := by unfold YV.enterErr; rw [hb, if_neg (by decide), if_pos h0]
      have HP := Lib.hid (show YPost k y a (Y.enter (j : Int)) w own (.slice (some ⟨g, 0, none⟩) Y.ent.length rc) lv (Y.enterErr (j : Int)) (.returned (.int .i64 40)) w from ⟨by rw [he], Ext.refl, by unfold YV.enter; rw [if_neg (by rw [he]; decide)]; exact hY⟩)
      rw [hs] at h0
      clear he hY hs
      generalize Y.ent[j] = u at *
      go_enter Try.func37, Try.ntmps37
      go_wp2_with fail
      refine HBD.out.mono ?_
      rintro e w1 ⟨rfl, rfl⟩
      go_wp2_with fail
      go_ret
      exact HP.out
    · have he : Y.enterErr (j : Int) = 0 := by unfold YV.enterErr; rw [hb, if_neg (by decide), if_neg h0]
      have hok := hY.ok.enter hn j
      have hnw := hY.ok.now
      obtain ⟨hY1, hE1⟩ := hY.set_now (Y.now + 1) ⟨hY.ok.ent, by show 0 ≤ Y.now + 1 ∧ Y.now + 1 < 2000000000000000; omega, hY.ok.bound, fun x hx => by have := hY.ok.since x hx; show 0 ≤ x ∧ x ≤ Y.now + 1; omega⟩
      obtain ⟨hY2, hE2⟩ := (Yard.ext hY1 (M := fun _ => False) (Ext.refl.drew) (by simp)).set_ent hj (Y.now + 1) hok
      have HP := Lib.hid (show YPost k y a (Y.enter (j : Int)) w own (.slice (some ⟨g, 0, none⟩) Y.ent.length rc) lv (Y.enterErr (j : Int)) (.returned (.int .i64 0)) ((w.setCell ⟨y, 2, none⟩ (.int .i64 (Y.now + 1))).drew.setCell ⟨g, j, none⟩ (.int .i64 (Y.now + 1))) from
        ⟨by rw [he], (hE1.drew).trans hE2, by unfold YV.enter; rw [if_pos he, Int.toNat_natCast]; exact hY2⟩)
      rw [hs] at h0
      have hne : y ≠ g := by
        intro h
        obtain ⟨_, _, _, hv, hb2, _⟩ := hY.ent.cells (by omega)
        injection hv with hv1
        injection hv1 with hv1
        injection hv1 with hv1
        subst hv1
        exact hY.box.ne_obj hb2 (by intro h; injection h with _ h; cases h) h
      have hne2 := Ne.symm hne
      clear he hs hY1 hE1 hY2 hE2 hok hY
      generalize Y.ent[j] = u at *
      generalize Y.ent.length = len at *
      generalize Y.now = now at *
      go_enter Try.func37, Try.ntmps37
      go_wp2_with fail
      refine HBD.out.mono ?_
      rintro e w1 ⟨rfl, rfl⟩
      go_wp2_with fail
      go_region
      go_wp2_with fail
      go_ret
      exact HP.out
theorem YV.Ok.leave (h : Y.Ok) (j : Nat) : YV.Ok { Y with ent := Y.ent.set j 0 } :=
  ⟨by simpa using h.ent, h.now, h.bound, fun x hx => by
    have hx : x ∈ Y.ent.set j 0 := hx
    show 0 ≤ x ∧ x ≤ Y.now
    rcases List.mem_or_eq_of_mem_set hx with h1 | rfl
    · exact h.since x h1
    · have := h.now; omega⟩
set_option maxHeartbeats 1000000 in
theorem Leave_any (hY : Yard w own k y a Y ev lv) (t : Int) :
    Calls Try.prog 52 #[.pointer (some ⟨y, 0, none⟩), .int .i64 t] w (YPost k y a (Y.leave t) w own ev lv (Y.leaveErr t)) := by
  have HBD := Lib.hid (bad_any hY t)
  cases hb : Y.bad t with
  | true =>
    have he : Y.leaveErr t = 1 := by unfold YV.leaveErr; rw [hb]; rfl
    have HP := Lib.hid (show YPost k y a (Y.leave t) w own ev lv (Y.leaveErr t) (.returned (.int .i64 1)) w from ⟨by rw [he], Ext.refl, by unfold YV.leave; rw [if_neg (by rw [he]; decide)]; exact hY⟩)
    clear he hY
    go_enter Try.func52, Try.ntmps52
    go_wp2_with fail
    refine HBD.out.mono ?_
    rintro e w1 ⟨rfl, rfl⟩
    go_wp2_with fail
    go_ret
    exact HP.out
  | false =>
    obtain ⟨j, rfl, hj, hj1, hs⟩ := YV.good_at hb
    obtain ⟨c0, c1, c2, c3, c4⟩ := five_y hY.box
    obtain ⟨ra, rc, rfl⟩ := hY.ent.shape
    obtain ⟨g, rfl, hg, hgc, hfg, hx, hc⟩ := Row.irow_at hY.ent hj
    have hj2 : (j : Int) < Y.ent.length := by omega
    have hl := hY.ok.ent
    by_cases h0 : Y.since (j : Int) = 0
    · have he : Y.leaveErr (j : Int) = 41 := by unfold YV.leaveErr; rw [hb, if_neg (by decide), if_pos h0]
      have HP := Lib.hid (show YPost k y a (Y.leave (j : Int)) w own (.slice (some ⟨g, 0, none⟩) Y.ent.length rc) lv (Y.leaveErr (j : Int)) (.returned (.int .i64 41)) w from ⟨by rw [he], Ext.refl, by unfold YV.leave; rw [if_neg (by rw [he]; decide)]; exact hY⟩)
      rw [hs] at h0
      have hb0 : (Y.ent[j] == 0) = true := by simp [h0]
      clear he hY hs h0
      generalize Y.ent[j] = u at *
      go_enter Try.func52, Try.ntmps52
      go_wp2_with fail
      refine HBD.out.mono ?_
      rintro e w1 ⟨rfl, rfl⟩
      go_wp2_with fail
      go_ret
      exact HP.out
    · have he : Y.leaveErr (j : Int) = 0 := by unfold YV.leaveErr; rw [hb, if_neg (by decide), if_neg h0]
      obtain ⟨hY2, hE2⟩ := hY.set_ent hj 0 (hY.ok.leave j)
      have HP := Lib.hid (show YPost k y a (Y.leave (j : Int)) w own (.slice (some ⟨g, 0, none⟩) Y.ent.length rc) lv (Y.leaveErr (j : Int)) (.returned (.int .i64 0)) (w.setCell ⟨g, j, none⟩ (.int .i64 0)) from
        ⟨by rw [he], hE2, by unfold YV.leave; rw [if_pos he, Int.toNat_natCast]; exact hY2⟩)
      rw [hs] at h0
      have hb0 : (Y.ent[j] == 0) = false := by simp [h0]
      clear he hs hY2 hE2 hY h0
      generalize Y.ent[j] = u at *
      generalize Y.ent.length = len at *
      go_enter Try.func52, Try.ntmps52
      go_wp2_with fail
      refine HBD.out.mono ?_
      rintro e w1 ⟨rfl, rfl⟩
      go_wp2_with fail
      go_ret
      exact HP.out
end
/-! ### Inside, Waiting, Limbo -/
def insFrom : Nat → List Int → List Int
  | _, [] => []
  | i, x :: l => if 0 < x then (i : Int) :: insFrom (i + 1) l else insFrom (i + 1) l
theorem insFrom_append (l m : List Int) : ∀ i, insFrom i (l ++ m) = insFrom i l ++ insFrom (i + l.length) m := by
  induction l with
  | nil => intro i; simp [insFrom]
  | cons x l ih =>
    intro i
    have e : i + 1 + l.length = i + (x :: l).length := by simp; omega
    simp only [List.cons_append, insFrom, ih, e]
    split <;> rfl
theorem insFrom_len (l : List Int) : ∀ i, (insFrom i l).length ≤ l.length := by
  induction l with
  | nil => intro i; simp [insFrom]
  | cons x l ih =>
    intro i
    have := ih (i + 1)
    unfold insFrom
    split <;> simp <;> omega
def YV.inside (Y : YV) : List Int := insFrom 0 Y.ent
def insT (l : List Int) (i : Nat) : List Int := insFrom 0 (l.take i)
theorem insT_succ (l : List Int) (i : Nat) (hi : i < l.length) : insT l (i + 1) = insT l i ++ (if 0 < l[i] then [(i : Int)] else []) := by
  unfold insT
  rw [List.take_succ_eq_append_getElem hi, insFrom_append]
  have e : 0 + (l.take i).length = i := by rw [List.length_take]; omega
  rw [e]
  simp only [insFrom]
def YV.waiting (Y : YV) : List Int := Y.limbo.map (·.1)
section
variable {w : World} {own : Nat → Nat} {k y a : Nat} {Y : YV} {ev lv : Value}
def InsInv (w0 : World) (l : List Int) (g : Nat) (ov iv : Value) (w : World) : Prop :=
  ∃ (own : Nat → Nat) (i : Nat), iv = .int .i64 i ∧ i + g = l.length ∧ Row w own 1 3 1 ov (insT l i).length (irow (insT l i)) ∧ Ext (fun c => c ≠ 0) w0 w (fun _ => 0) own
theorem Row.flat_cells {ra : Option Addr} {rc n : Nat} {l : List (Int × Int × Int)} {E : TypeId} (h : Row w own k E 3 (.slice ra n rc) l.length (flat l)) {i : Nat} (hi : i < l.length) :
    ∃ g, ra = some ⟨g, 0, none⟩ ∧ g < w.heap.size ∧ own g = k ∧ w.cell? ⟨g, i * 3, none⟩ = some (.int .i64 l[i].1) ∧ w.cell? ⟨g, i * 3 + 1, none⟩ = some (.int .i64 l[i].2.1) ∧ w.cell? ⟨g, i * 3 + 2, none⟩ = some (.int .i64 l[i].2.2) := by
  obtain ⟨g, cap, cur, hv, hb, _, _, _, hc⟩ := h.cells (by omega)
  injection hv with hv
  obtain ⟨h1, h2, h3⟩ := flat_at l i hi
  refine ⟨g, hv, hb.lt, hb.col, ?_, ?_, ?_⟩
  · rw [hc _ (by omega), h1]
  · rw [hc _ (by omega), h2]
  · rw [hc _ (by omega), h3]
def WtInv (w0 : World) (l : List (Int × Int × Int)) (g : Nat) (ov iv : Value) (w : World) : Prop :=
  ∃ (own : Nat → Nat) (i : Nat), iv = .int .i64 i ∧ i + g = l.length ∧ Row w own 1 3 1 ov i (irow ((l.take i).map (·.1))) ∧ Ext (fun c => c ≠ 0) w0 w (fun _ => 0) own
def cntT (l : List (Int × Int × Int)) (t : Int) (i : Nat) : Nat := ((l.take i).filter fun p => p.2.1 == t).length
theorem cntT_succ (l : List (Int × Int × Int)) (t : Int) (i : Nat) (hi : i < l.length) : cntT l t (i + 1) = cntT l t i + (if l[i].2.1 == t then 1 else 0) := by
  unfold cntT
  rw [List.take_succ_eq_append_getElem hi, List.filter_append, List.length_append]
  by_cases h : (l[i].2.1 == t) = true
  · simp [List.filter_cons, h]
  · simp [List.filter_cons, h]
def LbInv (w0 : World) (l : List (Int × Int × Int)) (t : Int) (g : Nat) (ov iv : Value) (w : World) : Prop :=
  ∃ (own : Nat → Nat) (i : Nat), iv = .int .i64 i ∧ i + g = l.length ∧ ov = .int .i64 (cntT l t i) ∧ Ext (fun c => c ≠ 0) w0 w (fun _ => 0) own
set_option maxHeartbeats 1000000 in
theorem Limbo_any (hY : Yard w own k y a Y ev lv) (hn : Y.limbo.length ≤ 4000000000000) (t : Int) :
    Calls Try.prog 44 #[.pointer (some ⟨y, 0, none⟩), .int .i64 t] w fun e w' => e = .returned (.int .i64 (Y.limboN t : Nat)) ∧ Below w.heap.size w w' := by
  obtain ⟨c0, c1, c2, c3, c4⟩ := five_y hY.box
  have HR := Lib.hid hY.lim
  obtain ⟨ra, rc, rfl⟩ := hY.lim.shape
  clear hY
  unfold YV.limboN
  generalize Y.limbo = l at *
  go_enter Try.func44, Try.ntmps44
  go_wp2_with fail
  go_loopg [5, 13] l.length (fun g ov iv wr => LbInv w l t g ov iv wr)
  case atStart => exact ⟨fun _ => 0, 0, rfl, by omega, rfl, Ext.refl⟩
  case round =>
    clear c0 c1 c2 c3 c4
    obtain ⟨own1, i, rfl, hi, rfl, hE⟩ := hrel
    have HE := Lib.hid hE
    clear hE
    by_cases hlt : i < l.length
    · have hlt2 : (i : Int) < l.length := by omega
      obtain ⟨g, rfl, hg, _, h0, h1, h2⟩ := Row.flat_cells HR.out hlt
      have d0 : wr.cell? ⟨g, i * 3, none⟩ = some (.int .i64 l[i].1) := HE.out.old hg h0
      have d1 : wr.cell? ⟨g, i * 3 + 1, none⟩ = some (.int .i64 l[i].2.1) := HE.out.old hg h1
      have d2 : wr.cell? ⟨g, i * 3 + 2, none⟩ = some (.int .i64 l[i].2.2) := HE.out.old hg h2
      have hS := cntT_succ l t i hlt
      have hct : cntT l t i ≤ i := by unfold cntT; refine Nat.le_trans (List.length_filter_le _ _) ?_; rw [List.length_take]; omega
      have HX := Lib.hid (show Ext (fun c => c ≠ 0) wr (wr.alloc (.cells #[.int .i64 l[i].1, .int .i64 l[i].2.1, .int .i64 l[i].2.2] 104)) own1 (ow own1 wr.heap.size 2) from (Ext.refl.ow 2).alloc _)
      clear h0 h1 h2
      rcases Bool.eq_false_or_eq_true (l[i].2.1 == t) with hb | hb
      · have HS := Lib.hid (show cntT l t (i + 1) = cntT l t i + 1 by rw [hS, hb]; rfl)
        clear hS
        generalize cntT l t i = ct at *
        generalize l[i].1 = x0 at *
        generalize l[i].2.1 = x1 at *
        generalize l[i].2.2 = x2 at *
        go_wp2_with fail
        go_roundg (l.length - (i + 1))
        case measure => omega
        case rel => exact ⟨_, i + 1, by go_num, by omega, by rw [HS.out]; go_num, HE.out.trans HX.out⟩
      · have HS := Lib.hid (show cntT l t (i + 1) = cntT l t i by rw [hS, hb]; rfl)
        clear hS
        generalize cntT l t i = ct at *
        generalize l[i].1 = x0 at *
        generalize l[i].2.1 = x1 at *
        generalize l[i].2.2 = x2 at *
        go_wp2_with fail
        go_roundg (l.length - (i + 1))
        case measure => omega
        case rel => exact ⟨_, i + 1, by go_num, by omega, by rw [HS.out], HE.out.trans HX.out⟩
    · obtain rfl : i = l.length := by omega
      have HF := Lib.hid (show cntT l t l.length = (l.filter fun p => p.2.1 == t).length by unfold cntT; rw [List.take_length])
      have HBW := Lib.hid (HE.out.below (by simp))
      go_wp2_with fail
      go_ret
      exact ⟨by rw [← HF.out]; rfl, HBW.out⟩
end
end Go.Proofs.Ytefhngbeodnldaa
