/- The document's answer for layer 5: Add and Cut. -/
import Derived.Test.YtefhngbeodnldaaChainRef2
set_option maxRecDepth 20000
set_option linter.unusedVariables false
set_option linter.unusedSimpArgs false
namespace Go.Proofs.Ytefhngbeodnldaa
open Go.RowKit Go.PM
theorem wpList_append_i64 {ops : Array Oper} {rest : List Oper} {o : Oper} {a : Act} {Q : Exit → Act → World → Prop} {w0 : World} {own : Nat → Nat} {k n : Nat} {v : Value} {xs : List Int} (hgd : o.guard = none) (s y : Operand)
    (ho : o.op = .call { callee := .builtin .append, args := #[s, y], argTypes := #[22, 22] })
    (x : Int) (hs : a.eval s = v) (hrow : Row w0 own k 2 1 v n (irow xs)) (hn : n ≤ 7000000000000)
    {q : Nat} (hx : a.eval y = .slice (some ⟨q, 0, none⟩) 1 1) (hq : q = w0.heap.size)
    (h : ∀ v' w' own', Row w' own' k 2 1 v' (n + 1) (irow (xs ++ [x])) → Ext (fun c => c = k) w0 w' own own' → wpList Try.prog ops Q rest (a.put o.dst v') w') :
    wpList Try.prog ops Q (o :: rest) a (w0.alloc (.cells #[.int .i64 x] 2)) := by
  subst hq
  obtain ⟨i0, hi0, hz0, hz1, hz2⟩ := parts_i64
  have hb1 : n + 1 ≤ maxLen := by unfold maxLen; omega
  have hb2 : (n + 1) * 8 ≤ 140737488355328 := by omega
  refine wpList_append_row hgd s y 22 ho i0 (.int .i64 0) 8 Try.underlying22 hi0 hz0 hz1 hz2 rfl (by decide) hs (hrow.alloc _) ⟨w0.heap.size, 0, none⟩ 1 1 [.int .i64 x] hx rfl (one_cell (new_cell rfl)) (one_ok rfl) hb1 hb2 ?_
  intro v' w' h1 h2 _
  refine h v' w' _ ?_ ((Ext.refl.alloc _).trans h2)
  simpa [irow] using h1
theorem VwC.at {w : World} {C : Nat → Prop} {a : Option Addr} {n c : Nat} {xs : List Int} (h : VwC w C (.slice a n c) xs) {j : Nat} (hj : j < xs.length) : ∃ g off, a = some ⟨g, off, none⟩ ∧ g < w.heap.size ∧ w.cell? ⟨g, off + j, none⟩ = some (.int .i64 xs[j]) := by
  obtain ⟨_, ⟨_, rfl⟩ | ⟨g, off, c', h2, h3, h4, h5, h7, h6⟩⟩ := h
  · simp at hj
  · injection h2 with e1 _ _
    exact ⟨g, off, e1, h5, h6 j _ (List.getElem?_eq_getElem hj)⟩
section
variable {w : World}
def AdInv0 (w2 : World) (n1 : Nat) (l : List Int) (g : Nat) (ov iv : Value) (w : World) : Prop :=
  ∃ (own : Nat → Nat) (i : Nat), iv = .int .i64 i ∧ i + g = l.length ∧ Row w own 1 2 1 ov i (irow (l.take i)) ∧ Ext (fun c => c = 1) w2 w (fresh n1) own
def AdInv1 (w2 : World) (n1 : Nat) (x : Int) (l : List Int) (g : Nat) (ov iv : Value) (w : World) : Prop :=
  ∃ (own : Nat → Nat) (i : Nat), iv = .int .i64 i ∧ i + g = l.length ∧ Row w own 1 2 1 ov (i + 1) (irow (x :: l.take i)) ∧ Ext (fun c => c = 1) w2 w (fresh n1) own
def addL (l : List Int) (v : Int) (front : Bool) : List Int := if front then v :: l else l ++ [v]
set_option maxHeartbeats 4000000 in
theorem RefAdd_any {C : Nat → Prop} {bv : Value} {R : RB} (m : Nat) (hv : RBAt w C bv R) (hm : m < R.length) (hlen : R[m].1.length ≤ 900) (hst : 0 ≤ R[m].2 ∧ R[m].2 ≤ 1000000000000000) (x : Int) (front : Bool) :
    Calls Try.prog 12 #[bv, .int .i64 ((m : Int) + 1), .int .i64 x, .bool front] w fun e w' => ∃ v', e = .returned v' ∧ RefPost w C (R.set m (addL R[m].1 x front, R[m].2 + 1)) v' w' := by
  have hRl : R.length ≤ 100 := hv.1
  obtain ⟨ba, bc, rfl⟩ := hv.shape
  have HV := Lib.hid hv
  obtain ⟨g, lv, rfl, hg, hCg, hq0, hq1, hvl⟩ := hv.get hm
  obtain ⟨la, lc, rfl⟩ := hvl.shape
  have HL := Lib.hid hvl
  have hm2 : (m : Int) < (R.length : Int) := by omega
  obtain ⟨hst1, hst2⟩ := hst
  have HPUT := Lib.hid (fun (w9 : World) (lv9 : Value) (hB : Below w.heap.size w w9) (h : VwC w9 (fun g => C g ∨ w.heap.size ≤ g) lv9 (addL R[m].1 x front)) =>
    RefPut_any (C := fun g => C g ∨ w.heap.size ≤ g) (st := R[m].2 + 1) m (hv.carry hB.size (fun g hg hc => ⟨hB.block g hg, .inl hc⟩)) h (by omega))
  clear hv hvl
  generalize R.set m (addL R[m].1 x front, R[m].2 + 1) = R2 at *
  generalize R[m].1 = l at *
  generalize R[m].2 = st at *
  have hb0 := Blk.new (own := fun _ => 0) (k := 0) w (.cells #[.slice la l.length lc, .int .i64 st] 48) rfl
  have hB0 : Below w.heap.size w (w.alloc (.cells #[.slice la l.length lc, .int .i64 st] 48)) := (Below.refl _ _).alloc (Nat.le_refl _) _
  have hs0 := World.size_alloc w (.cells #[.slice la l.length lc, .int .i64 st] 48)
  have HSZ := Lib.hid hs0
  have HB0 := Lib.hid hB0
  have HBX := Lib.hid hb0
  clear hb0 hB0 hs0
  have HB1 := Lib.hid ((Below.refl (w.alloc (.cells #[.slice la l.length lc, .int .i64 st] 48)).heap.size (w.alloc (.cells #[.slice la l.length lc, .int .i64 st] 48))).alloc (Nat.le_refl _) (.cells #[] 2))
  have HROW := Lib.hid (show Row ((w.alloc (.cells #[.slice la l.length lc, .int .i64 st] 48)).alloc (.cells #[] 2)) (fresh (w.alloc (.cells #[.slice la l.length lc, .int .i64 st] 48)).heap.size) 1 2 1 (.slice (some ⟨(w.alloc (.cells #[.slice la l.length lc, .int .i64 st] 48)).heap.size, 0, none⟩) 0 0) 0 [] from Row.start (Blk.new _ _ (ow_ge (Nat.le_refl _))))
  have HFR := Lib.hid (show fresh (w.alloc (.cells #[.slice la l.length lc, .int .i64 st] 48)).heap.size = fresh (w.heap.size + 1) by rw [HSZ.out])
  rw [HSZ.out] at HROW
  cases front with
  | true =>
    have HPUT2 := Lib.hid (fun w9 lv9 hB h => HPUT.out w9 lv9 hB (show VwC w9 (fun g => C g ∨ w.heap.size ≤ g) lv9 (addL l x true) from h))
    clear HPUT
    go_enter Try.func12, Try.ntmps12
    go_wp2_with (at_builtin; refine wpList_append_i64 (w0 := (w.alloc (.cells #[.slice la l.length lc, .int .i64 st] 48)).alloc (.cells #[] 2)) (n := 0) (xs := []) rfl _ _ rfl x rfl HROW.out (by omega) rfl (by simp only [World.size_alloc]) ?_; intro v8 w8 own8 hr8 hE8; obtain ⟨a8, c8, rfl⟩ := hr8.shape)
    have HE08 := Lib.hid (show Ext (fun c => c = 1) ((w.alloc (.cells #[.slice la l.length lc, .int .i64 st] 48)).alloc (.cells #[] 2)) w8 (fresh (w.alloc (.cells #[.slice la l.length lc, .int .i64 st] 48)).heap.size) own8 from by rw [HSZ.out]; exact hE8)
    have HB2 := Lib.hid (HB1.out.trans ((HE08.out.freshBelow HB1.out.size).mono (Nat.le_refl _)))
    have HR8 := Lib.hid hr8
    have HSE := Lib.hid HB1.out.size
    have HB20 := Lib.hid HB1.out
    clear hr8 hE8 HB1
    generalize hw2 : (w.alloc (.cells #[.slice la l.length lc, .int .i64 st] 48)).alloc (.cells #[] 2) = w2 at *
    generalize hw1 : (w.alloc (.cells #[.slice la l.length lc, .int .i64 st] 48)) = w1 at *
    go_loopg [10, 11] l.length (fun g ov iv wr => AdInv1 w2 w1.heap.size x l g ov iv wr)
    case atStart => exact ⟨_, 0, rfl, by omega, HR8.out, HE08.out⟩
    case round =>
        obtain ⟨own1, i, rfl, hi, hrow, hE⟩ := hrel
        obtain ⟨oa, oc, rfl⟩ := hrow.shape
        have HE := Lib.hid hE
        have HW := Lib.hid hrow
        have hBr := (Below.trans HB20.out ((hE.freshBelow HSE.out).mono (Nat.le_refl _)))
        have hBw := HB0.out.trans (hBr.mono HB0.out.size)
        have HBR := Lib.hid hBw
        have hbx := (⟨by rw [hBr.block _ HBX.out.lt]; exact HBX.out.at_, rfl⟩ : Blk wr (fun _ => 0) 0 w.heap.size (.cells #[.slice la l.length lc, .int .i64 st] 48 (0, 0)))
        have x0 : wr.cell? ⟨w.heap.size, 0, none⟩ = some (.slice la l.length lc) := hbx.cell 0
        have x1 : wr.cell? ⟨w.heap.size, 1, none⟩ = some (.int .i64 st) := hbx.cell 1
        have xl := hbx.lt
        have HBX2 := Lib.hid hbx
        by_cases hlt : i < l.length
        · have hlt2 : (i : Int) < (l.length : Int) := by omega
          obtain ⟨g2, off2, rfl, hg2, hq2⟩ := HL.out.at hlt
          have y0 : wr.cell? ⟨g2, off2 + i, none⟩ = some (.int .i64 l[i]) := by rw [hBw.cell (p := ⟨g2, off2 + i, none⟩) hg2]; exact hq2
          have HTK := Lib.hid (show l.take (i + 1) = l.take i ++ [l[i]] from List.take_succ_eq_append_getElem hlt)
          clear hrow hE hBr hBw hbx hq2
          generalize l[i] = z at *
          go_wp2_with (at_builtin; refine wpList_append_i64 (w0 := wr) (n := i + 1) rfl _ _ rfl z rfl HW.out (by omega) rfl rfl ?_; intro v7 w7 own7 hr7 hE7; obtain ⟨a7, c7, rfl⟩ := hr7.shape)
          have HR7 := Lib.hid (show Row w7 own7 1 2 1 (.slice a7 (i + 1 + 1) c7) (i + 1 + 1) (irow (x :: l.take (i + 1))) from by rw [HTK.out]; exact hr7)
          have HE7 := Lib.hid (HE.out.trans hE7)
          clear hr7 hE7
          go_wp2_with fail
          go_roundg (l.length - (i + 1))
          case measure => omega
          case rel => exact ⟨_, i + 1, by go_num, by omega, HR7.out, HE7.out⟩
        · obtain rfl : i = l.length := by omega
          have HW2 := Lib.hid (show Row wr own1 1 2 1 (.slice oa (l.length + 1) oc) (l.length + 1) (irow (x :: l)) from by have := hrow; rw [List.take_length] at this; exact this)
          have hvw : VwC wr (fun g => C g ∨ w.heap.size ≤ g) (.slice oa (l.length + 1) oc) (x :: l) := Row.vwc HW2.out (by simp) (by omega) (fun g hg ho => .inr (by have := row_new HE.out HSE.out ho; rw [HSZ.out] at this; omega))
          have HPU := Lib.hid (HPUT2.out wr _ HBR.out hvw)
          clear hrow hE hBr hBw hbx HW hvw HW2
          go_wp2_with fail
          refine HPU.out.mono ?_
          rintro e w9 ⟨v', rfl, hP, hBP⟩
          have HP := Lib.hid (show RefPost w C R2 v' w9 from ⟨hP.carry (Nat.le_refl _) (fun g _ hc => ⟨rfl, hc.elim id fun h => .inr (by have := HBR.out.size; omega)⟩), HBR.out.trans (hBP.mono HBR.out.size)⟩)
          clear hP hBP HPU
          go_wp2_with fail
          go_ret
          exact ⟨_, rfl, HP.out⟩
  | false =>
    have HPUT2 := Lib.hid (fun w9 lv9 hB h => HPUT.out w9 lv9 hB (show VwC w9 (fun g => C g ∨ w.heap.size ≤ g) lv9 (addL l x false) from h))
    have HB2 := HB1
    clear HPUT HB1
    go_enter Try.func12, Try.ntmps12
    go_wp2_with fail
    generalize hw2 : (w.alloc (.cells #[.slice la l.length lc, .int .i64 st] 48)).alloc (.cells #[] 2) = w2 at *
    generalize hw1 : (w.alloc (.cells #[.slice la l.length lc, .int .i64 st] 48)) = w1 at *
    go_loopg [10, 11] l.length (fun g ov iv wr => AdInv0 w2 w1.heap.size l g ov iv wr)
    case atStart => exact ⟨_, 0, rfl, by omega, by rw [HSZ.out]; exact HROW.out, Ext.refl⟩
    case round =>
        obtain ⟨own1, i, rfl, hi, hrow, hE⟩ := hrel
        obtain ⟨oa, oc, rfl⟩ := hrow.shape
        have HE := Lib.hid hE
        have HW := Lib.hid hrow
        have hBr := HB2.out.trans ((hE.freshBelow HB2.out.size).mono (Nat.le_refl _))
        have hBw := HB0.out.trans (hBr.mono HB0.out.size)
        have HBR := Lib.hid hBw
        have hbx := (⟨by rw [hBr.block _ HBX.out.lt]; exact HBX.out.at_, rfl⟩ : Blk wr (fun _ => 0) 0 w.heap.size (.cells #[.slice la l.length lc, .int .i64 st] 48 (0, 0)))
        have x0 : wr.cell? ⟨w.heap.size, 0, none⟩ = some (.slice la l.length lc) := hbx.cell 0
        have x1 : wr.cell? ⟨w.heap.size, 1, none⟩ = some (.int .i64 st) := hbx.cell 1
        have xl := hbx.lt
        have HBX2 := Lib.hid hbx
        by_cases hlt : i < l.length
        · have hlt2 : (i : Int) < (l.length : Int) := by omega
          obtain ⟨g2, off2, rfl, hg2, hq2⟩ := HL.out.at hlt
          have y0 : wr.cell? ⟨g2, off2 + i, none⟩ = some (.int .i64 l[i]) := by rw [hBw.cell (p := ⟨g2, off2 + i, none⟩) hg2]; exact hq2
          have HTK := Lib.hid (show l.take (i + 1) = l.take i ++ [l[i]] from List.take_succ_eq_append_getElem hlt)
          clear hrow hE hBr hBw hbx hq2
          generalize l[i] = z at *
          go_wp2_with (at_builtin; refine wpList_append_i64 (w0 := wr) (n := i) rfl _ _ rfl z rfl HW.out (by omega) rfl rfl ?_; intro v8 w8 own8 hr8 hE8; obtain ⟨a8, c8, rfl⟩ := hr8.shape)
          have HR8 := Lib.hid (show Row w8 own8 1 2 1 (.slice a8 (i + 1) c8) (i + 1) (irow (l.take (i + 1))) from by rw [HTK.out]; exact hr8)
          have HE8 := Lib.hid (HE.out.trans hE8)
          clear hr8 hE8
          go_wp2_with fail
          go_roundg (l.length - (i + 1))
          case measure => omega
          case rel => exact ⟨_, i + 1, by go_num, by omega, HR8.out, HE8.out⟩
        · obtain rfl : i = l.length := by omega
          have HW2 := Lib.hid (show Row wr own1 1 2 1 (.slice oa l.length oc) l.length (irow l) from by have := hrow; rw [List.take_length] at this; exact this)
          clear hrow hE hBr hBw hbx HW
          go_wp2_with (at_builtin; refine wpList_append_i64 (w0 := wr) (n := l.length) rfl _ _ rfl x rfl HW2.out (by omega) rfl rfl ?_; intro v8 w8 own8 hr8 hE8; obtain ⟨a8, c8, rfl⟩ := hr8.shape; have hB9 := HB2.out.trans (((HE.out.trans hE8).freshBelow HB2.out.size).mono (Nat.le_refl _)); have hbx8 := (⟨by rw [hB9.block _ HBX.out.lt]; exact HBX.out.at_, rfl⟩ : Blk w8 (fun _ => 0) 0 w.heap.size (.cells #[.slice la l.length lc, .int .i64 st] 48 (0, 0))); have z1 : w8.cell? ⟨w.heap.size, 1, none⟩ = some (.int .i64 st) := hbx8.cell 1; have zl := hbx8.lt; clear hbx8)
          have hE9 := HE.out.trans hE8
          have hB9w := HB0.out.trans (hB9.mono HB0.out.size)
          have hvw : VwC w8 (fun g => C g ∨ w.heap.size ≤ g) (.slice a8 (l.length + 1) c8) (l ++ [x]) := Row.vwc hr8 (by simp) (by omega) (fun g hg ho => .inr (by have := row_new hE9 HB2.out.size ho; rw [HSZ.out] at this; omega))
          have HPU := Lib.hid (HPUT2.out w8 _ hB9w hvw)
          have HB9 := Lib.hid hB9w
          clear hr8 hE8 hE9 hB9 hB9w hvw
          go_wp2_with fail
          refine HPU.out.mono ?_
          rintro e w9 ⟨v', rfl, hP, hBP⟩
          have HP := Lib.hid (show RefPost w C R2 v' w9 from ⟨hP.carry (Nat.le_refl _) (fun g _ hc => ⟨rfl, hc.elim id fun h => .inr (by have := HB9.out.size; omega)⟩), HB9.out.trans (hBP.mono HB9.out.size)⟩)
          clear hP hBP HPU
          go_wp2_with fail
          go_ret
          exact ⟨_, rfl, HP.out⟩
end
end Go.Proofs.Ytefhngbeodnldaa
