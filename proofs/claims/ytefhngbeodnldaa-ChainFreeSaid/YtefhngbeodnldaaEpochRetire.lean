/- Layer 4: Retire, New. -/
import Derived.Test.YtefhngbeodnldaaEpochSweep
import Derived.Test.YtefhngbeodnldaaPlan4
set_option maxRecDepth 20000
set_option linter.unusedVariables false
set_option linter.unusedSimpArgs false
namespace Go.Proofs.Ytefhngbeodnldaa
open Go.RowKit Go.PM

theorem info_wt : (Try.prog.info? 104).map (fun i => (i.zero, i.size, i.bytes)) = some (some (.agg #[.int .i64 0, .int .i64 0, .int .i64 0]), 3, 24) := by kernel_rfl
theorem parts_wt : ∃ i, Try.prog.info? 104 = some i ∧ i.zero = some (.agg #[.int .i64 0, .int .i64 0, .int .i64 0]) ∧ i.size = 3 ∧ i.bytes = 24 := by
  have h := info_wt
  cases hx : Try.prog.info? 104 with
  | none => rw [hx] at h; cases h
  | some i =>
    rw [hx] at h
    have := Option.some.inj h
    injection this with h1 h2
    injection h2 with h2 h3
    exact ⟨i, rfl, h1, h2, h3⟩
theorem flat_append (l m : List (Int × Int × Int)) : flat (l ++ m) = flat l ++ flat m := by simp [flat]
theorem wpList_append_wt {ops : Array Oper} {rest : List Oper} {o : Oper} {a : Act} {Q : Exit → Act → World → Prop} {w0 : World} {own : Nat → Nat} {k n : Nat} {v : Value} {l : List (Int × Int × Int)} (hgd : o.guard = none) (s y : Operand)
    (ho : o.op = .call { callee := .builtin .append, args := #[s, y], argTypes := #[84, 84] })
    (p : Int × Int × Int) (hs : a.eval s = v) (hrow : Row w0 own k 104 3 v n (flat l)) (hn : n ≤ 4000000000000)
    {q : Nat} (hx : a.eval y = .slice (some ⟨q, 0, none⟩) 1 1) (hq : q = w0.heap.size)
    (h : ∀ v' w' own', Row w' own' k 104 3 v' (n + 1) (flat (l ++ [p])) → Ext (fun c => c = k) w0 w' own own' → (∀ b, b < w0.heap.size → some b ≠ v.ownBlock → w'.heap[b]? = w0.heap[b]?) → wpList Try.prog ops Q rest (a.put o.dst v') w') :
    wpList Try.prog ops Q (o :: rest) a (w0.alloc (.cells #[.int .i64 p.1, .int .i64 p.2.1, .int .i64 p.2.2] 104)) := by
  subst hq
  obtain ⟨i0, hi0, hz0, hz1, hz2⟩ := parts_wt
  have hb1 : n + 1 ≤ maxLen := by unfold maxLen; omega
  have hb2 : (n + 1) * 24 ≤ 140737488355328 := by omega
  have hadd : ∀ j, (⟨w0.heap.size, 0, none⟩ : Addr).add j = ⟨w0.heap.size, j, none⟩ := fun j => by unfold Addr.add; split <;> simp_all
  refine wpList_append_row hgd s y 84 ho i0 (.agg #[.int .i64 0, .int .i64 0, .int .i64 0]) 24 Try.underlying84 hi0 hz0 hz1 hz2 rfl (by decide) hs (hrow.alloc _) ⟨w0.heap.size, 0, none⟩ 1 1 (wt p) hx rfl (fun j u hu => ?_) (fun u hu => ?_) hb1 hb2 ?_
  · rw [hadd]
    have hcell : (w0.alloc (.cells #[.int .i64 p.1, .int .i64 p.2.1, .int .i64 p.2.2] 104)).cell? ⟨w0.heap.size, j, none⟩ = (wt p)[j]? := by
      simp only [World.cell?, heap_alloc_new]
      simp [wt]
    rw [hcell]; exact hu
  · simp only [wt, List.mem_cons, List.not_mem_nil, or_false] at hu
    rcases hu with rfl | rfl | rfl <;> rfl
  · intro v' w' h1 h2 h3
    refine h v' w' _ ?_ ((Ext.refl.alloc _).trans h2) (fun b hb hv => by rw [h3.block b (by simp; omega) hv, heap_alloc_old w0 _ hb])
    rw [flat_append]
    have e : flat [p] = wt p := by simp [flat]
    rw [e]
    exact h1
theorem row_other {w : World} {own : Nat → Nat} {k size n b : Nat} {E : TypeId} {v : Value} {xs : List Value} {o : Obj} (hr : Row w own k E size v n xs) (hb : w.heap[b]? = some o) (ho : ∀ cs, o ≠ .cells cs E (0, 0)) : some b ≠ v.ownBlock := by
  obtain ⟨_, ⟨rfl, _⟩ | ⟨g, cap, cur, rfl, hg, _⟩⟩ := hr
  · simp [Value.ownBlock]
  · intro e
    simp only [Value.ownBlock, Option.map_some, Option.some.injEq] at e
    subst e
    rw [hg.at_] at hb
    exact ho _ (Option.some.inj hb).symm
theorem Row.kept_as {w w' : World} {own own' : Nat → Nat} {k size n : Nat} {E : TypeId} {v : Value} {xs : List Value} (h : Row w own k E size v n xs) (hk : ∀ b cur, w.heap[b]? = some (.cells cur E (0, 0)) → own b = k → w'.heap[b]? = w.heap[b]? ∧ own' b = k) : Row w' own' k E size v n xs := by
  obtain ⟨h1, h2 | ⟨g, cap, cur, hv, hb, r⟩⟩ := h
  · exact ⟨h1, .inl h2⟩
  · obtain ⟨e1, e2⟩ := hk g cur hb.at_ hb.col
    exact ⟨h1, .inr ⟨g, cap, cur, hv, ⟨by rw [e1]; exact hb.at_, e2⟩, r⟩⟩
section
variable {w : World} {own : Nat → Nat} {ka ky kc y a bx : Nat} {V : AV} {Y : YV} {ev lv : Value}
theorem retire1_any (w : World) (b : Int) (hb : w.cell? ⟨bx, 0, none⟩ = some (.int .i64 b)) (hlt : bx < w.heap.size) (p : Int × Int × Int) :
    Calls Try.prog 62 #[.agg #[.int .i64 p.1, .int .i64 p.2.1, .int .i64 p.2.2], .pointer (some ⟨bx, 0, none⟩)] w fun e w' => e = .returned (.bool (p.1 == b)) ∧ Below w.heap.size w w' := by
  have hB : Below w.heap.size w (w.alloc (.cells #[.int .i64 p.1, .int .i64 p.2.1, .int .i64 p.2.2] 104)) := (Below.refl _ _).alloc (Nat.le_refl _) _
  have hc2 : (w.alloc (.cells #[.int .i64 p.1, .int .i64 p.2.1, .int .i64 p.2.2] 104)).cell? ⟨bx, 0, none⟩ = some (.int .i64 b) := by
    rw [← hb]
    simp only [World.cell?, heap_alloc_old w _ hlt]
  have hne : bx ≠ w.heap.size := by omega
  have HB := Lib.hid hB
  clear hB
  go_enter Try.func62, Try.ntmps62
  go_wp2
  go_ret
  exact ⟨rfl, HB.out⟩
def RxInv (w0 : World) (own0 : Nat → Nat) (l : List (Int × Int × Int)) (b : Int) (g : Nat) (iv : Value) (w : World) : Prop :=
  ∃ (own : Nat → Nat) (i : Nat), iv = .int .i64 i ∧ i + g = l.length ∧ (∀ j (hj : j < l.length), j < i → (l[j].1 == b) = false) ∧ Ext (fun _ => False) w0 w own0 own
set_option maxHeartbeats 1000000 in
theorem containsR_any {l : List (Int × Int × Int)} (hR : Row w own ky 104 3 lv l.length (flat l)) (hn : l.length ≤ 4000000000000) (b : Int) (hcap : Blk w own kc bx (.cells #[.int .i64 b] 3 (0, 0))) :
    Calls Try.prog 61 #[lv, .func (.func 62) #[] #[.pointer (some ⟨bx, 0, none⟩)]] w fun e w' => e = .returned (.bool (l.any (fun p => p.1 == b))) ∧ ∃ own', Ext (fun _ => False) w w' own own' := by
  have key : Calls Try.prog 64 #[lv, .func (.func 62) #[] #[.pointer (some ⟨bx, 0, none⟩)]] w fun e w' => e = .returned (.int .i64 (idxP (fun p : Int × Int × Int => p.1 == b) l)) ∧ ∃ own', Ext (fun _ => False) w w' own own' := by
    have HR := Lib.hid hR
    have HC := Lib.hid hcap
    obtain ⟨ra, rc, rfl⟩ := hR.shape
    clear hR hcap
    go_enter Try.func64, Try.ntmps64
    go_wp2_with fail
    go_loopg [8] l.length (fun g iv wr => RxInv w own l b g iv wr)
    case atStart => exact ⟨own, 0, rfl, by omega, fun j hj h => by omega, Ext.refl⟩
    case round =>
      obtain ⟨own1, i, rfl, hi, hb, hE⟩ := hrel
      have HE := Lib.hid hE
      have HBE := Lib.hid hb
      clear hE hb
      by_cases hlt : i < l.length
      · have hlt2 : (i : Int) < l.length := by omega
        obtain ⟨g, rfl, -, -, d0, d1, d2⟩ := Row.flat_cells (HR.out.ext HE.out (by simp)) hlt
        have hc1 := HC.out.ext HE.out (by simp)
        have HS := Lib.hid (retire1_any wr b (hc1.cell 0) hc1.lt l[i])
        have HQ := Lib.hid (show ∃ q, q = l[i] from ⟨_, rfl⟩)
        obtain ⟨p, hp⟩ := HQ.out
        have HP := Lib.hid hp
        rw [← hp] at d0 d1 d2 HS
        clear hc1 hp HQ
        go_wp2_with fail
        refine HS.out.mono ?_
        rintro e w1 ⟨rfl, hB⟩
        have HE2 := Lib.hid (HE.out.trans (Ext.of_below hB own1 0))
        clear hB d0 d1 d2 HS
        rcases Bool.eq_false_or_eq_true (p.1 == b) with hh | hh
        · have HH := Lib.hid hh
          go_wp2_with fail
          go_ret
          refine ⟨?_, _, HE2.out⟩
          rw [idxP_hit hlt (by rw [← HP.out]; exact HH.out) (fun j hj => HBE.out j (by omega) hj)]
          rfl
        · have HH := Lib.hid hh
          go_wp2_with fail
          go_roundg (l.length - (i + 1))
          case measure => omega
          case rel =>
            refine ⟨_, i + 1, by go_num, by omega, fun j hj h => ?_, HE2.out⟩
            by_cases hji : j = i
            · subst hji; rw [← HP.out]; exact HH.out
            · exact HBE.out j hj (by omega)
      · obtain rfl : i = l.length := by omega
        go_wp2_with fail
        go_ret
        refine ⟨?_, _, HE.out⟩
        rw [idxP_miss (fun j hj => HBE.out j hj hj)]
        rfl
  have HK := Lib.hid key
  have HE := Lib.hid (idxP_nonneg (fun p : Int × Int × Int => p.1 == b) l)
  obtain ⟨ra, rc, rfl⟩ := hR.shape
  clear hR hcap key
  go_enter Try.func61, Try.ntmps61
  go_wp2_with fail
  refine HK.out.mono ?_
  rintro e w1 ⟨rfl, hx⟩
  have HX := Lib.hid hx
  clear hx
  go_wp2_with fail
  go_ret
  exact ⟨by rw [← HE.out]; rfl, HX.out⟩
end
/-! ### Retire -/
def YL (y : Nat) (x0 x1 x2 x3 x4 : Value) (c : Nat) (u : Value) (w : World) : Prop :=
  w.cell? ⟨y, 0, none⟩ = some x0 ∧ w.cell? ⟨y, 1, none⟩ = some x1 ∧ w.cell? ⟨y, 2, none⟩ = some x2 ∧ w.cell? ⟨y, 3, none⟩ = some x3 ∧ w.cell? ⟨y, 4, none⟩ = some x4 ∧ w.cell? ⟨c, 0, none⟩ = some u
theorem YL.of {w : World} {own : Nat → Nat} {ky kc y c : Nat} {u x0 x1 x2 x3 x4 : Value} {T T2 : TypeId} (hb : Blk w own ky y (.cells #[x0, x1, x2, x3, x4] T (0, 0))) (hc : Blk w own kc c (.cells #[u] T2 (0, 0))) : YL y x0 x1 x2 x3 x4 c u w :=
  ⟨hb.cell 0, hb.cell 1, hb.cell 2, hb.cell 3, hb.cell 4, hc.cell 0⟩
def anyR (Y : YV) (b : Int) : Bool := Y.limbo.any (fun p => p.1 == b)
def YV.full (Y : YV) (t : Int) : Bool := decide (Y.bound ≤ (Y.sweep.limboN t : Int))
def YV.retireErr (Y : YV) (V : AV) (t b : Int) : Int := if Y.bad t then 1 else if anyR Y b then 42 else if V.freeErr b = 0 then (if Y.full t then 43 else 0) else V.freeErr b
def retireV (Y : YV) (V : AV) (t b : Int) : AV := if Y.bad t then V else if anyR Y b then V else if V.freeErr b = 0 then dropsV Y V Y.limbo else V.touch b
def YV.wait (Y : YV) (t b : Int) : YV := { Y with now := Y.now + 1, limbo := Y.limbo ++ [(b, t, Y.now + 1)] }
def YV.retire (Y : YV) (V : AV) (t b : Int) : YV := if Y.bad t then Y else if anyR Y b then Y else if V.freeErr b = 0 then (if Y.full t then Y.sweep else Y.sweep.wait t b) else Y
theorem touch_ok {V : AV} {b : Int} (h : V.freeErr b = 0) : V.touch b = V := by
  unfold AV.freeErr at h
  unfold AV.touch
  cases hx : V.find b with
  | none => rw [hx] at h; cases h
  | some xs => rfl
section
variable {w : World} {own : Nat → Nat} {ka ky kc y a bx : Nat} {V : AV} {Y : YV} {ev lv : Value}
set_option maxHeartbeats 8000000 in
theorem Retire_any (hA : Arena w own ka a V) (hY : Yard w own ky y a Y ev lv) (hka : ka ≠ ky) (hf : V.faults + Y.limbo.length < 800000000000000) (hn : Y.limbo.length ≤ 3000000000000) (hnow : Y.now < 1000000000000000) (t b : Int) :
    Calls Try.prog 51 #[.pointer (some ⟨y, 0, none⟩), .int .i64 t, .int .i64 b] w (SwPost w own ka ky y a (retireV Y V t b) (Y.retire V t b) ev (.int .i64 (Y.retireErr V t b))) := by
  have hmf : ∀ (fn : Fn) (first cap : Array Value) (w : World), (Instr.makeFunc fn first cap).run Try.prog w = .ok (.func fn first cap) w := fun _ _ _ _ => rfl
  have hX : ∀ M, Ext M w (w.alloc (.cells #[.int .i64 b] 3)) own (ow own w.heap.size (ka + ky + 1)) := fun M => (Ext.refl.ow _).alloc _
  have hc := Blk.new (own := ow own w.heap.size (ka + ky + 1)) (k := ka + ky + 1) w (.cells #[.int .i64 b] 3) (ow_ge (Nat.le_refl _))
  have hA1 := hA.ext (hX (fun _ => False)) (by simp)
  have hY1 := hY.ext (hX (fun _ => False)) (by simp)
  have HX := Lib.hid (hX (fun c => c = ka ∨ c = ky))
  have hlt := hY.box.lt
  have hne : w.heap.size ≠ y := by omega
  have hnw := hY.ok.now
  have HBD := Lib.hid (bad_any hY1 t)
  clear hX hA hY
  go_enter Try.func51, Try.ntmps51
  generalize hcb : w.heap.size = cb at *
  generalize hwa : w.alloc (.cells #[.int .i64 b] 3) = wa at *
  generalize ow own cb (ka + ky + 1) = own1 at *
  go_wp2_with fail
  try simp only [hwa]
  refine HBD.out.mono ?_
  rintro e w1 ⟨rfl, rfl⟩
  cases hbd : Y.bad t with
  | true =>
    have he : Y.retireErr V t b = 1 := by unfold YV.retireErr; rw [hbd, if_pos rfl]
    have hv : retireV Y V t b = V := by unfold retireV; rw [hbd, if_pos rfl]
    have hy : Y.retire V t b = Y := by unfold YV.retire; rw [hbd, if_pos rfl]
    have HP := Lib.hid (show SwPost w own ka ky y a (retireV Y V t b) (Y.retire V t b) ev (.int .i64 (Y.retireErr V t b)) (.returned (.int .i64 1)) w1 from ⟨lv, own1, by rw [he], HX.out, by rw [hv]; exact hA1, by rw [hy]; exact hY1⟩)
    clear he hv hy hA1 hY1 hc
    go_wp2_with fail
    go_ret
    exact HP.out
  | false =>
    have HCT := Lib.hid (containsR_any hY1.lim (by omega) b hc)
    obtain ⟨c0, c1, c2, c3, c4⟩ := five_y hY1.box
    obtain ⟨ra, rc, rfl⟩ := hY1.lim.shape
    clear hwa HBD
    go_wp2_with fail
    refine HCT.out.mono ?_
    rintro e w2 ⟨rfl, own2, hE2⟩
    have hA2 := hA1.ext hE2 (by simp)
    have hY2 := hY1.ext hE2 (by simp)
    have hc2 := hc.ext hE2 (by simp)
    have HX2 := Lib.hid (HX.out.trans (hE2.mono (M' := fun c => c = ka ∨ c = ky) (by simp)))
    clear hE2 hA1 hY1 hc HX HCT c0 c1 c2 c3 c4
    rcases Bool.eq_false_or_eq_true (Y.limbo.any (fun p => p.1 == b)) with han | han
    · have he : Y.retireErr V t b = 42 := by unfold YV.retireErr anyR; rw [hbd, if_neg (by decide), han, if_pos rfl]
      have hv : retireV Y V t b = V := by unfold retireV anyR; rw [hbd, if_neg (by decide), han, if_pos rfl]
      have hy : Y.retire V t b = Y := by unfold YV.retire anyR; rw [hbd, if_neg (by decide), han, if_pos rfl]
      have HP := Lib.hid (show SwPost w own ka ky y a (retireV Y V t b) (Y.retire V t b) ev (.int .i64 (Y.retireErr V t b)) (.returned (.int .i64 42)) w2 from ⟨_, own2, by rw [he], HX2.out, by rw [hv]; exact hA2, by rw [hy]; exact hY2⟩)
      clear he hv hy hA2 hY2 hc2
      rw [han]
      go_wp2_with fail
      go_ret
      exact HP.out
    · have HAN := Lib.hid han
      rw [han]
      clear han
      go_wp2_with fail
      have hD : ∀ M, Ext M w2 w2.drew own2 own2 := fun M => Ext.refl.drew
      have hA3 := hA2.ext (hD (fun _ => False)) (by simp)
      have hY3 := hY2.ext (hD (fun _ => False)) (by simp)
      have hc3 := hc2.ext (hD (fun _ => False)) (by simp)
      have HX3 := Lib.hid (HX2.out.trans (hD _))
      have HI := Lib.hid (YI.of hY3.box hc3)
      refine wp_region_plan3 [(true, 0, [1, 2, 3, 5, 6, 7, 8, 9, 10]), (true, 1, [2, 3, 5, 6, 7, 8, 9, 10]), (true, 2, [3, 5, 6, 7, 8, 9, 10]), (true, 3, [5, 6, 7, 8, 9, 10]), (true, 4, [5, 6, 7, 8, 9, 10]), (false, 5, []), (true, 6, [7, 8, 9, 10]), (true, 7, [9, 10]), (true, 8, [10]), (true, 9, [10]), (true, 10, [])] (YI y (.pointer (some ⟨a, 0, none⟩)) (.int .i64 Y.bound) (.int .i64 Y.now) ev cb (.int .i64 b)) (by kernel_rfl) (by kernel_rfl) (fun _ _ _ d _ h => by cases d <;> exact h) HI.out ?_
      clear hD hA2 hY2 hc2 HX2
      generalize w2.drew = w3 at *
      iterate 5
        apply plan3_early
        case hi => rfl
        case h =>
          rintro w1 ⟨y0, y1, y2, y3, ⟨x4, y4⟩, cc⟩
          still_step
          exact wpStill_nil rfl
      have HSZ := Lib.hid (Size_any hA3 (by omega) b)
      clear hA3
      refine plan3_big rfl ?_
      go_wp2_with fail
      refine HSZ.out.mono ?_
      rintro e w4 ⟨rfl, own4, hE4, hA4⟩
      have hY4 := hY3.ext hE4 (fun h => hka h.symm)
      have hc4 := hc3.ext hE4 (by omega)
      have HX4 := Lib.hid (HX3.out.trans (hE4.mono (M' := fun c => c = ka ∨ c = ky) (fun c h => .inl h)))
      have HI4 := Lib.hid (YI.of hY4.box hc4)
      clear hE4 hY3 hc3 HX3 HI HSZ
      go_wp2_with fail
      refine ⟨HI4.out, ?_⟩
      iterate 5
        apply plan3_early
        case hi => rfl
        case h =>
          rintro w1 ⟨y0, y1, y2, y3, ⟨x4, y4⟩, cc⟩
          still_step
          exact wpStill_nil rfl
      refine plan3_nil ?_
      by_cases hfe : V.freeErr b = 0
      · rw [touch_ok hfe] at hA4
        have bf : (V.freeErr b != 0) = false := by simp [hfe]
        have HSW := Lib.hid (Sweep_any hA4 hY4 hka (by omega) (by omega))
        have HFE := Lib.hid hfe
        clear hA4 hY4 hfe
        go_wp2_with fail
        refine HSW.out.mono ?_
        rintro e w5 ⟨lv5, own5, rfl, hE5, hA5, hY5⟩
        have hc5 := hc4.ext hE5 (by omega)
        have HX5 := Lib.hid (HX4.out.trans hE5)
        clear hE5 hc4 HX4 HI4 HSW
        go_wp2_with fail
        have hD : ∀ M, Ext M w5 w5.drew own5 own5 := fun M => Ext.refl.drew
        have hA6 := hA5.ext (hD (fun _ => False)) (by simp)
        have hY6 := hY5.ext (hD (fun _ => False)) (by simp)
        have hc6 := hc5.ext (hD (fun _ => False)) (by simp)
        have HX6 := Lib.hid (HX5.out.trans (hD _))
        have HI6 := Lib.hid (show (YI y (.pointer (some ⟨a, 0, none⟩)) (.int .i64 Y.bound) (.int .i64 Y.now) ev cb (.int .i64 b)) w5.drew from YI.of hY6.box hc6)
        have hkl : (keptL Y Y.limbo).length ≤ Y.limbo.length := List.length_filter_le _ _
        refine wp_region_plan3 [(true, 0, [2, 7]), (true, 1, [2, 7]), (true, 3, [4, 5, 6, 7]), (true, 4, [5, 6, 7]), (true, 5, [6, 7]), (true, 6, [7]), (false, 2, []), (true, 7, [])] (YI y (.pointer (some ⟨a, 0, none⟩)) (.int .i64 Y.bound) (.int .i64 Y.now) ev cb (.int .i64 b)) (by kernel_rfl) (by kernel_rfl) (fun _ _ _ d _ h => by cases d <;> exact h) HI6.out ?_
        clear hD hA5 hY5 hc5 HX5
        generalize w5.drew = w6 at *
        iterate 6
          apply plan3_early
          case hi => rfl
          case h =>
            rintro w1 ⟨y0, y1, y2, y3, ⟨x4, y4⟩, cc⟩
            still_step
            exact wpStill_nil rfl
        have HLB := Lib.hid (Limbo_any hY6 (show (keptL Y Y.limbo).length ≤ 4000000000000 by omega) t)
        refine plan3_big rfl ?_
        go_wp2_with fail
        refine HLB.out.mono ?_
        rintro e w7 ⟨rfl, hB⟩
        have hE7 : ∀ M, Ext M w6 w7 own5 (ow own5 w6.heap.size 0) := fun M => Ext.of_below hB _ _
        have hA7 := hA6.ext (hE7 (fun _ => False)) (by simp)
        have hY7 := hY6.ext (hE7 (fun _ => False)) (by simp)
        have hc7 := hc6.ext (hE7 (fun _ => False)) (by simp)
        have HX7 := Lib.hid (HX6.out.trans (hE7 _))
        generalize ow own5 w6.heap.size 0 = own7 at *
        have HI7 := Lib.hid (show (YI y (.pointer (some ⟨a, 0, none⟩)) (.int .i64 Y.bound) (.int .i64 Y.now) ev cb (.int .i64 b)) w7 from YI.of hY7.box hc7)
        clear hE7 hB hA6 hY6 hc6 HX6 HI6 HLB
        go_wp2_with fail
        refine ⟨HI7.out, ?_⟩
        iterate 1
          apply plan3_early
          case hi => rfl
          case h =>
            rintro w1 ⟨y0, y1, y2, y3, ⟨x4, y4⟩, cc⟩
            still_step
            exact wpStill_nil rfl
        refine plan3_nil ?_
        by_cases hfu : Y.bound ≤ (Y.sweep.limboN t : Int)
        · have hfull : Y.full t = true := by unfold YV.full; simp [hfu]
          have he : Y.retireErr V t b = 43 := by unfold YV.retireErr anyR; rw [hbd, if_neg (by decide), HAN.out, if_neg (by decide), if_pos HFE.out, hfull, if_pos rfl]
          have hv : retireV Y V t b = dropsV Y V Y.limbo := by unfold retireV anyR; rw [hbd, if_neg (by decide), HAN.out, if_neg (by decide), if_pos HFE.out]
          have hy : Y.retire V t b = Y.sweep := by unfold YV.retire anyR; rw [hbd, if_neg (by decide), HAN.out, if_neg (by decide), if_pos HFE.out, hfull, if_pos rfl]
          have HP := Lib.hid (show SwPost w own ka ky y a (retireV Y V t b) (Y.retire V t b) ev (.int .i64 (Y.retireErr V t b)) (.returned (.int .i64 43)) w7 from ⟨_, own7, by rw [he], HX7.out, by rw [hv]; exact hA7, by rw [hy]; exact hY7⟩)
          clear he hv hy hA7 hY7 hc7 hfull
          go_wp2_with fail
          go_ret
          exact HP.out
        · have hfull : Y.full t = false := by unfold YV.full; simp; omega
          have he : Y.retireErr V t b = 0 := by unfold YV.retireErr anyR; rw [hbd, if_neg (by decide), HAN.out, if_neg (by decide), if_pos HFE.out, hfull, if_neg (by decide)]
          have hv : retireV Y V t b = dropsV Y V Y.limbo := by unfold retireV anyR; rw [hbd, if_neg (by decide), HAN.out, if_neg (by decide), if_pos HFE.out]
          have hy : Y.retire V t b = Y.sweep.wait t b := by unfold YV.retire anyR; rw [hbd, if_neg (by decide), HAN.out, if_neg (by decide), if_pos HFE.out, hfull, if_neg (by decide)]
          have HEE := Lib.hid he
          have HVV := Lib.hid hv
          have HYY := Lib.hid hy
          clear he hv hy hfull
          obtain ⟨c0, c1, c2, c3, c4⟩ := five_y hY7.box
          obtain ⟨f0, f1, f2, f3, f4⟩ : w7.frozen? ⟨y, 0, none⟩ = false ∧ w7.frozen? ⟨y, 1, none⟩ = false ∧ w7.frozen? ⟨y, 2, none⟩ = false ∧ w7.frozen? ⟨y, 3, none⟩ = false ∧ w7.frozen? ⟨y, 4, none⟩ = false := ⟨hY7.box.free 0, hY7.box.free 1, hY7.box.free 2, hY7.box.free 3, hY7.box.free 4⟩
          have hnw2 : (0 : Int) ≤ Y.now := hnw.1
          have hok8 : YV.Ok { Y.sweep with now := Y.now + 1 } := ⟨hY7.ok.ent, by show 0 ≤ Y.now + 1 ∧ Y.now + 1 < 2000000000000000; omega, hY7.ok.bound, fun x hx => by have := hY7.ok.since x hx; show 0 ≤ x ∧ x ≤ Y.now + 1; have h2 : x ≤ Y.now := this.2; omega⟩
          obtain ⟨hY8, hE8⟩ := hY7.set_now (Y.now + 1) hok8
          have hD : ∀ M, Ext M (w7.setCell ⟨y, 2, none⟩ (.int .i64 (Y.now + 1))) (w7.setCell ⟨y, 2, none⟩ (.int .i64 (Y.now + 1))).drew own7 own7 := fun M => Ext.refl.drew
          have hA9 := (hA7.ext hE8 hka).ext (hD (fun _ => False)) (by simp)
          have hY9 := hY8.ext (hD (fun _ => False)) (by simp)
          have hc9 := (hc7.setCell_other (a := ⟨y, 2, none⟩) hne (.int .i64 (Y.now + 1))).ext (hD (fun _ => False)) (by simp)
          have HX9 := Lib.hid ((HX7.out.trans (hE8.mono (M' := fun c => c = ka ∨ c = ky) (fun c h => .inr h))).trans (hD _))
          have c2' : w7.cell? ⟨y, 2, none⟩ = some (.int .i64 Y.now) := c2
          clear c2 hY8 hE8 hD hA7 hY7 hc7 HX7 hok8
          go_wp2_with fail
          have HI9 := Lib.hid (YL.of hY9.box hc9)
          refine wp_region_plan4 [(true, 0, [14, 15, 16]), (true, 1, [2, 3, 4, 13, 14, 15, 16]), (true, 2, [3, 4, 13, 14, 15, 16]), (true, 3, [4, 13, 14, 15, 16]), (true, 4, [13, 14, 15, 16]), (true, 5, [11, 12, 13, 14, 15, 16]), (true, 6, [11, 12, 13, 14, 15, 16]), (true, 7, [8, 9, 10, 11, 12, 13, 14, 15, 16]), (true, 8, [9, 10, 11, 12, 13, 14, 15, 16]), (true, 9, [10, 11, 12, 13, 14, 15, 16]), (true, 10, [11, 12, 13, 14, 15, 16]), (true, 11, [12, 13, 14, 15, 16]), (false, 12, []), (false, 13, []), (true, 14, [15, 16]), (true, 15, [16]), (false, 16, [])] 16 (YL y (.pointer (some ⟨a, 0, none⟩)) (.int .i64 Y.bound) (.int .i64 (Y.now + 1)) ev lv5 cb (.int .i64 b)) (by kernel_rfl) (by kernel_rfl) (fun _ _ _ d _ h => by cases d <;> exact h) HI9.out ?_
          generalize (w7.setCell ⟨y, 2, none⟩ (.int .i64 (Y.now + 1))).drew = w9 at *
          clear c0 c1 c2' c3 c4 f0 f1 f2 f3 f4 HI7
          iterate 12
            apply plan4_early
            case hi => rfl
            case h =>
              rintro w1 ⟨y0, y1, y2, y3, y4, cc⟩
              still_step
              exact wpStill_nil rfl
          obtain ⟨c0, c1, c2, c3, c4⟩ := five_y hY9.box
          have hX10 : ∀ M, Ext M w9 (w9.alloc (.cells #[.int .i64 b, .int .i64 t, .int .i64 (Y.now + 1)] 104)) own7 (ow own7 w9.heap.size 0) := fun M => (Ext.refl.ow 0).alloc _
          have HI10 := Lib.hid (show (YL y (.pointer (some ⟨a, 0, none⟩)) (.int .i64 Y.bound) (.int .i64 (Y.now + 1)) ev lv5 cb (.int .i64 b)) (w9.alloc (.cells #[.int .i64 b, .int .i64 t, .int .i64 (Y.now + 1)] 104)) from YL.of (hY9.box.ext (hX10 (fun _ => False)) (by simp)) (hc9.ext (hX10 (fun _ => False)) (by simp)))
          clear hX10
          refine plan4_big rfl ?_
          go_wp2_with fail
          refine ⟨HI10.out, ?_⟩
          refine plan4_big rfl ?_
          have hrow : Row w9 own7 ky 104 3 lv5 (keptL Y Y.limbo).length (flat (keptL Y Y.limbo)) := hY9.lim
          have hn7 : (keptL Y Y.limbo).length ≤ 4000000000000 := by omega
          have HBOX := Lib.hid hY9.box
          have HENT := Lib.hid hY9.ent
          have HOK9 := Lib.hid hY9.ok
          have HC9 := Lib.hid hc9
          have HA9 := Lib.hid hA9
          clear c0 c1 c2 c3 c4 hY9 hc9 hA9 HI9
          refine wpList_append_wt rfl _ _ rfl (b, t, Y.now + 1) rfl hrow hn7 rfl rfl ?_
          intro v1 wa owna hra hEa hga
          obtain ⟨va, vc, rfl⟩ := hra.shape
          have hb10 : Blk wa owna ky y (.cells #[.pointer (some ⟨a, 0, none⟩), .int .i64 Y.bound, .int .i64 (Y.now + 1), ev, lv5] 86 (0, 0)) :=
            ⟨by rw [hga y HBOX.out.lt (row_other hrow HBOX.out.at_ (by intro cs h; injection h with _ h; cases h))]; exact HBOX.out.at_, by rw [hEa.col y HBOX.out.lt]; exact HBOX.out.col⟩
          have he10 : Row wa owna ky 3 1 ev Y.ent.length (irow Y.ent) := Row.kept_as HENT.out (fun q cur hq hcq => by
            have hql := (Array.getElem?_eq_some_iff.1 hq).1
            exact ⟨hga q hql (row_other hrow hq (by intro cs h; injection h with _ h; cases h)), by rw [hEa.col q hql]; exact hcq⟩)
          have hc10 := HC9.out.ext hEa (by omega)
          have HI11 := Lib.hid (YL.of hb10 hc10)
          have hl10 : Row wa owna ky 104 3 (.slice va ((keptL Y Y.limbo).length + 1) vc) (keptL Y Y.limbo ++ [(b, t, Y.now + 1)]).length (flat (keptL Y Y.limbo ++ [(b, t, Y.now + 1)])) := by rw [List.length_append]; exact hra
          obtain ⟨hY11, hE11⟩ := Yard.set_lim (Y := { Y with now := Y.now + 1 }) hb10 he10 hl10 ⟨HOK9.out.ent, HOK9.out.now, HOK9.out.bound, HOK9.out.since⟩
          have HP := Lib.hid (show SwPost w own ka ky y a (retireV Y V t b) (Y.retire V t b) ev (.int .i64 (Y.retireErr V t b)) (.returned (.int .i64 0)) (wa.setCell ⟨y, 4, none⟩ (.slice va ((keptL Y Y.limbo).length + 1) vc)) from
            ⟨_, owna, by rw [HEE.out], (HX9.out.trans (hEa.mono (M' := fun c => c = ka ∨ c = ky) (fun c h => .inr h))).trans (hE11.mono (fun c h => .inr h)), by rw [HVV.out]; exact (HA9.out.ext hEa hka).ext hE11 hka, by rw [HYY.out]; exact hY11⟩)
          obtain ⟨c0, c1, c2, c3, c4⟩ := five_y hb10
          have f4 := hb10.free 4
          clear hb10 he10 hc10 hl10 hY11 hE11 hra hEa hga hrow HA9 HBOX HENT HC9 HX9
          go_wp2_with fail
          first | refine ⟨HI11.out, ?_⟩ | refine ⟨fun _ => HI11.out, ?_⟩
          iterate 2
            apply plan4_early
            case hi => rfl
            case h =>
              rintro w1 ⟨y0, y1, y2, y3, y4, cc⟩
              still_step
              exact wpStill_nil rfl
          refine plan4_big rfl ?_
          go_wp2_with fail
          try refine ⟨fun h => absurd rfl h, ?_⟩
          refine plan4_nil ?_
          go_wp2_with fail
          go_ret
          exact HP.out
      · have he : Y.retireErr V t b = V.freeErr b := by unfold YV.retireErr anyR; rw [hbd, if_neg (by decide), HAN.out, if_neg (by decide), if_neg hfe]
        have hv : retireV Y V t b = V.touch b := by unfold retireV anyR; rw [hbd, if_neg (by decide), HAN.out, if_neg (by decide), if_neg hfe]
        have hy : Y.retire V t b = Y := by unfold YV.retire anyR; rw [hbd, if_neg (by decide), HAN.out, if_neg (by decide), if_neg hfe]
        have bf : (V.freeErr b != 0) = true := by simp [hfe]
        have HP := Lib.hid (show SwPost w own ka ky y a (retireV Y V t b) (Y.retire V t b) ev (.int .i64 (Y.retireErr V t b)) (.returned (.int .i64 (V.freeErr b))) w4 from ⟨_, own4, by rw [he], HX4.out, by rw [hv]; exact hA4, by rw [hy]; exact hY4⟩)
        clear he hv hy hA4 hY4 hc4 hfe
        go_wp2_with fail
        go_ret
        exact HP.out
end
end Go.Proofs.Ytefhngbeodnldaa
