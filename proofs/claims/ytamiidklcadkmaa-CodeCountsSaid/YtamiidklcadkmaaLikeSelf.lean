/- The document's Order, Same, Like of a term with itself; the law package's like of code with itself. -/
import Derived.Test.YtamiidklcadkmaaCodeAlive
set_option maxRecDepth 20000
set_option linter.unusedVariables false
set_option linter.unusedSimpArgs false
namespace Go.Proofs.Ytamiidklcadkmaa
open Go.RowKit Go.PM
theorem sign_ff (w : World) : Calls Try.prog 64 #[.bool false, .bool false] w fun e w' => e = .returned (.int .i64 0) ∧ w = w' := by
  go_enter Try.func64, Try.ntmps64
  go_wp2
  go_ret
  exact ⟨rfl, rfl⟩
/-- Facts below. -/
def FactsB : List (Addr × Value) → World → Prop
  | [], _ => True
  | p :: L, w => (w.cell? p.1 = some p.2 ∧ p.1.block < w.heap.size) ∧ FactsB L w
theorem FactsB.facts {w : World} : ∀ {L : List (Addr × Value)}, FactsB L w → Facts L w
  | [], _ => trivial
  | p :: L, h => ⟨h.1.1, FactsB.facts h.2⟩
theorem FactsB.below {w w' : World} (e : Below w.heap.size w w') : ∀ {L : List (Addr × Value)}, FactsB L w → FactsB L w'
  | [], _ => trivial
  | p :: L, h => ⟨⟨by rw [e.cell h.1.2]; exact h.1.1, by have := e.size; have := h.1.2; omega⟩, FactsB.below e h.2⟩
def OrInv (w0 : World) (N : Nat) (g : Nat) (iv : Value) (w : World) : Prop := ∃ i : Nat, iv = .int .i64 i ∧ i + g = N ∧ Below w0.heap.size w0 w
set_option maxHeartbeats 4000000 in
theorem Order_self : ∀ (t : Tm) (w : World) (C : Nat → Prop) (v v' : Value), TmV w C t v → TmV w C t v' →
    Calls Try.prog 53 #[v, v'] w fun e w' => e = .returned (.int .i64 0) ∧ Below w.heap.size w w' := by
  refine Tm.ind fun k s x ls ih w C v v' hv hv' => ?_
  obtain ⟨a1, l1, c1, rfl, wk, ws, wx, hat⟩ := TmV_open hv
  obtain ⟨a2, l2, c2, rfl, -, -, -, hat2⟩ := TmV_open hv'
  have hl1 := (at_len hat).1
  have hl2 := (at_len hat2).1
  have hl3 := (at_len hat).2
  obtain rfl : l1 = ls.length := hl1
  obtain rfl : l2 = ls.length := hl2
  have IH := Lib.hid ih
  have HV := Lib.hid hv
  have HV' := Lib.hid hv'
  have hk1 : Tm.k (.mk k s x ls) = k := rfl
  have hs1 : Tm.s (.mk k s x ls) = s := rfl
  have hx1 : Tm.x (.mk k s x ls) = x := rfl
  rw [hk1, hs1, hx1]
  rw [hk1, hs1, hx1] at HV HV'
  obtain ⟨hb0, hb1, hB0, hz0⟩ := two_new w (.cells #[.int .i64 k, .string s, .int .i64 x, .slice a1 ls.length c1] 24) (.cells #[.int .i64 k, .string s, .int .i64 x, .slice a2 ls.length c2] 24)
  have H0 := Lib.hid hb0
  have H1 := Lib.hid hb1
  have HB0 := Lib.hid hB0
  have hz0' : w.heap.size + 1 < ((w.alloc (.cells #[.int .i64 k, .string s, .int .i64 x, .slice a1 ls.length c1] 24)).alloc (.cells #[.int .i64 k, .string s, .int .i64 x, .slice a2 ls.length c2] 24)).heap.size := by omega
  have HZ := Lib.hid hz0'
  clear ih hk1 hs1 hx1 hv hv' hat hat2 wk ws wx hb0 hb1 hB0 hz0 hz0'
  by_cases h2 : k ≤ 2
  · have hx : ¬ x < x := by omega
    go_enter Try.func53, Try.ntmps53
    go_wp2_with fail
    refine (sign_ff _).mono ?_
    rintro e w' ⟨rfl, rfl⟩
    go_wp2_with fail
    go_ret
    exact ⟨rfl, HB0.out⟩
  by_cases h4 : k = 4
  · subst h4
    go_enter Try.func53, Try.ntmps53
    go_wp2_with fail
    generalize ((w.alloc (.cells #[.int .i64 4, .string s, .int .i64 x, .slice a1 ls.length c1] 24)).alloc (.cells #[.int .i64 4, .string s, .int .i64 x, .slice a2 ls.length c2] 24)) = w1 at *
    go_loopg [5] ls.length (fun g iv wr => OrInv w1 ls.length g iv wr)
    case atStart => exact ⟨0, rfl, by omega, Below.refl _ _⟩
    case round =>
      obtain ⟨i, rfl, hi, hBl⟩ := hrel
      have hb0 := Blk_same H0.out hBl
      have hb1 := Blk_same H1.out hBl
      have z3 : wr.cell? ⟨w.heap.size, 3, none⟩ = some (.slice a1 ls.length c1) := hb0.cell 3
      have z4 : wr.cell? ⟨w.heap.size + 1, 3, none⟩ = some (.slice a2 ls.length c2) := hb1.cell 3
      have HBL := Lib.hid hBl
      have HBW := Lib.hid (HB0.out.trans (hBl.mono HB0.out.size))
      have hzr := hBl.size
      by_cases hlt : i < ls.length
      · have hlt2 : (i : Int) < ls.length := by omega
        obtain ⟨g1, o1, rfl, hg1, -, hargs1⟩ := arg_cells (TmV.below HV.out HBW.out) (by show 0 < ls.length; omega)
        obtain ⟨g2, o2, rfl, hg2, -, hargs2⟩ := arg_cells (TmV.below HV'.out HBW.out) (by show 0 < ls.length; omega)
        obtain ⟨a3, l3, c3, x0, x1, x2, x3, ht1⟩ := hargs1 i hlt
        obtain ⟨a4, l4, c4, y0, y1, y2, y3, ht2⟩ := hargs2 i hlt
        have htm : targ (.mk 4 s x ls) i ∈ ls := arg_mem (t := .mk 4 s x ls) hlt
        have HF : Hid (FactsB [(⟨w.heap.size, 3, none⟩, .slice (some ⟨g1, o1, none⟩) ls.length c1), (⟨w.heap.size + 1, 3, none⟩, .slice (some ⟨g2, o2, none⟩) ls.length c2), (⟨g1, o1 + i * 4, none⟩, .int .i64 (targ (.mk 4 s x ls) i).k), (⟨g1, o1 + i * 4 + 1, none⟩, .string (targ (.mk 4 s x ls) i).s), (⟨g1, o1 + i * 4 + 2, none⟩, .int .i64 (targ (.mk 4 s x ls) i).x), (⟨g1, o1 + i * 4 + 3, none⟩, .slice a3 l3 c3), (⟨g2, o2 + i * 4, none⟩, .int .i64 (targ (.mk 4 s x ls) i).k), (⟨g2, o2 + i * 4 + 1, none⟩, .string (targ (.mk 4 s x ls) i).s), (⟨g2, o2 + i * 4 + 2, none⟩, .int .i64 (targ (.mk 4 s x ls) i).x), (⟨g2, o2 + i * 4 + 3, none⟩, .slice a4 l4 c4)] wr.drew) :=
          Lib.hid ⟨⟨z3, hb0.lt⟩, ⟨z4, hb1.lt⟩, ⟨x0, hg1⟩, ⟨x1, hg1⟩, ⟨x2, hg1⟩, ⟨x3, hg1⟩, ⟨y0, hg2⟩, ⟨y1, hg2⟩, ⟨y2, hg2⟩, ⟨y3, hg2⟩, trivial⟩
        have HI := Lib.hid (IH.out _ htm wr.drew C _ _ (ht1.carry (w' := wr.drew) (C' := C) (Nat.le_refl _) fun g hg hc => ⟨rfl, hc⟩) (ht2.carry (w' := wr.drew) (C' := C) (Nat.le_refl _) fun g hg hc => ⟨rfl, hc⟩))
        have HBD := Lib.hid (HBL.out.drew)
        have HBWD := Lib.hid (HBW.out.drew)
        clear hargs1 hargs2 ht1 ht2 htm x0 x1 x2 x3 y0 y1 y2 y3 hBl hb0 hb1 hzr
        generalize targ (.mk 4 s x ls) i = u at *
        generalize Tm.k u = ku at *
        generalize Tm.s u = su at *
        generalize Tm.x u = xu at *
        go_wp2_with fail
        refine wp_region_plan3 [(true, 0, [1, 3, 4, 10, 11]), (true, 1, [3, 4, 10, 11]), (true, 2, [3, 4, 10, 11]), (true, 3, [4, 10, 11]), (true, 4, [10, 11]), (true, 5, [6, 8, 9, 10, 11]), (true, 6, [8, 9, 10, 11]), (true, 7, [8, 9, 10, 11]), (true, 8, [9, 10, 11]), (true, 9, [10, 11]), (false, 10, []), (true, 11, [])] (Facts _) (by kernel_rfl) (by kernel_rfl) (fun _ _ _ d _ h => by cases d <;> exact h) (FactsB.facts HF.out) ?_
        clear z3 z4
        generalize wr.drew = w3 at *
        iterate 10
          apply plan3_early
          case hi => rfl
          case h =>
            intro w9 hf
            simp only [Facts] at hf
            obtain ⟨z0, z1, z2, z3, z4, z5, z6, z7, z8, z9, _⟩ := hf
            still_step
            exact wpStill_nil rfl
        refine plan3_big rfl ?_
        go_wp2_with fail
        refine HI.out.mono ?_
        rintro e w4 ⟨rfl, hB4⟩
        have HF4 := Lib.hid (FactsB.below hB4 HF.out)
        have HB4 := Lib.hid (HBD.out.trans (hB4.mono HBD.out.size))
        clear hB4 HI HF
        go_wp2_with fail
        first | refine ⟨fun _ => FactsB.facts HF4.out, ?_⟩ | refine ⟨FactsB.facts HF4.out, ?_⟩
        apply plan3_early
        case hi => rfl
        case h =>
          intro w9 hf
          clear hf
          still_step
          exact wpStill_nil rfl
        refine plan3_nil ?_
        go_wp2_with fail
        go_roundg (ls.length - (i + 1))
        case measure => omega
        case rel => exact ⟨i + 1, by go_num, by omega, HB4.out⟩
      · obtain rfl : i = ls.length := by omega
        clear hBl hb0 hb1
        go_wp2_with fail
        go_ret
        exact ⟨rfl, HBW.out⟩
  · have hb4 : (k == 4) = false := by simp [h4]
    go_enter Try.func53, Try.ntmps53
    go_wp2_with fail
    go_ret
    exact ⟨rfl, HB0.out⟩
theorem Same_self (t : Tm) (w : World) (C : Nat → Prop) (v v' : Value) (hv : TmV w C t v) (hv' : TmV w C t v') :
    Calls Try.prog 37 #[v, v'] w fun e w' => e = .returned (.bool true) ∧ Below w.heap.size w w' := by
  have HV := Lib.hid hv
  have HV' := Lib.hid hv'
  obtain ⟨a1, l1, c1, rfl, -, -, -, -⟩ := TmV_open hv
  obtain ⟨a2, l2, c2, rfl, -, -, -, -⟩ := TmV_open hv'
  obtain ⟨-, -, hB0, -⟩ := two_new w (.cells #[.int .i64 t.k, .string t.s, .int .i64 t.x, .slice a1 l1 c1] 24) (.cells #[.int .i64 t.k, .string t.s, .int .i64 t.x, .slice a2 l2 c2] 24)
  have HO := Lib.hid (Order_self t _ C _ _ (TmV.below HV.out hB0) (TmV.below HV'.out hB0))
  have HB0 := Lib.hid hB0
  clear hv hv' HV HV' hB0
  generalize Tm.k t = k at *
  generalize Tm.s t = s at *
  generalize Tm.x t = x at *
  go_enter Try.func37, Try.ntmps37
  go_wp2_with fail
  refine HO.out.mono ?_
  rintro e w2 ⟨rfl, hB2⟩
  have HB2 := Lib.hid (HB0.out.trans (hB2.mono HB0.out.size))
  clear hB2 HO
  go_wp2_with fail
  go_ret
  exact ⟨rfl, HB2.out⟩
theorem Like_self (t : Tm) (w : World) (C : Nat → Prop) (v v' : Value) (hv : TmV w C t v) (hv' : TmV w C t v') :
    Calls Try.prog 16 #[v, v'] w fun e w' => e = .returned (.bool true) ∧ Below w.heap.size w w' := by
  have HV := Lib.hid hv
  have HV' := Lib.hid hv'
  obtain ⟨a1, l1, c1, rfl, -, -, -, -⟩ := TmV_open hv
  obtain ⟨a2, l2, c2, rfl, -, -, -, -⟩ := TmV_open hv'
  obtain ⟨-, -, hB0, -⟩ := two_new w (.cells #[.int .i64 t.k, .string t.s, .int .i64 t.x, .slice a1 l1 c1] 24) (.cells #[.int .i64 t.k, .string t.s, .int .i64 t.x, .slice a2 l2 c2] 24)
  have HO := Lib.hid (Same_self t _ C _ _ (TmV.below HV.out hB0) (TmV.below HV'.out hB0))
  have HB0 := Lib.hid hB0
  clear hv hv' HV HV' hB0
  generalize Tm.k t = k at *
  generalize Tm.s t = s at *
  generalize Tm.x t = x at *
  by_cases hk : k = 0
  · subst hk
    go_enter Try.func16, Try.ntmps16
    go_wp2_with fail
    go_ret
    exact ⟨rfl, HB0.out⟩
  · have hkb : (k == 0) = false := by simp [hk]
    go_enter Try.func16, Try.ntmps16
    go_wp2_with fail
    refine HO.out.mono ?_
    rintro e w2 ⟨rfl, hB2⟩
    have HB2 := Lib.hid (HB0.out.trans (hB2.mono HB0.out.size))
    clear hB2 HO
    go_wp2_with fail
    go_ret
    exact ⟨rfl, HB2.out⟩
end Go.Proofs.Ytamiidklcadkmaa
