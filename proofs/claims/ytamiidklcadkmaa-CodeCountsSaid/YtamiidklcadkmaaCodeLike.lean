/- The law package's like: code is like itself. -/
import Derived.Test.YtamiidklcadkmaaLikeSelf
set_option maxRecDepth 20000
set_option linter.unusedVariables false
set_option linter.unusedSimpArgs false
namespace Go.Proofs.Ytamiidklcadkmaa
open Go.RowKit Go.PM
/-- As IRow.get, the slice open. -/
theorem IRow.get6 {w : World} {own : Nat → Nat} {a : Option Addr} {n c : Nat} {is : List In} (h : IRow w own (.slice a n c) is) {i : Nat} (hi : i < is.length) :
    ∃ g a2 l2 c2, a = some ⟨g, 0, none⟩ ∧ g < w.heap.size ∧ w.cell? ⟨g, i * 6, none⟩ = some (.int .i64 is[i].op) ∧ w.cell? ⟨g, i * 6 + 1, none⟩ = some (.int .i64 is[i].a) ∧ w.cell? ⟨g, i * 6 + 2, none⟩ = some (.int .i64 is[i].t.k) ∧ w.cell? ⟨g, i * 6 + 3, none⟩ = some (.string is[i].t.s) ∧ w.cell? ⟨g, i * 6 + 4, none⟩ = some (.int .i64 is[i].t.x) ∧ w.cell? ⟨g, i * 6 + 5, none⟩ = some (.slice a2 l2 c2) ∧
      TmV w (fun _ => True) is[i].t (.agg #[.int .i64 is[i].t.k, .string is[i].t.s, .int .i64 is[i].t.x, .slice a2 l2 c2]) := by
  obtain ⟨g, c', a2, l2, c2, he, hg, q0, q1, q2, q3, q4, q5, ht⟩ := h.get hi
  injection he with he
  exact ⟨g, a2, l2, c2, he, hg, q0, q1, q2, q3, q4, q5, ht.carry (Nat.le_refl _) fun _ _ _ => ⟨rfl, trivial⟩⟩
set_option maxHeartbeats 8000000 in
theorem like_self (c : Cd) (w : World) (own own' : Nat → Nat) (v v' : Value) (hv : CdV w own v c) (hv' : CdV w own' v' c) (hlen : c.is.length ≤ 1000000000) :
    Calls Try.prog 21 #[v, v'] w fun e w' => e = .returned (.bool true) ∧ Below w.heap.size w w' := by
  obtain ⟨rv, rfl, hr⟩ := hv
  obtain ⟨ra, rc, rfl⟩ := hr.shape
  obtain ⟨rv', rfl, hr'⟩ := hv'
  obtain ⟨ra', rc', rfl⟩ := hr'.shape
  obtain ⟨hb0, hb1, hB0, hz0⟩ := two_new w (.cells #[.string c.p.1, .int .i64 c.p.2, .int .i64 c.vs, .int .i64 c.slots, .slice ra c.is.length rc] 32) (.cells #[.string c.p.1, .int .i64 c.p.2, .int .i64 c.vs, .int .i64 c.slots, .slice ra' c.is.length rc'] 32)
  have H0 := Lib.hid hb0
  have H1 := Lib.hid hb1
  have HB0 := Lib.hid hB0
  have HR := Lib.hid (IRow.still hr hB0)
  have HR' := Lib.hid (IRow.still hr' hB0)
  clear hr hr' hb0 hb1 hB0 hz0
  generalize hps : c.p.1 = ps at *
  generalize c.p.2 = pn at *
  generalize c.vs = vs at *
  generalize c.slots = sl at *
  clear hps
  go_enter Try.func21, Try.ntmps21
  go_wp2_with fail
  generalize ((w.alloc (.cells #[.string ps, .int .i64 pn, .int .i64 vs, .int .i64 sl, .slice ra c.is.length rc] 32)).alloc (.cells #[.string ps, .int .i64 pn, .int .i64 vs, .int .i64 sl, .slice ra' c.is.length rc'] 32)) = w1 at *
  go_loopg [37] c.is.length (fun g iv wr => OrInv w1 c.is.length g iv wr)
  case atStart => exact ⟨0, rfl, by omega, Below.refl _ _⟩
  case round =>
    obtain ⟨i, rfl, hi, hBl⟩ := hrel
    have hb0 := Blk_same H0.out hBl
    have hb1 := Blk_same H1.out hBl
    have z3 : wr.cell? ⟨w.heap.size, 4, none⟩ = some (.slice ra c.is.length rc) := hb0.cell 4
    have z4 : wr.cell? ⟨w.heap.size + 1, 4, none⟩ = some (.slice ra' c.is.length rc') := hb1.cell 4
    have HBL := Lib.hid hBl
    have HBW := Lib.hid (HB0.out.trans (hBl.mono HB0.out.size))
    by_cases hlt : i < c.is.length
    · have hlt2 : (i : Int) < c.is.length := by omega
      obtain ⟨g1, a3, l3, c3, rfl, hg1, x0, x1, x2, x3, x4, x5, ht1⟩ := (IRow.still HR.out hBl).get6 hlt
      obtain ⟨g2, a4, l4, c4, rfl, hg2, y0, y1, y2, y3, y4, y5, ht2⟩ := (IRow.still HR'.out hBl).get6 hlt
      have HF : Hid (FactsB [(⟨w.heap.size, 4, none⟩, .slice (some ⟨g1, 0, none⟩) c.is.length rc), (⟨w.heap.size + 1, 4, none⟩, .slice (some ⟨g2, 0, none⟩) c.is.length rc'), (⟨g1, i * 6, none⟩, .int .i64 c.is[i].op), (⟨g1, i * 6 + 1, none⟩, .int .i64 c.is[i].a), (⟨g1, i * 6 + 2, none⟩, .int .i64 c.is[i].t.k), (⟨g1, i * 6 + 3, none⟩, .string c.is[i].t.s), (⟨g1, i * 6 + 4, none⟩, .int .i64 c.is[i].t.x), (⟨g1, i * 6 + 5, none⟩, .slice a3 l3 c3), (⟨g2, i * 6, none⟩, .int .i64 c.is[i].op), (⟨g2, i * 6 + 1, none⟩, .int .i64 c.is[i].a), (⟨g2, i * 6 + 2, none⟩, .int .i64 c.is[i].t.k), (⟨g2, i * 6 + 3, none⟩, .string c.is[i].t.s), (⟨g2, i * 6 + 4, none⟩, .int .i64 c.is[i].t.x), (⟨g2, i * 6 + 5, none⟩, .slice a4 l4 c4)] wr.drew) :=
        Lib.hid ⟨⟨z3, hb0.lt⟩, ⟨z4, hb1.lt⟩, ⟨x0, hg1⟩, ⟨x1, hg1⟩, ⟨x2, hg1⟩, ⟨x3, hg1⟩, ⟨x4, hg1⟩, ⟨x5, hg1⟩, ⟨y0, hg2⟩, ⟨y1, hg2⟩, ⟨y2, hg2⟩, ⟨y3, hg2⟩, ⟨y4, hg2⟩, ⟨y5, hg2⟩, trivial⟩
      have HI := Lib.hid (Like_self c.is[i].t wr.drew (fun _ => True) _ _ (ht1.carry (w' := wr.drew) (C' := fun _ => True) (Nat.le_refl _) fun g hg hc => ⟨rfl, hc⟩) (ht2.carry (w' := wr.drew) (C' := fun _ => True) (Nat.le_refl _) fun g hg hc => ⟨rfl, hc⟩))
      have HBD := Lib.hid (HBL.out.drew)
      clear ht1 ht2 x0 x1 x2 x3 x4 x5 y0 y1 y2 y3 y4 y5 hBl hb0 hb1
      generalize hop : c.is[i].op = op at *
      generalize c.is[i].a = ia at *
      generalize c.is[i].t = u at *
      generalize Tm.k u = ku at *
      generalize Tm.s u = su at *
      generalize Tm.x u = xu at *
      clear hop
      go_wp2_with fail
      refine wp_region_plan3 [(true, 0, [1, 3, 4, 5, 12, 13, 14, 15, 16, 17, 18, 19, 20, 21, 22, 23, 24, 25, 26, 27, 28, 29, 30, 31, 32, 33, 34, 35, 36, 37, 38, 39, 40, 41, 42, 43]), (true, 1, [3, 4, 5, 12, 13, 14, 15, 16, 17, 18, 19, 20, 21, 22, 23, 24, 25, 26, 27, 28, 29, 30, 31, 32, 33, 34, 35, 36, 37, 38, 39, 40, 41, 42, 43]), (true, 2, [3, 4, 5, 12, 13, 14, 15, 16, 17, 18, 19, 20, 21, 22, 23, 24, 25, 26, 27, 28, 29, 30, 31, 32, 33, 34, 35, 36, 37, 38, 39, 40, 41, 42, 43]), (true, 3, [4, 5, 12, 13, 14, 15, 16, 17, 18, 19, 20, 21, 22, 23, 24, 25, 26, 27, 28, 29, 30, 31, 32, 33, 34, 35, 36, 37, 38, 39, 40, 41, 42, 43]), (true, 4, [5, 12, 13, 14, 15, 16, 17, 18, 19, 20, 21, 22, 23, 24, 25, 26, 27, 28, 29, 30, 31, 32, 33, 34, 35, 36, 37, 38, 39, 40, 41, 42, 43]), (true, 5, [12, 13, 14, 15, 16, 17, 18, 19, 20, 21, 22, 23, 24, 25, 26, 27, 28, 29, 30, 31, 32, 33, 34, 35, 36, 37, 38, 39, 40, 41, 42, 43]), (true, 6, [7, 9, 10, 11, 12, 13, 14, 15, 16, 17, 18, 19, 20, 21, 22, 23, 24, 25, 26, 27, 28, 29, 30, 31, 32, 33, 34, 35, 36, 37, 38, 39, 40, 41, 42, 43]), (true, 7, [9, 10, 11, 12, 13, 14, 15, 16, 17, 18, 19, 20, 21, 22, 23, 24, 25, 26, 27, 28, 29, 30, 31, 32, 33, 34, 35, 36, 37, 38, 39, 40, 41, 42, 43]), (true, 8, [9, 10, 11, 12, 13, 14, 15, 16, 17, 18, 19, 20, 21, 22, 23, 24, 25, 26, 27, 28, 29, 30, 31, 32, 33, 34, 35, 36, 37, 38, 39, 40, 41, 42, 43]), (true, 9, [10, 11, 12, 13, 14, 15, 16, 17, 18, 19, 20, 21, 22, 23, 24, 25, 26, 27, 28, 29, 30, 31, 32, 33, 34, 35, 36, 37, 38, 39, 40, 41, 42, 43]), (true, 10, [11, 12, 13, 14, 15, 16, 17, 18, 19, 20, 21, 22, 23, 24, 25, 26, 27, 28, 29, 30, 31, 32, 33, 34, 35, 36, 37, 38, 39, 40, 41, 42, 43]), (true, 11, [12, 13, 14, 15, 16, 17, 18, 19, 20, 21, 22, 23, 24, 25, 26, 27, 28, 29, 30, 31, 32, 33, 34, 35, 36, 37, 38, 39, 40, 41, 42, 43]), (true, 12, [13, 14, 15, 16, 17, 18, 19, 20, 21, 22, 23, 24, 25, 26, 27, 28, 29, 30, 31, 32, 33, 34, 35, 36, 37, 38, 39, 40, 41, 42, 43]), (true, 13, [14, 15, 16, 17, 18, 19, 20, 21, 22, 23, 24, 25, 26, 27, 28, 29, 30, 31, 32, 33, 34, 35, 36, 37, 38, 39, 40, 41, 42, 43]), (true, 14, [15, 17, 18, 19, 26, 27, 28, 29, 30, 31, 32, 33, 34, 35, 36, 37, 38, 39, 40, 41, 42, 43]), (true, 15, [17, 18, 19, 26, 27, 28, 29, 30, 31, 32, 33, 34, 35, 36, 37, 38, 39, 40, 41, 42, 43]), (true, 16, [17, 18, 19, 26, 27, 28, 29, 30, 31, 32, 33, 34, 35, 36, 37, 38, 39, 40, 41, 42, 43]), (true, 17, [18, 19, 26, 27, 28, 29, 30, 31, 32, 33, 34, 35, 36, 37, 38, 39, 40, 41, 42, 43]), (true, 18, [19, 26, 27, 28, 29, 30, 31, 32, 33, 34, 35, 36, 37, 38, 39, 40, 41, 42, 43]), (true, 19, [26, 27, 28, 29, 30, 31, 32, 33, 34, 35, 36, 37, 38, 39, 40, 41, 42, 43]), (true, 20, [21, 23, 24, 25, 26, 27, 28, 29, 30, 31, 32, 33, 34, 35, 36, 37, 38, 39, 40, 41, 42, 43]), (true, 21, [23, 24, 25, 26, 27, 28, 29, 30, 31, 32, 33, 34, 35, 36, 37, 38, 39, 40, 41, 42, 43]), (true, 22, [23, 24, 25, 26, 27, 28, 29, 30, 31, 32, 33, 34, 35, 36, 37, 38, 39, 40, 41, 42, 43]), (true, 23, [24, 25, 26, 27, 28, 29, 30, 31, 32, 33, 34, 35, 36, 37, 38, 39, 40, 41, 42, 43]), (true, 24, [25, 26, 27, 28, 29, 30, 31, 32, 33, 34, 35, 36, 37, 38, 39, 40, 41, 42, 43]), (true, 25, [26, 27, 28, 29, 30, 31, 32, 33, 34, 35, 36, 37, 38, 39, 40, 41, 42, 43]), (true, 26, [27, 28, 29, 30, 31, 32, 33, 34, 35, 36, 37, 38, 39, 40, 41, 42, 43]), (true, 27, [28, 29, 30, 31, 32, 33, 34, 35, 36, 37, 38, 39, 40, 41, 42, 43]), (true, 28, [29, 30, 31, 32, 33, 34, 35, 36, 37, 38, 39, 40, 41, 42, 43]), (true, 29, [30, 32, 33, 34, 41, 42, 43]), (true, 30, [32, 33, 34, 41, 42, 43]), (true, 31, [32, 33, 34, 41, 42, 43]), (true, 32, [33, 34, 41, 42, 43]), (true, 33, [34, 41, 42, 43]), (true, 34, [41, 42, 43]), (true, 35, [36, 38, 39, 40, 41, 42, 43]), (true, 36, [38, 39, 40, 41, 42, 43]), (true, 37, [38, 39, 40, 41, 42, 43]), (true, 38, [39, 40, 41, 42, 43]), (true, 39, [40, 41, 42, 43]), (true, 40, [41, 42, 43]), (false, 41, []), (true, 42, [43]), (true, 43, [])] (Facts _) (by kernel_rfl) (by kernel_rfl) (fun _ _ _ d _ h => by cases d <;> exact h) (FactsB.facts HF.out) ?_
      clear z3 z4
      generalize wr.drew = w3 at *
      iterate 41
        apply plan3_early
        case hi => rfl
        case h =>
          intro w9 hf
          simp only [Facts] at hf
          obtain ⟨z0, z1, z2, z3, z4, z5, z6, z7, z8, z9, z10, z11, z12, z13, _⟩ := hf
          still_step
          exact wpStill_nil rfl
      refine plan3_big rfl ?_
      go_wp2_with fail
      refine HI.out.mono ?_
      rintro e w4 ⟨rfl, hB4⟩
      have HF4 := Lib.hid (FactsB.below hB4 HF.out)
      have HB4 := Lib.hid (HBD.out.trans (hB4.mono HBD.out.size))
      clear hB4 HI HF
      go_wp2_with fail
      refine ⟨FactsB.facts HF4.out, ?_⟩
      iterate 2
        apply plan3_early
        case hi => rfl
        case h =>
          intro w9 hf
          clear hf
          still_step
          exact wpStill_nil rfl
      refine plan3_nil ?_
      go_wp2_with fail
      go_roundg (c.is.length - (i + 1))
      case measure => omega
      case rel => exact ⟨i + 1, by go_num, by omega, HB4.out⟩
    · obtain rfl : i = c.is.length := by omega
      clear hBl hb0 hb1
      go_wp2_with fail
      go_ret
      exact ⟨rfl, HBW.out⟩
end Go.Proofs.Ytamiidklcadkmaa
