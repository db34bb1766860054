/- maker.add: an instruction more. -/
import Derived.Test.YtamiidklcadkmaaMaker
set_option maxRecDepth 20000
set_option linter.unusedVariables false
set_option linter.unusedSimpArgs false
namespace Go.Proofs.Ytamiidklcadkmaa
open Go.RowKit Go.PM
/-- What the region's operations read. -/
def AdI (mb bx : Nat) (rv : Value) (op a k : Int) (s : ByteArray) (x : Int) (sl : Value) (w : World) : Prop :=
  w.cell? ⟨mb, 4, none⟩ = some rv ∧ w.cell? ⟨bx, 0, none⟩ = some (.int .i64 op) ∧ w.cell? ⟨bx, 1, none⟩ = some (.int .i64 a) ∧ w.cell? ⟨bx, 2, none⟩ = some (.int .i64 k) ∧ w.cell? ⟨bx, 3, none⟩ = some (.string s) ∧ w.cell? ⟨bx, 4, none⟩ = some (.int .i64 x) ∧ w.cell? ⟨bx, 5, none⟩ = some sl
theorem AdI.of {w : World} {own : Nat → Nat} {J mb bx : Nat} {c0 c1 c2 c3 rv : Value} {op a k : Int} {s : ByteArray} {x : Int} {sl : Value} (h1 : Blk w own 1 mb (.cells #[c0, c1, c2, c3, rv] 70 (0, 0))) (h2 : Blk w own J bx (.cells #[.int .i64 op, .int .i64 a, .int .i64 k, .string s, .int .i64 x, sl] 48 (0, 0))) : AdI mb bx rv op a k s x sl w :=
  ⟨h1.cell 4, h2.cell 0, h2.cell 1, h2.cell 2, h2.cell 3, h2.cell 4, h2.cell 5⟩
set_option maxHeartbeats 1000000 in
theorem add_any {w : World} {own : Nat → Nat} {mb : Nat} {p : ByteArray × Int} {vs slots : Int} {is : List In} (hm : Mk w own mb p vs slots is) (i : In) (v : Value) (hv : TmV w (TC own) i.t v) (k : Int) (s : ByteArray) (x : Int) (a2 : Option Addr) (l2 c2 : Nat) (he : v = .agg #[.int .i64 k, .string s, .int .i64 x, .slice a2 l2 c2]) (hn : is.length ≤ 1000000000) :
    Calls Try.prog 27 #[.pointer (some ⟨mb, 0, none⟩), .agg #[.int .i64 i.op, .int .i64 i.a, .int .i64 k, .string s, .int .i64 x, .slice a2 l2 c2]] w (MkPost w own mb p vs slots (is ++ [i]) (.int .i64 is.length)) := by
  subst he
  obtain ⟨rv, hb, hr⟩ := hm
  obtain ⟨ra, rc, rfl⟩ := hr.shape
  have hbx := (Blk.new (own := ow own w.heap.size 0) (k := 0) w (.cells #[.int .i64 i.op, .int .i64 i.a, .int .i64 k, .string s, .int .i64 x, .slice a2 l2 c2] 48) (ow_ge (Nat.le_refl _))).drew
  have hX1 : ∀ M, Ext M w (w.alloc (.cells #[.int .i64 i.op, .int .i64 i.a, .int .i64 k, .string s, .int .i64 x, .slice a2 l2 c2] 48)).drew own (ow own w.heap.size 0) := fun M => (ext_box 0 _).drew
  have HBX := Lib.hid hbx
  have HB1 := Lib.hid (hb.ext (hX1 (fun _ => False)) id)
  have HR1 := Lib.hid (hr.ext (hX1 (fun _ => False)) (fun c h => h.elim))
  have HV1 := Lib.hid (TmV.mm hv (hX1 MM))
  have HX1 := Lib.hid (hX1 MM)
  have hl := hb.lt
  generalize hiop : i.op = iop at *
  generalize hia : i.a = ia at *
  clear hb hr hbx hX1 hv
  go_enter Try.func27, Try.ntmps27
  go_wp2_with fail
  have HI1 := Lib.hid (AdI.of HB1.out HBX.out)
  refine wp_region_plan4 [(true, 0, [9, 10, 11, 12]), (true, 1, [2, 3, 4, 5, 8, 9, 10, 11, 12]), (true, 2, [3, 4, 5, 8, 9, 10, 11, 12]), (true, 3, [4, 5, 8, 9, 10, 11, 12]), (true, 4, [5, 8, 9, 10, 11, 12]), (true, 5, [8, 9, 10, 11, 12]), (true, 6, [7, 8, 9, 10, 11, 12]), (false, 7, []), (false, 8, []), (true, 9, [10, 11, 12]), (true, 10, [11, 12]), (true, 11, [12]), (false, 12, [])] 12 (AdI mb w.heap.size (.slice ra is.length rc) iop ia k s x (.slice a2 l2 c2)) (by kernel_rfl) (by kernel_rfl) (fun _ _ _ d _ h => by cases d <;> exact h) HI1.out ?_
  generalize (w.alloc (.cells #[.int .i64 iop, .int .i64 ia, .int .i64 k, .string s, .int .i64 x, .slice a2 l2 c2] 48)).drew = w1 at *
  generalize ow own w.heap.size 0 = own1 at *
  iterate 7
    apply plan4_early
    case hi => rfl
    case h =>
      rintro w1 ⟨y0, y1, y2, y3, y4, y5, y6⟩
      still_step
      exact wpStill_nil rfl
  have HI2 := Lib.hid (AdI.of (HB1.out.alloc (.cells #[.int .i64 iop, .int .i64 ia, .int .i64 k, .string s, .int .i64 x, .slice a2 l2 c2] 48)) (HBX.out.alloc (.cells #[.int .i64 iop, .int .i64 ia, .int .i64 k, .string s, .int .i64 x, .slice a2 l2 c2] 48)))
  refine plan4_big rfl ?_
  go_wp2_with fail
  first | refine ⟨fun _ => HI2.out, ?_⟩ | refine ⟨HI2.out, ?_⟩
  refine plan4_big rfl ?_
  have hn2 : is.length ≤ 1000000000000 := by omega
  subst hiop
  subst hia
  refine wpList_append_ins (v := .slice ra is.length rc) rfl _ _ rfl HV1.out rfl HR1.out hn2 rfl rfl ?_
  intro v3 w3 hr3 hE3
  obtain ⟨a3, c3, rfl⟩ := hr3.shape
  rw [List.length_append, List.length_singleton] at hr3 ⊢
  generalize ow (ow own1 w1.heap.size 0) (w1.heap.size + 1) 2 = own3 at *
  have hb3 := HB1.out.ext hE3 (by decide)
  have hbx3 := HBX.out.ext hE3 (by decide)
  have HI3 := Lib.hid (AdI.of hb3 hbx3)
  have HE3 := Lib.hid (HX1.out.trans (hE3.mono (M' := MM) (fun c h => .inr h)))
  have HR3 := Lib.hid hr3
  have HB3 := Lib.hid hb3
  have b4 := hb3.cell 4
  have f4 := hb3.free 4
  have hl3 := hb3.lt
  simp at b4
  clear hr3 hE3 hb3 hbx3 HBX HB1 HR1 HV1 HX1 HI1 HI2
  go_wp2_with fail
  first | refine ⟨HI3.out, ?_⟩ | refine ⟨fun _ => HI3.out, ?_⟩
  iterate 3
    apply plan4_early
    case hi => rfl
    case h =>
      rintro w1 ⟨y0, y1, y2, y3, y4, y5, y6⟩
      still_step
      exact wpStill_nil rfl
  refine plan4_big rfl ?_
  go_wp2_with fail
  try refine ⟨fun h => absurd rfl h, ?_⟩
  refine plan4_nil ?_
  have hn4 : (is.length : Int) ≤ 1000000000 := by omega
  go_wp2_with fail
  go_ret
  have hE4 : Ext (fun c => c = 1) w3 (w3.setCell ⟨mb, 4, none⟩ (.slice a3 (is.length + 1) c3)) own3 own3 := Ext.refl.setCell (fun _ => HB3.out.col) _
  refine ⟨own3, by congr 2, ⟨_, ?_, HR3.out.ext hE4 fun c h => .inl h⟩, HE3.out.trans (hE4.mono fun c h => .inl h)⟩
  have := HB3.out.setCell 4 (.slice a3 (is.length + 1) c3)
  simpa using this
end Go.Proofs.Ytamiidklcadkmaa
