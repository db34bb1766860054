/- The document's makers of terms; the law package's alive. Printed in part by gen_alive.py. -/
import Derived.Test.YtamiidklcadkmaaLenPure
set_option maxRecDepth 20000
set_option linter.unusedVariables false
set_option linter.unusedSimpArgs false
namespace Go.Proofs.Ytamiidklcadkmaa
open Go.RowKit Go.PM
theorem A_any (s : ByteArray) (w : World) : Calls Try.prog 17 #[.string s] w fun e w' => e = .returned (.agg #[.int .i64 3, .string s, .int .i64 0, .slice none 0 0]) ∧ Below w.heap.size w w' := by
  go_enter Try.func17, Try.ntmps17
  go_wp2_with fail
  exact bodyPost_ret (v := .agg #[.int .i64 3, .string s, .int .i64 0, .slice none 0 0]) (by simp [results, Try.results17, go_sem]) rfl ⟨rfl, (Below.refl _ _).alloc (Nat.le_refl _) _⟩
theorem V_any (n : Int) (w : World) : Calls Try.prog 20 #[.int .i64 n] w fun e w' => e = .returned (.agg #[.int .i64 1, .string noStr, .int .i64 n, .slice none 0 0]) ∧ Below w.heap.size w w' := by
  go_enter Try.func20, Try.ntmps20
  go_wp2_with fail
  exact bodyPost_ret (v := .agg #[.int .i64 1, .string noStr, .int .i64 n, .slice none 0 0]) (by simp [results, Try.results20, go_sem]; rfl) rfl ⟨rfl, (Below.refl _ _).alloc (Nat.le_refl _) _⟩
theorem C_any (s : ByteArray) (a : Option Addr) (n c : Nat) (w : World) : Calls Try.prog 18 #[.string s, .slice a n c] w fun e w' => e = .returned (.agg #[.int .i64 4, .string s, .int .i64 0, .slice a n c]) ∧ Below w.heap.size w w' := by
  go_enter Try.func18, Try.ntmps18
  go_wp2_with fail
  exact bodyPost_ret (v := .agg #[.int .i64 4, .string s, .int .i64 0, .slice a n c]) (by simp [results, Try.results18, go_sem]) rfl ⟨rfl, (Below.refl _ _).alloc (Nat.le_refl _) _⟩
theorem a_any (s : ByteArray) (w : World) : Calls Try.prog 23 #[.string s] w fun e w' => e = .returned (.agg #[.int .i64 3, .string s, .int .i64 0, .slice none 0 0]) ∧ Below w.heap.size w w' := by
  have hn := Blk.new (own := fun _ => 0) (k := 0) w (.cells #[.int .i64 0, .string noStr, .int .i64 0, .slice none 0 0] 24) rfl
  have HN := Lib.hid hn
  have HB0 := Lib.hid ((Below.refl w.heap.size w).alloc (Nat.le_refl _) (.cells #[.int .i64 0, .string noStr, .int .i64 0, .slice none 0 0] 24))
  clear hn
  go_enter Try.func23, Try.ntmps23
  go_wp2_with fail
  refine (A_any s _).mono ?_
  rintro e w2 ⟨rfl, hB⟩
  have h2 := Blk_same HN.out hB
  have H2 := Lib.hid h2
  have f0 := h2.free 0
  have f1 := h2.free 1
  have f2 := h2.free 2
  have f3 := h2.free 3
  have l1 := h2.lt
  have d0 : w2.cell? ⟨w.heap.size, 0, none⟩ = some (.int .i64 0) := h2.cell 0
  have d1 : w2.cell? ⟨w.heap.size, 1, none⟩ = some (.string noStr) := h2.cell 1
  have d2 : w2.cell? ⟨w.heap.size, 2, none⟩ = some (.int .i64 0) := h2.cell 2
  have d3 : w2.cell? ⟨w.heap.size, 3, none⟩ = some (.slice none 0 0) := h2.cell 3
  have HB2 := Lib.hid (HB0.out.trans (hB.mono HB0.out.size))
  clear h2 hB HN
  go_wp2_with fail
  have hend := Blk.putCells (cs := [.int .i64 0, .string noStr, .int .i64 0, .slice none 0 0]) (vs := [.int .i64 3, .string s, .int .i64 0, .slice none 0 0]) H2.out rfl
  have hbel := below_put HB2.out (b := w.heap.size) (Nat.le_refl _) [.int .i64 3, .string s, .int .i64 0, .slice none 0 0]
  simp only [putCells, Nat.reduceAdd] at hend hbel
  refine bodyPost_ret (v := .agg #[.int .i64 3, .string s, .int .i64 0, .slice none 0 0]) (results_cell_row rfl _ _ w.heap.size 24 _ _ _ rfl hend.at_ Try.underlying24 rfl (by kernel_rfl)) rfl ?_
  exact ⟨rfl, hbel⟩
theorem atomV (w : World) (C : Nat → Prop) (s : ByteArray) (hs : s.size ≤ 9223372036854775807) : TmV w C (.mk 3 s 0 []) (.agg #[.int .i64 3, .string s, .int .i64 0, .slice none 0 0]) := by
  refine ⟨_, rfl, ?_, hs, ?_, ?_⟩
  · unfold rng64; show -9223372036854775808 ≤ (3 : Int) ∧ (3 : Int) ≤ 9223372036854775807; decide
  · unfold rng64; show -9223372036854775808 ≤ (0 : Int) ∧ (0 : Int) ≤ 9223372036854775807; decide
  · unfold Tm.At; exact .inl ⟨rfl, _, _, rfl⟩
theorem compV {w : World} {C : Nat → Prop} {s : ByteArray} {ls : List Tm} {sl : Value} (hs : s.size ≤ 9223372036854775807) (h : Tm.At w C (.mk 4 s 0 ls) sl) : TmV w C (.mk 4 s 0 ls) (.agg #[.int .i64 4, .string s, .int .i64 0, sl]) := by
  refine ⟨_, rfl, ?_, hs, ?_, h⟩
  · unfold rng64; show -9223372036854775808 ≤ (4 : Int) ∧ (4 : Int) ≤ 9223372036854775807; decide
  · unfold rng64; show -9223372036854775808 ≤ (0 : Int) ∧ (0 : Int) ≤ 9223372036854775807; decide
theorem one_at {w : World} {C : Nat → Prop} {h : Tm} {k1 : Int} {s1 : ByteArray} {x1 : Int} {sl1 : Value} {g : Nat} (k : Int) (s : ByteArray) (x : Int) (c : Nat)
    (hh : TmV w C h (.agg #[.int .i64 k1, .string s1, .int .i64 x1, sl1])) (hg : w.heap[g]? = some (.cells #[.int .i64 k1, .string s1, .int .i64 x1, sl1] 24 (0, 0))) (hC : C g) : Tm.At w C (.mk k s x [h]) (.slice (some ⟨g, 0, none⟩) 1 c) := by
  obtain ⟨e1, e2, e3, a1, a2, a3, a4⟩ := TmV_at hh
  subst e1
  subst e2
  subst e3
  have hb : Blk w (fun _ => 0) 0 g _ := ⟨hg, rfl⟩
  unfold Tm.At
  exact .inr ⟨by simp, g, 0, c, rfl, hb.lt, hC, ⟨hb.cell 0, hb.cell 1, hb.cell 2, a1, a2, a3, sl1, hb.cell 3, a4⟩, trivial⟩
theorem IRow.get2 {w : World} {own : Nat → Nat} {a : Option Addr} {n c : Nat} {is : List In} (h : IRow w own (.slice a n c) is) {i : Nat} (hi : i < is.length) :
    ∃ g, a = some ⟨g, 0, none⟩ ∧ g < w.heap.size ∧ w.cell? ⟨g, i * 6, none⟩ = some (.int .i64 is[i].op) ∧ w.cell? ⟨g, i * 6 + 1, none⟩ = some (.int .i64 is[i].a) ∧ w.cell? ⟨g, i * 6 + 3, none⟩ = some (.string is[i].t.s) := by
  obtain ⟨g, c', a2, l2, c2, he, hg, q0, q1, q2, q3, _⟩ := h.get hi
  injection he with he
  exact ⟨g, he, hg, q0, q1, q3⟩
theorem IRow.still {w w' : World} {own : Nat → Nat} {v : Value} {is : List In} (h : IRow w own v is) (e : Below w.heap.size w w') : IRow w' own v is := h.ext (Ext_same (M := fun _ => False) own e) fun c h => h.elim
def hd1 : Tm := .mk 4 ⟨#[112]⟩ 0 [varT 1]
def bd1 : Tm := .mk 4 ⟨#[44]⟩ 0 [.mk 3 ⟨#[113]⟩ 0 [], .mk 3 ⟨#[33]⟩ 0 []]
def hd2 : Tm := .mk 3 ⟨#[112]⟩ 0 []
def bd2 : Tm := .mk 4 ⟨#[59]⟩ 0 [.mk 4 ⟨#[45, 62]⟩ 0 [.mk 3 ⟨#[97]⟩ 0 [], .mk 3 ⟨#[98]⟩ 0 []], .mk 3 ⟨#[99]⟩ 0 []]
def gl3 : Tm := .mk 3 ⟨#[113]⟩ 0 []
theorem al1 : compOk hd1 bd1 = true := by decide
theorem al2 : compOk hd2 bd2 = true := by decide
theorem al3 : goalE gl3 = 0 := by decide
theorem al4 : (compM hd1 bd1).is.length = 4 ∧ (compM hd2 bd2).is.length = 9 ∧ (goalM gl3).is.length = 2 := by decide
theorem al5 : (compM hd1 bd1).is.map (·.op) = [1, 2, 3, 9] := by decide
theorem al6 : (compM hd1 bd1).is.map (·.t.s) = [noStr, ⟨#[113]⟩, noStr, noStr] := by decide
theorem al7 : (compM hd2 bd2).is.map (·.a) = [0, 7, 1, 0, 0, 0, 8, 0, 0] := by decide
theorem al8 : (compM hd2 bd2).slots = 2 ∧ (goalM gl3).p.1 = ⟨#[36, 103, 111, 97, 108]⟩ := by decide
theorem map_get {α β : Type} (f : α → β) {l : List α} {m : List β} (h : l.map f = m) {i : Nat} (hi : i < l.length) {b : β} (hb : m[i]? = some b) : f l[i] = b := by
  subst h
  rw [List.getElem?_map, List.getElem?_eq_getElem hi] at hb
  exact Option.some.inj hb
set_option maxHeartbeats 8000000 in
theorem alive_any (w : World) : Calls Try.prog 7 #[] w fun e w' => e = .returned (.bool true) ∧ Below w.heap.size w w' := by
  have HW0 := Lib.hid (Below.refl w.heap.size w)
  go_enter Try.func7, Try.ntmps7
  go_wp2_with fail
  refine (V_any 1 w).mono ?_
  rintro e w1 ⟨rfl, hB⟩
  have HB1 : Hid (Below w.heap.size w w1) := Lib.hid hB
  have HW1 := Lib.hid (HW0.out.trans (HB1.out.mono HW0.out.size))
  clear hB HB1 HW0
  go_wp2_with fail
  refine (C_any _ _ _ _ _).mono ?_
  rintro e w2 ⟨rfl, hB⟩
  have HB2 : Hid (Below w1.heap.size w1 w2) := Lib.hid (((Below.refl _ _).alloc (Nat.le_refl _) (.cells #[.int .i64 1, .string noStr, .int .i64 1, .slice none 0 0] 24)).trans (hB.mono (by rw [World.size_alloc]; omega)))
  have N1 := Lib.hid (Blk_same (Blk.new (own := fun _ => 0) (k := 0) w1 (.cells #[.int .i64 1, .string noStr, .int .i64 1, .slice none 0 0] 24) rfl) hB)
  have HW2 := Lib.hid (HW1.out.trans (HB2.out.mono HW1.out.size))
  clear hB HB2 HW1
  go_wp2_with fail
  refine (a_any _ _).mono ?_
  rintro e w3 ⟨rfl, hB⟩
  have HB3 : Hid (Below w2.heap.size w2 w3) := Lib.hid hB
  have N1 := Lib.hid (Blk_same N1.out HB3.out)
  have HW3 := Lib.hid (HW2.out.trans (HB3.out.mono HW2.out.size))
  clear hB HB3 HW2
  go_wp2_with fail
  refine (a_any _ _).mono ?_
  rintro e w4 ⟨rfl, hB⟩
  have HB4 : Hid (Below w3.heap.size w3 w4) := Lib.hid hB
  have N1 := Lib.hid (Blk_same N1.out HB4.out)
  have HW4 := Lib.hid (HW3.out.trans (HB4.out.mono HW3.out.size))
  clear hB HB4 HW3
  go_wp2_with fail
  refine (C_any _ _ _ _ _).mono ?_
  rintro e w5 ⟨rfl, hB⟩
  have HB5 : Hid (Below w4.heap.size w4 w5) := Lib.hid (((Below.refl _ _).alloc (Nat.le_refl _) (.cells #[.int .i64 3, .string ⟨#[113]⟩, .int .i64 0, .slice none 0 0, .int .i64 3, .string ⟨#[33]⟩, .int .i64 0, .slice none 0 0] 24)).trans (hB.mono (by rw [World.size_alloc]; omega)))
  have N2 := Lib.hid (Blk_same (Blk.new (own := fun _ => 0) (k := 0) w4 (.cells #[.int .i64 3, .string ⟨#[113]⟩, .int .i64 0, .slice none 0 0, .int .i64 3, .string ⟨#[33]⟩, .int .i64 0, .slice none 0 0] 24) rfl) hB)
  have N1 := Lib.hid (Blk_same N1.out HB5.out)
  have HW5 := Lib.hid (HW4.out.trans (HB5.out.mono HW4.out.size))
  clear hB HB5 HW4
  go_wp2_with fail
  have HT1 : TmV w5 (fun _ => True) hd1 (.agg #[.int .i64 4, .string ⟨#[112]⟩, .int .i64 0, .slice (some ⟨w1.heap.size, 0, none⟩) 1 1]) := compV (by decide) (one_at 4 _ 0 1 (varV _ _ 1 (by unfold rng64; decide)) N1.out.at_ trivial)
  have HT2 : TmV w5 (fun _ => True) bd1 (.agg #[.int .i64 4, .string ⟨#[44]⟩, .int .i64 0, .slice (some ⟨w4.heap.size, 0, none⟩) 2 2]) := compV (by decide) (pair_at 4 _ 0 2 (atomV _ _ _ (by decide)) (atomV _ _ _ (by decide)) N2.out.at_ trivial)
  have HC := Lib.hid (Compile_any hd1 bd1 w5 (fun _ => True) _ _ _ _ _ _ _ _ _ _ _ _ HT1 HT2)
  rw [al1] at HC
  clear HT1 HT2
  clear N1 N2
  obtain ⟨cx, hcx⟩ : ∃ c, c = compM hd1 bd1 := ⟨_, rfl⟩
  rw [cond_true, cond_true, ← hcx] at HC
  have HCX := Lib.hid hcx
  clear hcx
  refine (HC.out).mono ?_
  rintro e w6 ⟨ownx, vx, rfl, ⟨rx, rfl, hrx⟩, hB⟩
  have HB6 : Hid (Below w5.heap.size w5 w6) := Lib.hid hB
  have HW6 := Lib.hid (HW5.out.trans (HB6.out.mono HW5.out.size))
  clear hB HB6 HW5
  obtain ⟨ax, bx, rfl⟩ := hrx.shape
  have RX := Lib.hid hrx
  clear hrx HC
  have hlx : cx.is.length = 4 := by rw [HCX.out]; exact al4.1
  rw [hlx] at RX ⊢
  go_wp2_with fail
  refine (a_any _ _).mono ?_
  rintro e w7 ⟨rfl, hB⟩
  have HB7 : Hid (Below w6.heap.size w6 w7) := Lib.hid (((Below.refl _ _).alloc (Nat.le_refl _) (.cells #[.string cx.p.1, .int .i64 cx.p.2, .int .i64 cx.vs, .int .i64 cx.slots, .slice ax 4 bx] 32)).trans (hB.mono (by rw [World.size_alloc]; omega)))
  have SX := Lib.hid (Blk_same (Blk.new (own := fun _ => 0) (k := 0) w6 (.cells #[.string cx.p.1, .int .i64 cx.p.2, .int .i64 cx.vs, .int .i64 cx.slots, .slice ax 4 bx] 32) rfl) hB)
  have RX := Lib.hid (IRow.still RX.out HB7.out)
  have HW7 := Lib.hid (HW6.out.trans (HB7.out.mono HW6.out.size))
  clear hB HB7 HW6
  go_wp2_with fail
  refine (a_any _ _).mono ?_
  rintro e w8 ⟨rfl, hB⟩
  have HB8 : Hid (Below w7.heap.size w7 w8) := Lib.hid hB
  have SX := Lib.hid (Blk_same SX.out HB8.out)
  have RX := Lib.hid (IRow.still RX.out HB8.out)
  have HW8 := Lib.hid (HW7.out.trans (HB8.out.mono HW7.out.size))
  clear hB HB8 HW7
  go_wp2_with fail
  refine (a_any _ _).mono ?_
  rintro e w9 ⟨rfl, hB⟩
  have HB9 : Hid (Below w8.heap.size w8 w9) := Lib.hid hB
  have SX := Lib.hid (Blk_same SX.out HB9.out)
  have RX := Lib.hid (IRow.still RX.out HB9.out)
  have HW9 := Lib.hid (HW8.out.trans (HB9.out.mono HW8.out.size))
  clear hB HB9 HW8
  go_wp2_with fail
  refine (C_any _ _ _ _ _).mono ?_
  rintro e w10 ⟨rfl, hB⟩
  have HB10 : Hid (Below w9.heap.size w9 w10) := Lib.hid (((Below.refl _ _).alloc (Nat.le_refl _) (.cells #[.int .i64 3, .string ⟨#[97]⟩, .int .i64 0, .slice none 0 0, .int .i64 3, .string ⟨#[98]⟩, .int .i64 0, .slice none 0 0] 24)).trans (hB.mono (by rw [World.size_alloc]; omega)))
  have N3 := Lib.hid (Blk_same (Blk.new (own := fun _ => 0) (k := 0) w9 (.cells #[.int .i64 3, .string ⟨#[97]⟩, .int .i64 0, .slice none 0 0, .int .i64 3, .string ⟨#[98]⟩, .int .i64 0, .slice none 0 0] 24) rfl) hB)
  have SX := Lib.hid (Blk_same SX.out HB10.out)
  have RX := Lib.hid (IRow.still RX.out HB10.out)
  have HW10 := Lib.hid (HW9.out.trans (HB10.out.mono HW9.out.size))
  clear hB HB10 HW9
  go_wp2_with fail
  refine (a_any _ _).mono ?_
  rintro e w11 ⟨rfl, hB⟩
  have HB11 : Hid (Below w10.heap.size w10 w11) := Lib.hid hB
  have SX := Lib.hid (Blk_same SX.out HB11.out)
  have N3 := Lib.hid (Blk_same N3.out HB11.out)
  have RX := Lib.hid (IRow.still RX.out HB11.out)
  have HW11 := Lib.hid (HW10.out.trans (HB11.out.mono HW10.out.size))
  clear hB HB11 HW10
  go_wp2_with fail
  refine (C_any _ _ _ _ _).mono ?_
  rintro e w12 ⟨rfl, hB⟩
  have HB12 : Hid (Below w11.heap.size w11 w12) := Lib.hid (((Below.refl _ _).alloc (Nat.le_refl _) (.cells #[.int .i64 4, .string ⟨#[45, 62]⟩, .int .i64 0, .slice (some ⟨w9.heap.size, 0, none⟩) 2 2, .int .i64 3, .string ⟨#[99]⟩, .int .i64 0, .slice none 0 0] 24)).trans (hB.mono (by rw [World.size_alloc]; omega)))
  have N4 := Lib.hid (Blk_same (Blk.new (own := fun _ => 0) (k := 0) w11 (.cells #[.int .i64 4, .string ⟨#[45, 62]⟩, .int .i64 0, .slice (some ⟨w9.heap.size, 0, none⟩) 2 2, .int .i64 3, .string ⟨#[99]⟩, .int .i64 0, .slice none 0 0] 24) rfl) hB)
  have SX := Lib.hid (Blk_same SX.out HB12.out)
  have N3 := Lib.hid (Blk_same N3.out HB12.out)
  have RX := Lib.hid (IRow.still RX.out HB12.out)
  have HW12 := Lib.hid (HW11.out.trans (HB12.out.mono HW11.out.size))
  clear hB HB12 HW11
  go_wp2_with fail
  have HT2 : TmV w12 (fun _ => True) bd2 (.agg #[.int .i64 4, .string ⟨#[59]⟩, .int .i64 0, .slice (some ⟨w11.heap.size, 0, none⟩) 2 2]) := compV (by decide) (pair_at 4 _ 0 2 (compV (by decide) (pair_at 4 _ 0 2 (atomV _ _ _ (by decide)) (atomV _ _ _ (by decide)) N3.out.at_ trivial)) (atomV _ _ _ (by decide)) N4.out.at_ trivial)
  have HC := Lib.hid (Compile_any hd2 bd2 w12 (fun _ => True) _ _ _ _ _ _ _ _ _ _ _ _ (atomV _ _ _ (by decide)) HT2)
  rw [al2] at HC
  obtain ⟨cy, hcy⟩ : ∃ c, c = compM hd2 bd2 := ⟨_, rfl⟩
  rw [cond_true, cond_true, ← hcy] at HC
  have HCY := Lib.hid hcy
  clear HT2 N3 N4 hcy
  refine (HC.out).mono ?_
  rintro e w13 ⟨owny, vy, rfl, ⟨ry, rfl, hry⟩, hB⟩
  have HB13 : Hid (Below w12.heap.size w12 w13) := Lib.hid hB
  have SX := Lib.hid (Blk_same SX.out HB13.out)
  have RX := Lib.hid (IRow.still RX.out HB13.out)
  have HW13 := Lib.hid (HW12.out.trans (HB13.out.mono HW12.out.size))
  clear hB HB13 HW12
  obtain ⟨ay, by_, rfl⟩ := hry.shape
  have RY := Lib.hid hry
  have hly : cy.is.length = 9 := by rw [HCY.out]; exact al4.2.1
  rw [hly] at RY ⊢
  clear hry HC
  go_wp2_with fail
  refine (a_any _ _).mono ?_
  rintro e w14 ⟨rfl, hB⟩
  have HB14 : Hid (Below w13.heap.size w13 w14) := Lib.hid (((Below.refl _ _).alloc (Nat.le_refl _) (.cells #[.string cy.p.1, .int .i64 cy.p.2, .int .i64 cy.vs, .int .i64 cy.slots, .slice ay 9 by_] 32)).trans (hB.mono (by rw [World.size_alloc]; omega)))
  have SY := Lib.hid (Blk_same (Blk.new (own := fun _ => 0) (k := 0) w13 (.cells #[.string cy.p.1, .int .i64 cy.p.2, .int .i64 cy.vs, .int .i64 cy.slots, .slice ay 9 by_] 32) rfl) hB)
  have SX := Lib.hid (Blk_same SX.out HB14.out)
  have RX := Lib.hid (IRow.still RX.out HB14.out)
  have RY := Lib.hid (IRow.still RY.out HB14.out)
  have HW14 := Lib.hid (HW13.out.trans (HB14.out.mono HW13.out.size))
  clear hB HB14 HW13
  go_wp2_with fail
  have HC := Lib.hid (Goal_any gl3 w14 (fun _ => True) _ (atomV _ _ _ (by decide)))
  rw [al3] at HC
  obtain ⟨cz, hcz⟩ : ∃ c, c = goalM gl3 := ⟨_, rfl⟩
  rw [← hcz] at HC
  have HCZ := Lib.hid hcz
  clear hcz
  refine (HC.out).mono ?_
  rintro e w15 ⟨ownz, vz, rfl, ⟨rz, rfl, hrz⟩, hB⟩
  have HB15 : Hid (Below w14.heap.size w14 w15) := Lib.hid hB
  have SX := Lib.hid (Blk_same SX.out HB15.out)
  have SY := Lib.hid (Blk_same SY.out HB15.out)
  have RX := Lib.hid (IRow.still RX.out HB15.out)
  have RY := Lib.hid (IRow.still RY.out HB15.out)
  have HW15 := Lib.hid (HW14.out.trans (HB15.out.mono HW14.out.size))
  clear hB HB15 HW14
  obtain ⟨az, bz, rfl⟩ := hrz.shape
  have hlz : cz.is.length = 2 := by rw [HCZ.out]; exact al4.2.2
  rw [hlz]
  clear hrz HC
  obtain ⟨gx, rfl, hgx, u0, -, -⟩ := RX.out.get2 (i := 0) (by omega)
  obtain ⟨gx1, he, -, -, -, u1⟩ := RX.out.get2 (i := 1) (by omega)
  injection he with he
  injection he with he
  subst he
  obtain ⟨gx2, he, -, u2, -, -⟩ := RX.out.get2 (i := 2) (by omega)
  injection he with he
  injection he with he
  subst he
  obtain ⟨gy, rfl, hgy, -, v1, -⟩ := RY.out.get2 (i := 1) (by omega)
  obtain ⟨gy2, he, -, -, v6, -⟩ := RY.out.get2 (i := 6) (by omega)
  injection he with he
  injection he with he
  subst he
  rw [map_get (fun x => x.op) (l := cx.is) (m := [1, 2, 3, 9]) (by rw [HCX.out]; exact al5) (by omega) (b := 1) rfl] at u0
  rw [map_get (fun x => x.t.s) (l := cx.is) (m := [noStr, ⟨#[113]⟩, noStr, noStr]) (by rw [HCX.out]; exact al6) (by omega) (b := ⟨#[113]⟩) rfl] at u1
  rw [map_get (fun x => x.op) (l := cx.is) (m := [1, 2, 3, 9]) (by rw [HCX.out]; exact al5) (by omega) (b := 3) rfl] at u2
  rw [map_get (fun x => x.a) (l := cy.is) (m := [0, 7, 1, 0, 0, 0, 8, 0, 0]) (by rw [HCY.out]; exact al7) (by omega) (b := 7) rfl] at v1
  rw [map_get (fun x => x.a) (l := cy.is) (m := [0, 7, 1, 0, 0, 0, 8, 0, 0]) (by rw [HCY.out]; exact al7) (by omega) (b := 8) rfl] at v6
  simp only [Nat.zero_mul, Nat.one_mul, Nat.reduceMul, Nat.reduceAdd] at u0 u1 u2 v1 v6
  have hcz1 : cz.p.1 = ⟨#[36, 103, 111, 97, 108]⟩ := by rw [HCZ.out]; exact al8.2
  have hcy1 : cy.slots = 2 := by rw [HCY.out]; exact al8.1
  rw [hcy1] at SY
  rw [hcz1]
  clear hcz1
  have m0 := SX.out.cell 0
  have m1 := SX.out.cell 1
  have m2 := SX.out.cell 2
  have m3 := SX.out.cell 3
  have m4 := SX.out.cell 4
  have n0 := SY.out.cell 0
  have n1 := SY.out.cell 1
  have n2 := SY.out.cell 2
  have n3 := SY.out.cell 3
  have n4 := SY.out.cell 4
  simp at m0 m1 m2 m3 m4 n0 n1 n2 n3 n4
  have lx := SX.out.lt
  have ly := SY.out.lt
  have HRX := Lib.hid (fun w2 (hB : Below w15.heap.size w15 w2) => Right_code cx w2 ownx _ ⟨_, rfl, IRow.still RX.out hB⟩ (by omega))
  have hr1 : rightC cx = true := by rw [HCX.out]; exact comp_right _ _ al1
  have HRY := Lib.hid (fun w2 (hB : Below w15.heap.size w15 w2) => Right_code cy w2 owny _ ⟨_, rfl, IRow.still RY.out hB⟩ (by omega))
  have hr2 : rightC cy = true := by rw [HCY.out]; exact comp_right _ _ al2
  rw [hr1] at HRX
  rw [hr2] at HRY
  rw [hcy1] at HRY
  have HQ := Lib.hid (SY.out)
  have N0 := Lib.hid (⟨n0, n1, n2, n3, n4⟩ : _ ∧ _ ∧ _ ∧ _ ∧ _)
  clear hlx hly hlz hcy1 hr1 hr2 RX RY HCX HCY HCZ
  go_wp2_with fail
  refine (HRX.out _ ((Below.refl _ _).alloc (Nat.le_refl _) _)).mono ?_
  rintro e wA ⟨rfl, hB⟩
  have hy := Blk_same (SY.out.alloc (.cells #[.string ⟨#[36, 103, 111, 97, 108]⟩, .int .i64 cz.p.2, .int .i64 cz.vs, .int .i64 cz.slots, .slice az 2 bz] 32)) hB
  have HBA := Lib.hid (((Below.refl w15.heap.size w15).alloc (Nat.le_refl _) (.cells #[.string ⟨#[36, 103, 111, 97, 108]⟩, .int .i64 cz.p.2, .int .i64 cz.vs, .int .i64 cz.slots, .slice az 2 bz] 32)).trans (hB.mono (by rw [World.size_alloc]; omega)))
  clear m0 m1 m2 m3 m4 n0 n1 n2 n3 n4 u0 u1 u2 v1 v6 hB lx ly
  have n0 := hy.cell 0
  have n1 := hy.cell 1
  have n2 := hy.cell 2
  have n3 := hy.cell 3
  have n4 := hy.cell 4
  simp at n0 n1 n2 n3 n4
  have ly := hy.lt
  clear hy
  go_wp2_with fail
  refine (HRY.out _ HBA.out).mono ?_
  rintro e wB ⟨rfl, hB⟩
  have HBB := Lib.hid (HW15.out.trans ((HBA.out.trans (hB.mono HBA.out.size)).mono HW15.out.size))
  clear hB n0 n1 n2 n3 n4 ly
  go_wp2_with fail
  go_ret
  exact ⟨rfl, HBB.out⟩
end Go.Proofs.Ytamiidklcadkmaa
