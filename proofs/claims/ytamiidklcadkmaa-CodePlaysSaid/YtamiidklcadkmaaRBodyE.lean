/- The document's Body and either: pieces of code. Printed by gen_rbody.py. -/
import Derived.Test.YtamiidklcadkmaaRIns
set_option maxRecDepth 20000
set_option linter.unusedVariables false
set_option linter.unusedSimpArgs false
namespace Go.Proofs.Ytamiidklcadkmaa
open Go.RowKit Go.PM
theorem str_ne' {a : ByteArray} (xs : Array UInt8) (h : a ≠ ⟨xs⟩) : (a.toList == xs.toList) = false := by
  have := str_ne h
  rwa [ByteArray.toList_eq (bs := ⟨xs⟩)] at this
/-- A piece that was returned: its terms' blocks are old (below n0). -/
def PcRet (n0 : Nat) (w : World) (p : List In × Int) (e : Ending) (w' : World) : Prop := ∃ v, e = .returned (.agg #[v, .int .i64 p.2]) ∧ RV w' (fun g => g < n0) v p.1 ∧ Below w.heap.size w w'
theorem pc_end {n0 : Nat} {w w5 : World} {b : Nat} {pv : Value} {is : List In} {f : Int} {own : Nat → Nat} {J : Nat} {cs : Array Value} (h : RV w5 (fun g => g < n0) pv is) (hq : Blk w5 own J b (.cells cs 95 (0, 0))) (hB : Below w.heap.size w w5) (hb : w.heap.size ≤ b) (hn : n0 ≤ w.heap.size) :
    PcRet n0 w (is, f) (.returned (.agg #[pv, .int .i64 f])) (putCells w5 b 0 [pv, .int .i64 f]) :=
  ⟨pv, rfl, h.put hq (by decide) (by omega) _, below_put hB hb _⟩
theorem three_new (w : World) (o1 o2 o3 : Obj) : Blk (((w.alloc o1).alloc o2).alloc o3) (fun _ => 0) 0 w.heap.size o1 ∧ Blk (((w.alloc o1).alloc o2).alloc o3) (fun _ => 0) 0 (w.heap.size + 1) o2 ∧ Blk (((w.alloc o1).alloc o2).alloc o3) (fun _ => 0) 0 (w.heap.size + 1 + 1) o3 ∧ Below w.heap.size w (((w.alloc o1).alloc o2).alloc o3) ∧ (((w.alloc o1).alloc o2).alloc o3).heap.size = w.heap.size + 1 + 1 + 1 := by
  obtain ⟨h1, h2, h3, h4⟩ := two_new w o1 o2
  have h5 := Blk.new (own := fun _ => 0) (k := 0) ((w.alloc o1).alloc o2) o3 rfl
  rw [h4] at h5
  exact ⟨h1.alloc o3, h2.alloc o3, h5, h3.alloc h3.size o3, by rw [World.size_alloc, h4]⟩
/-- The arguments, wherever the world has gone. -/
theorem args_all {w : World} {C : Nat → Prop} {t : Tm} {k : Int} {s : ByteArray} {x : Int} {a : Option Addr} {l c : Nat} (hv : TmV w C t (.agg #[.int .i64 k, .string s, .int .i64 x, .slice a l c])) (h0 : 0 < t.ls.length) :
    ∃ g off, a = some ⟨g, off, none⟩ ∧ g < w.heap.size ∧ ∀ i, i < t.ls.length → ∃ a2 l2 c2, ∀ w2, Below w.heap.size w w2 → w2.cell? ⟨g, off + i * 4, none⟩ = some (.int .i64 (targ t i).k) ∧ w2.cell? ⟨g, off + i * 4 + 1, none⟩ = some (.string (targ t i).s) ∧ w2.cell? ⟨g, off + i * 4 + 2, none⟩ = some (.int .i64 (targ t i).x) ∧ w2.cell? ⟨g, off + i * 4 + 3, none⟩ = some (.slice a2 l2 c2) ∧
      TmV w2 C (targ t i) (.agg #[.int .i64 (targ t i).k, .string (targ t i).s, .int .i64 (targ t i).x, .slice a2 l2 c2]) := by
  obtain ⟨g, off, h1, h2, -, h3⟩ := arg_cells hv h0
  refine ⟨g, off, h1, h2, fun i hi => ?_⟩
  obtain ⟨a2, l2, c2, q0, q1, q2, q3, q4⟩ := h3 i hi
  exact ⟨a2, l2, c2, fun w2 hB => ⟨by rw [hB.cell (p := ⟨g, off + i * 4, none⟩) h2]; exact q0, by rw [hB.cell (p := ⟨g, off + i * 4 + 1, none⟩) h2]; exact q1, by rw [hB.cell (p := ⟨g, off + i * 4 + 2, none⟩) h2]; exact q2, by rw [hB.cell (p := ⟨g, off + i * 4 + 3, none⟩) h2]; exact q3, TmV.below q4 hB⟩⟩
def PoPiece (n0 : Nat) (X : List In × Int) (v : Value) (w : World) (_ : Unit) : Prop := ∃ pv, v = .agg #[pv, .int .i64 X.2] ∧ RV w (fun g => g < n0) pv X.1
theorem PoPiece.stable (n0 : Nat) (X : List In × Int) (v : Value) (w : World) (g : Unit) (w' : World) (g' : Unit) (h : RNew w g w' g') (hp : PoPiece n0 X v w g) : PoPiece n0 X v w' g' := by
  obtain ⟨pv, h1, h2⟩ := hp
  exact ⟨pv, h1, h2.below h⟩
def PoBox (m : Nat) (v : Value) (w : World) (_ : Unit) : Prop := ∃ b, v = .pointer (some ⟨b, 0, none⟩) ∧ m ≤ b ∧ Blk w (fun _ => 0) 0 b (.cells #[.slice none 0 0, .int .i64 0] 95 (0, 0))
theorem PoBox.stable (m : Nat) (v : Value) (w : World) (g : Unit) (w' : World) (g' : Unit) (h : RNew w g w' g') (hp : PoBox m v w g) : PoBox m v w' g' := by
  obtain ⟨b, h1, h2, h3⟩ := hp
  exact ⟨b, h1, h2, Blk_same h3 h⟩
theorem PoBox.new (m : Nat) (w : World) (h : m ≤ w.heap.size) : PoBox m (.pointer (some ⟨w.heap.size, 0, none⟩)) (w.alloc (.cells #[.slice none 0 0, .int .i64 0] 95)) () := ⟨_, rfl, h, Blk.new w _ rfl⟩
/-- The box of a piece, set. -/
theorem box_set {w w9 : World} {n0 b : Nat} {pv : Value} {X : List In × Int} (hq : Blk w9 (fun _ => 0) 0 b (.cells #[.slice none 0 0, .int .i64 0] 95 (0, 0))) (hB : Below w.heap.size w w9) (hb : w.heap.size ≤ b) (hn : n0 ≤ w.heap.size) (hr : RV w9 (fun g => g < n0) pv X.1) :
    Below w.heap.size w (putCells w9 b 0 [pv, .int .i64 X.2]) ∧ Blk (putCells w9 b 0 [pv, .int .i64 X.2]) (fun _ => 0) 0 b (.cells #[pv, .int .i64 X.2] 95 (0, 0)) ∧ RV (putCells w9 b 0 [pv, .int .i64 X.2]) (fun g => g < n0) pv X.1 :=
  ⟨below_put hB hb _, Blk.putCells (cs := [.slice none 0 0, .int .i64 0]) (vs := [pv, .int .i64 X.2]) hq rfl, hr.put hq (by decide) (by omega) _⟩
theorem Blk.put_oth {w : World} {b b' : Nat} {o : Obj} {own : Nat → Nat} {J : Nat} (h : Blk w own J b' o) (hb : b' ≠ b) (vs : List Value) : Blk (putCells w b 0 vs) own J b' o := Blk.putCells_other hb vs w 0 h
def AllRV (w : World) (C : Nat → Prop) : List Value → List (List In) → Prop
  | [], [] => True
  | v :: vs, p :: ps => RV w C v p ∧ AllRV w C vs ps
  | _, _ => False
theorem AllRV.get {w : World} {C : Nat → Prop} : ∀ {vs : List Value} {ps : List (List In)}, AllRV w C vs ps → ∀ j (h : j < ps.length), ∃ pv, vs[j]? = some pv ∧ RV w C pv ps[j]
  | [], [], _, j, hj => absurd hj (Nat.not_lt_zero j)
  | [], p :: ps, h, _, _ => h.elim
  | v :: vs, p :: ps, h, 0, _ => ⟨v, rfl, h.1⟩
  | v :: vs, p :: ps, h, j + 1, hj => AllRV.get h.2 j (Nat.lt_of_succ_lt_succ hj)
theorem pcs_new {w : World} {C : Nat → Prop} {vs : List Value} {ps : List (List In)} {n c : Nat} {T : TypeId} (h : AllRV w C vs ps) (hn : n = ps.length) : Pcs (w.alloc (.cells vs.toArray T (0, 0))) C (.slice (some ⟨w.heap.size, 0, none⟩) n c) ps := by
  subst hn
  have hb := Blk.new (own := fun _ => 0) (k := 0) w (.cells vs.toArray T (0, 0)) rfl
  refine ⟨w.heap.size, c, rfl, hb.lt, fun j hj => ?_⟩
  obtain ⟨pv, h1, h2⟩ := h.get j hj
  exact ⟨pv, by rw [hb.cell]; simpa using h1, h2.below ((Below.refl _ _).alloc (Nat.le_refl _) _)⟩
/-- Body does as bd says, on terms so deep. -/
def RBodyOk (n : Nat) : Prop := ∀ (t : Tm) (n0 : Nat) (w : World) (k : Int) (s : ByteArray) (x : Int) (a : Option Addr) (l c : Nat) (cop ca free : Int), n0 ≤ w.heap.size → TmV w (fun g => g < n0) t (.agg #[.int .i64 k, .string s, .int .i64 x, .slice a l c]) → 0 ≤ free → free + 4 * Tm.sz t ≤ 1000000 → 12 * (Tm.sz t : Int) ≤ 1000000 → Tm.dp t ≤ n →
  Calls Try.prog 48 #[.agg #[.int .i64 k, .string s, .int .i64 x, .slice a l c], .agg #[.int .i64 cop, .int .i64 ca, .int .i64 0, .string noStr, .int .i64 0, .slice none 0 0], .int .i64 free] w (PcRet n0 w (bd n t (In0 cop ca) free))
set_option maxHeartbeats 8000000 in
theorem reither_any (n : Nat) (ih : RBodyOk n) (tc tt te : Tm) (n0 : Nat) (w : World) (kc : Int) (sc : ByteArray) (xc : Int) (ac : Option Addr) (lc cc : Nat) (kt : Int) (st : ByteArray) (xt : Int) (at_ : Option Addr) (lt ct : Nat) (ke : Int) (se : ByteArray) (xe : Int) (ae : Option Addr) (le ce : Nat) (cop ca free : Int) (hn0 : n0 ≤ w.heap.size)
    (hvc : TmV w (fun g => g < n0) tc (.agg #[.int .i64 kc, .string sc, .int .i64 xc, .slice ac lc cc])) (hvt : TmV w (fun g => g < n0) tt (.agg #[.int .i64 kt, .string st, .int .i64 xt, .slice at_ lt ct])) (hve : TmV w (fun g => g < n0) te (.agg #[.int .i64 ke, .string se, .int .i64 xe, .slice ae le ce])) (hf0 : 0 ≤ free) (hf1 : free + 2 + 4 * Tm.sz tc ≤ 1000000) (hf2 : free + 2 + 2 * Tm.sz tc + 4 * Tm.sz tt ≤ 1000000) (hf3 : free + 2 + 2 * Tm.sz tc + 2 * Tm.sz tt + 4 * Tm.sz te ≤ 1000000) (hsz : 6 * (Tm.sz tc : Int) + 6 * Tm.sz tt + 6 * Tm.sz te + 10 ≤ 1000000) (hz1 : 12 * (Tm.sz tc : Int) ≤ 1000000) (hz2 : 12 * (Tm.sz tt : Int) ≤ 1000000) (hz3 : 12 * (Tm.sz te : Int) ≤ 1000000) (hdc : Tm.dp tc ≤ n) (hdt : Tm.dp tt ≤ n) (hde : Tm.dp te ≤ n)
    (X Y Z : List In × Int) (hX : bd n tc (In0 7 (free + 1)) (free + 2) = X) (hY : bd n tt (In0 cop ca) X.2 = Y) (hZ : bd n te (In0 cop ca) Y.2 = Z) :
    Calls Try.prog 63 #[.agg #[.int .i64 kc, .string sc, .int .i64 xc, .slice ac lc cc], .agg #[.int .i64 kt, .string st, .int .i64 xt, .slice at_ lt ct], .agg #[.int .i64 ke, .string se, .int .i64 xe, .slice ae le ce], .agg #[.int .i64 cop, .int .i64 ca, .int .i64 0, .string noStr, .int .i64 0, .slice none 0 0], .int .i64 free] w (PcRet n0 w (eitherP X.1 Y.1 Z.1 free, Z.2)) := by
  obtain ⟨hb0, hb1, hb2, hB0, hz0⟩ := three_new w (.cells #[.int .i64 kc, .string sc, .int .i64 xc, .slice ac lc cc] 24) (.cells #[.int .i64 kt, .string st, .int .i64 xt, .slice at_ lt ct] 24) (.cells #[.int .i64 ke, .string se, .int .i64 xe, .slice ae le ce] 24)
  have hb3 := Blk.new (own := fun _ => 0) (k := 0) (((w.alloc (.cells #[.int .i64 kc, .string sc, .int .i64 xc, .slice ac lc cc] 24)).alloc (.cells #[.int .i64 kt, .string st, .int .i64 xt, .slice at_ lt ct] 24)).alloc (.cells #[.int .i64 ke, .string se, .int .i64 xe, .slice ae le ce] 24)) (.cells #[.int .i64 cop, .int .i64 ca, .int .i64 0, .string noStr, .int .i64 0, .slice none 0 0] 75) rfl
  have hb4 := Blk.new (own := fun _ => 0) (k := 0) ((((w.alloc (.cells #[.int .i64 kc, .string sc, .int .i64 xc, .slice ac lc cc] 24)).alloc (.cells #[.int .i64 kt, .string st, .int .i64 xt, .slice at_ lt ct] 24)).alloc (.cells #[.int .i64 ke, .string se, .int .i64 xe, .slice ae le ce] 24)).alloc (.cells #[.int .i64 cop, .int .i64 ca, .int .i64 0, .string noStr, .int .i64 0, .slice none 0 0] 75)) (.cells #[.slice none 0 0, .int .i64 0] 95) rfl
  rw [World.size_alloc, hz0] at hb4
  rw [hz0] at hb3
  have H1 := Lib.hid ((hb1.alloc (.cells #[.int .i64 cop, .int .i64 ca, .int .i64 0, .string noStr, .int .i64 0, .slice none 0 0] 75)).alloc (.cells #[.slice none 0 0, .int .i64 0] 95))
  have H2 := Lib.hid ((hb2.alloc (.cells #[.int .i64 cop, .int .i64 ca, .int .i64 0, .string noStr, .int .i64 0, .slice none 0 0] 75)).alloc (.cells #[.slice none 0 0, .int .i64 0] 95))
  have H3 := Lib.hid (hb3.alloc (.cells #[.slice none 0 0, .int .i64 0] 95))
  have H4 := Lib.hid hb4
  have hB1 := hB0.alloc hB0.size (.cells #[.int .i64 cop, .int .i64 ca, .int .i64 0, .string noStr, .int .i64 0, .slice none 0 0] 75)
  have HB := Lib.hid (hB1.alloc hB1.size (.cells #[.slice none 0 0, .int .i64 0] 95))
  have p1 := sz_pos tc
  have p2 := sz_pos tt
  have p3 := sz_pos te
  have HVC := Lib.hid (fun w2 (hB : Below w.heap.size w w2) => ih tc n0 w2 _ _ _ _ _ _ 7 (free + 1) (free + 2) (by have := hB.size; omega) (TmV.below hvc hB) (by omega) (by omega) (by omega) hdc)
  rw [hX] at HVC
  have bX := bd_le n tc (In0 7 (free + 1)) (free + 2)
  rw [hX] at bX
  obtain ⟨hX1, hX2, hX3⟩ := bX
  have bY := bd_le n tt (In0 cop ca) X.2
  rw [hY] at bY
  obtain ⟨hY1, hY2, hY3⟩ := bY
  have bZ := bd_le n te (In0 cop ca) Y.2
  rw [hZ] at bZ
  obtain ⟨hZ1, hZ2, hZ3⟩ := bZ
  have HVT := Lib.hid (fun w2 (hB : Below w.heap.size w w2) => ih tt n0 w2 _ _ _ _ _ _ cop ca X.2 (by have := hB.size; omega) (TmV.below hvt hB) (by omega) (by omega) (by omega) hdt)
  rw [hY] at HVT
  have HVE := Lib.hid (fun w2 (hB : Below w.heap.size w w2) => ih te n0 w2 _ _ _ _ _ _ cop ca Y.2 (by have := hB.size; omega) (TmV.below hve hB) (by omega) (by omega) (by omega) hde)
  rw [hZ] at HVE
  clear hb0 hb1 hb2 hb3 hb4 hB0 hB1 hz0 hvc hvt hve hX hY hZ
  go_enter Try.func63, Try.ntmps63
  go_wp2_with fail
  refine (HVC.out _ HB.out).mono ?_
  rintro e w1 ⟨pv1, rfl, hr, hB⟩
  have hB1 := HB.out.trans (hB.mono HB.out.size)
  have HB1 := Lib.hid (hB1.alloc hB1.size (.cells #[pv1, .int .i64 X.2] 95))
  have h1 := Blk_same H1.out hB
  have h2 := Blk_same H2.out hB
  have h3 := Blk_same H3.out hB
  have h4 := Blk_same H4.out hB
  have H11 := Lib.hid (h1.alloc (.cells #[pv1, .int .i64 X.2] 95))
  have H21 := Lib.hid (h2.alloc (.cells #[pv1, .int .i64 X.2] 95))
  have H31 := Lib.hid (h3.alloc (.cells #[pv1, .int .i64 X.2] 95))
  have H41 := Lib.hid (h4.alloc (.cells #[pv1, .int .i64 X.2] 95))
  have HXba := Lib.hid (Blk.new (own := fun _ => 0) (k := 0) w1 (.cells #[pv1, .int .i64 X.2] 95) rfl)
  have HRba := Lib.hid (hr.below ((Below.refl _ _).alloc (Nat.le_refl _) (.cells #[pv1, .int .i64 X.2] 95)))
  have z0 : w1.cell? ⟨w.heap.size + 1, 0, none⟩ = some (.int .i64 kt) := h1.cell 0
  have z1 : w1.cell? ⟨w.heap.size + 1, 1, none⟩ = some (.string st) := h1.cell 1
  have z2 : w1.cell? ⟨w.heap.size + 1, 2, none⟩ = some (.int .i64 xt) := h1.cell 2
  have z3 : w1.cell? ⟨w.heap.size + 1, 3, none⟩ = some (.slice at_ lt ct) := h1.cell 3
  have lz := h1.lt
  have y0 : w1.cell? ⟨w.heap.size + 1 + 1 + 1, 0, none⟩ = some (.int .i64 cop) := h3.cell 0
  have y1 : w1.cell? ⟨w.heap.size + 1 + 1 + 1, 1, none⟩ = some (.int .i64 ca) := h3.cell 1
  have y2 : w1.cell? ⟨w.heap.size + 1 + 1 + 1, 2, none⟩ = some (.int .i64 0) := h3.cell 2
  have y3 : w1.cell? ⟨w.heap.size + 1 + 1 + 1, 3, none⟩ = some (.string noStr) := h3.cell 3
  have y4 : w1.cell? ⟨w.heap.size + 1 + 1 + 1, 4, none⟩ = some (.int .i64 0) := h3.cell 4
  have y5 : w1.cell? ⟨w.heap.size + 1 + 1 + 1, 5, none⟩ = some (.slice none 0 0) := h3.cell 5
  have ly := h3.lt
  obtain ⟨paba, pcba, rfl⟩ := hr.shape
  clear h1 h2 h3 h4 hB1 hB hr H1 H2 H3 H4 HB HVC
  go_wp2_with fail
  generalize hba : w1.heap.size = ba at *
  clear hba
  refine (HVT.out _ HB1.out).mono ?_
  rintro e w2 ⟨pv2, rfl, hr, hB⟩
  have hB1 := HB1.out.trans (hB.mono HB1.out.size)
  have HB2 := Lib.hid (hB1.alloc hB1.size (.cells #[pv2, .int .i64 Y.2] 95))
  have h2 := Blk_same H21.out hB
  have h3 := Blk_same H31.out hB
  have h4 := Blk_same H41.out hB
  have H22 := Lib.hid (h2.alloc (.cells #[pv2, .int .i64 Y.2] 95))
  have H32 := Lib.hid (h3.alloc (.cells #[pv2, .int .i64 Y.2] 95))
  have H42 := Lib.hid (h4.alloc (.cells #[pv2, .int .i64 Y.2] 95))
  have HXba2 := Lib.hid ((Blk_same HXba.out hB).alloc (.cells #[pv2, .int .i64 Y.2] 95))
  have HRba2 := Lib.hid ((HRba.out.below hB).below ((Below.refl _ _).alloc (Nat.le_refl _) (.cells #[pv2, .int .i64 Y.2] 95)))
  have HXbb := Lib.hid (Blk.new (own := fun _ => 0) (k := 0) w2 (.cells #[pv2, .int .i64 Y.2] 95) rfl)
  have HRbb := Lib.hid (hr.below ((Below.refl _ _).alloc (Nat.le_refl _) (.cells #[pv2, .int .i64 Y.2] 95)))
  clear z0 z1 z2 z3 lz y0 y1 y2 y3 y4 y5 ly
  have z0 : w2.cell? ⟨w.heap.size + 1 + 1, 0, none⟩ = some (.int .i64 ke) := h2.cell 0
  have z1 : w2.cell? ⟨w.heap.size + 1 + 1, 1, none⟩ = some (.string se) := h2.cell 1
  have z2 : w2.cell? ⟨w.heap.size + 1 + 1, 2, none⟩ = some (.int .i64 xe) := h2.cell 2
  have z3 : w2.cell? ⟨w.heap.size + 1 + 1, 3, none⟩ = some (.slice ae le ce) := h2.cell 3
  have lz := h2.lt
  have y0 : w2.cell? ⟨w.heap.size + 1 + 1 + 1, 0, none⟩ = some (.int .i64 cop) := h3.cell 0
  have y1 : w2.cell? ⟨w.heap.size + 1 + 1 + 1, 1, none⟩ = some (.int .i64 ca) := h3.cell 1
  have y2 : w2.cell? ⟨w.heap.size + 1 + 1 + 1, 2, none⟩ = some (.int .i64 0) := h3.cell 2
  have y3 : w2.cell? ⟨w.heap.size + 1 + 1 + 1, 3, none⟩ = some (.string noStr) := h3.cell 3
  have y4 : w2.cell? ⟨w.heap.size + 1 + 1 + 1, 4, none⟩ = some (.int .i64 0) := h3.cell 4
  have y5 : w2.cell? ⟨w.heap.size + 1 + 1 + 1, 5, none⟩ = some (.slice none 0 0) := h3.cell 5
  have ly := h3.lt
  obtain ⟨pabb, pcbb, rfl⟩ := hr.shape
  clear h2 h3 h4 hB1 hB hr H11 H21 H31 H41 HB1 HVT HXba HRba
  have HXba := HXba2
  have HRba := HRba2
  clear HXba2 HRba2
  go_wp2_with fail
  generalize hbb : w2.heap.size = bb at *
  clear hbb
  refine (HVE.out _ HB2.out).mono ?_
  rintro e w3 ⟨pv3, rfl, hr, hB⟩
  have hB1 := HB2.out.trans (hB.mono HB2.out.size)
  have HB3 := Lib.hid (hB1.alloc hB1.size (.cells #[pv3, .int .i64 Z.2] 95))
  have HE := (Below.refl w3.heap.size w3).alloc (Nat.le_refl _) (.cells #[pv3, .int .i64 Z.2] 95)
  have H23 := Lib.hid ((Blk_same H42.out hB).alloc (.cells #[pv3, .int .i64 Z.2] 95))
  have HXba2 := Lib.hid ((Blk_same HXba.out hB).alloc (.cells #[pv3, .int .i64 Z.2] 95))
  have HRba2 := Lib.hid ((HRba.out.below hB).below HE)
  have HXbb2 := Lib.hid ((Blk_same HXbb.out hB).alloc (.cells #[pv3, .int .i64 Z.2] 95))
  have HRbb2 := Lib.hid ((HRbb.out.below hB).below HE)
  have HXbc := Lib.hid (Blk.new (own := fun _ => 0) (k := 0) w3 (.cells #[pv3, .int .i64 Z.2] 95) rfl)
  have HRbc := Lib.hid (hr.below HE)
  obtain ⟨pabc, pcbc, rfl⟩ := hr.shape
  clear z0 z1 z2 z3 lz y0 y1 y2 y3 y4 y5 ly hB1 HE hB hr H22 H32 H42 HB2 HVE HXba HRba HXbb HRbb
  have HXba := HXba2
  have HRba := HRba2
  have HXbb := HXbb2
  have HRbb := HRbb2
  clear HXba2 HRba2 HXbb2 HRbb2
  go_wp2_with fail
  generalize w3.heap.size = bc at *
  generalize (w3.alloc (.cells #[.slice pabc Z.1.length pcbc, .int .i64 Z.2] 95)) = w6 at *
  have HB6 := HB3
  have H26 := H23
  clear HB3 H23
  have HF : Hid (FactsB [(⟨ba, 0, none⟩, .slice paba X.1.length pcba), (⟨bb, 0, none⟩, .slice pabb Y.1.length pcbb), (⟨bc, 0, none⟩, .slice pabc Z.1.length pcbc), (⟨bc, 1, none⟩, .int .i64 Z.2)] w6.drew) := Lib.hid ⟨⟨HXba.out.cell 0, HXba.out.lt⟩, ⟨HXbb.out.cell 0, HXbb.out.lt⟩, ⟨HXbc.out.cell 0, HXbc.out.lt⟩, ⟨HXbc.out.cell 1, HXbc.out.lt⟩, trivial⟩
  go_wp2_with fail
  refine wp_region_plan5 [.early 0 [1, 10, 13, 17, 24, 27, 28, 31, 32], .early 2 [3, 4, 8, 9, 10, 13, 17, 24, 27, 28, 31, 32], .early 3 [4, 8, 9, 10, 13, 17, 24, 27, 28, 31, 32], .early 4 [8, 9, 10, 13, 17, 24, 27, 28, 31, 32], .early 5 [6, 7, 8, 9, 10, 13, 17, 24, 27, 28, 31, 32], .early 6 [7, 8, 9, 10, 13, 17, 24, 27, 28, 31, 32], .early 7 [8, 9, 10, 13, 17, 24, 27, 28, 31, 32], .early 8 [9, 10, 13, 17, 24, 27, 28, 31, 32], .early 9 [10, 13, 17, 24, 27, 28, 31, 32], .early 11 [12, 13, 17, 24, 27, 28, 31, 32], .early 12 [13, 17, 24, 27, 28, 31, 32], .early 14 [15, 27, 28, 31, 32], .early 15 [27, 28, 31, 32], .early 16 [17, 24, 27, 28, 31, 32], .early 18 [19, 27, 28, 31, 32], .early 19 [27, 28, 31, 32], .early 20 [21, 22, 23, 24, 27, 28, 31, 32], .early 21 [22, 23, 24, 27, 28, 31, 32], .early 22 [23, 24, 27, 28, 31, 32], .early 23 [24, 27, 28, 31, 32], .early 25 [26, 27, 28, 31, 32], .early 26 [27, 28, 31, 32], .early 29 [30, 31, 32], .early 30 [31, 32], .big 1, .big 10, .big 13, .big 17, .big 24, .big 27, .big 28, .early 31 [32], .big 32] 32 (Facts _) (by kernel_rfl) (by kernel_rfl) (fun _ _ _ d _ h => by cases d <;> exact h) (FactsB.facts HF.out) ?_
  have HBD := Lib.hid HB6.out.drew
  have H2D := Lib.hid H26.out.drew
  have HRDba := Lib.hid ((HRba.out).carry (w' := w6.drew) (Nat.le_refl _) (fun _ _ _ => rfl) fun _ _ hc => ⟨rfl, hc⟩)
  have HRDbb := Lib.hid ((HRbb.out).carry (w' := w6.drew) (Nat.le_refl _) (fun _ _ _ => rfl) fun _ _ hc => ⟨rfl, hc⟩)
  have HRDbc := Lib.hid ((HRbc.out).carry (w' := w6.drew) (Nat.le_refl _) (fun _ _ _ => rfl) fun _ _ hc => ⟨rfl, hc⟩)
  clear H26 HB6 HRba HXba HRbb HXbb HRbc HXbc
  generalize w6.drew = wd0 at *
  iterate 24
    apply plan5_early
    case hi => rfl
    case h =>
      intro w9 hf
      simp only [Facts] at hf
      obtain ⟨z0, z1, z2, z3, _⟩ := hf
      still_step
      exact wpStill_nil rfl
  refine plan5_big rfl ?_
  go_wp2_with fail
  refine (one_any (fun g => g < n0) 6 (free) _).mono ?_
  rintro e wd1 ⟨vo0, rfl, hr, hB⟩
  have HRo0 := Lib.hid hr
  have HF' := Lib.hid (FactsB.below hB HF.out)
  have HB' := Lib.hid (HBD.out.trans (hB.mono HBD.out.size))
  have H2' := Lib.hid (Blk_same H2D.out hB)
  have HRDba' := Lib.hid (HRDba.out.below hB)
  have HRDbb' := Lib.hid (HRDbb.out.below hB)
  have HRDbc' := Lib.hid (HRDbc.out.below hB)
  obtain ⟨ao0, co0, rfl⟩ := hr.shape
  clear hr hB HF HBD H2D HRDba HRDbb HRDbc
  have HF := HF'
  have HBD := HB'
  have H2D := H2'
  have HRDba := HRDba'
  have HRDbb := HRDbb'
  have HRDbc := HRDbc'
  clear HF' HB' H2' HRDba' HRDbb' HRDbc'
  go_wp2_with fail
  refine ⟨fun _ => FactsB.facts HF.out, ?_⟩
  refine plan5_big rfl ?_
  go_wp2_with fail
  refine (one_any (fun g => g < n0) 4 ((X.1.length : Int) + Y.1.length + 4) _).mono ?_
  rintro e wd2 ⟨vo1, rfl, hr, hB⟩
  have HRo1 := Lib.hid hr
  have HF' := Lib.hid (FactsB.below hB HF.out)
  have HB' := Lib.hid (HBD.out.trans (hB.mono HBD.out.size))
  have H2' := Lib.hid (Blk_same H2D.out hB)
  have HRDba' := Lib.hid (HRDba.out.below hB)
  have HRDbb' := Lib.hid (HRDbb.out.below hB)
  have HRDbc' := Lib.hid (HRDbc.out.below hB)
  have HRo0' := Lib.hid (HRo0.out.below hB)
  obtain ⟨ao1, co1, rfl⟩ := hr.shape
  clear hr hB HF HBD H2D HRDba HRDbb HRDbc HRo0
  have HF := HF'
  have HBD := HB'
  have H2D := H2'
  have HRDba := HRDba'
  have HRDbb := HRDbb'
  have HRDbc := HRDbc'
  have HRo0 := HRo0'
  clear HF' HB' H2' HRDba' HRDbb' HRDbc' HRo0'
  go_wp2_with fail
  refine ⟨fun _ => FactsB.facts HF.out, ?_⟩
  refine plan5_big rfl ?_
  go_wp2_with fail
  refine (one_any (fun g => g < n0) 6 (free + 1) _).mono ?_
  rintro e wd3 ⟨vo2, rfl, hr, hB⟩
  have HRo2 := Lib.hid hr
  have HF' := Lib.hid (FactsB.below hB HF.out)
  have HB' := Lib.hid (HBD.out.trans (hB.mono HBD.out.size))
  have H2' := Lib.hid (Blk_same H2D.out hB)
  have HRDba' := Lib.hid (HRDba.out.below hB)
  have HRDbb' := Lib.hid (HRDbb.out.below hB)
  have HRDbc' := Lib.hid (HRDbc.out.below hB)
  have HRo0' := Lib.hid (HRo0.out.below hB)
  have HRo1' := Lib.hid (HRo1.out.below hB)
  obtain ⟨ao2, co2, rfl⟩ := hr.shape
  clear hr hB HF HBD H2D HRDba HRDbb HRDbc HRo0 HRo1
  have HF := HF'
  have HBD := HB'
  have H2D := H2'
  have HRDba := HRDba'
  have HRDbb := HRDbb'
  have HRDbc := HRDbc'
  have HRo0 := HRo0'
  have HRo1 := HRo1'
  clear HF' HB' H2' HRDba' HRDbb' HRDbc' HRo0' HRo1'
  go_wp2_with fail
  refine ⟨fun _ => FactsB.facts HF.out, ?_⟩
  refine plan5_big rfl ?_
  go_wp2_with fail
  refine (one_any (fun g => g < n0) 7 (free) _).mono ?_
  rintro e wd4 ⟨vo3, rfl, hr, hB⟩
  have HRo3 := Lib.hid hr
  have HF' := Lib.hid (FactsB.below hB HF.out)
  have HB' := Lib.hid (HBD.out.trans (hB.mono HBD.out.size))
  have H2' := Lib.hid (Blk_same H2D.out hB)
  have HRDba' := Lib.hid (HRDba.out.below hB)
  have HRDbb' := Lib.hid (HRDbb.out.below hB)
  have HRDbc' := Lib.hid (HRDbc.out.below hB)
  have HRo0' := Lib.hid (HRo0.out.below hB)
  have HRo1' := Lib.hid (HRo1.out.below hB)
  have HRo2' := Lib.hid (HRo2.out.below hB)
  obtain ⟨ao3, co3, rfl⟩ := hr.shape
  clear hr hB HF HBD H2D HRDba HRDbb HRDbc HRo0 HRo1 HRo2
  have HF := HF'
  have HBD := HB'
  have H2D := H2'
  have HRDba := HRDba'
  have HRDbb := HRDbb'
  have HRDbc := HRDbc'
  have HRo0 := HRo0'
  have HRo1 := HRo1'
  have HRo2 := HRo2'
  clear HF' HB' H2' HRDba' HRDbb' HRDbc' HRo0' HRo1' HRo2'
  go_wp2_with fail
  refine ⟨fun _ => FactsB.facts HF.out, ?_⟩
  refine plan5_big rfl ?_
  go_wp2_with fail
  refine (one_any (fun g => g < n0) 5 ((Z.1.length : Int) + 1) _).mono ?_
  rintro e wd5 ⟨vo4, rfl, hr, hB⟩
  have HRo4 := Lib.hid hr
  have HF' := Lib.hid (FactsB.below hB HF.out)
  have HB' := Lib.hid (HBD.out.trans (hB.mono HBD.out.size))
  have H2' := Lib.hid (Blk_same H2D.out hB)
  have HRDba' := Lib.hid (HRDba.out.below hB)
  have HRDbb' := Lib.hid (HRDbb.out.below hB)
  have HRDbc' := Lib.hid (HRDbc.out.below hB)
  have HRo0' := Lib.hid (HRo0.out.below hB)
  have HRo1' := Lib.hid (HRo1.out.below hB)
  have HRo2' := Lib.hid (HRo2.out.below hB)
  have HRo3' := Lib.hid (HRo3.out.below hB)
  obtain ⟨ao4, co4, rfl⟩ := hr.shape
  clear hr hB HF HBD H2D HRDba HRDbb HRDbc HRo0 HRo1 HRo2 HRo3
  have HF := HF'
  have HBD := HB'
  have H2D := H2'
  have HRDba := HRDba'
  have HRDbb := HRDbb'
  have HRDbc := HRDbc'
  have HRo0 := HRo0'
  have HRo1 := HRo1'
  have HRo2 := HRo2'
  have HRo3 := HRo3'
  clear HF' HB' H2' HRDba' HRDbb' HRDbc' HRo0' HRo1' HRo2' HRo3'
  go_wp2_with fail
  refine ⟨fun _ => FactsB.facts HF.out, ?_⟩
  have HPC := Lib.hid (pcs_new (n := 8) (c := 8) (T := 36) (vs := [.slice ao0 [In0 6 (free)].length co0, .slice ao1 [In0 4 ((X.1.length : Int) + Y.1.length + 4)].length co1, .slice ao2 [In0 6 (free + 1)].length co2, .slice paba X.1.length pcba, .slice ao3 [In0 7 (free)].length co3, .slice pabb Y.1.length pcbb, .slice ao4 [In0 5 ((Z.1.length : Int) + 1)].length co4, .slice pabc Z.1.length pcbc]) (ps := [[In0 6 (free)], [In0 4 ((X.1.length : Int) + Y.1.length + 4)], [In0 6 (free + 1)], X.1, [In0 7 (free)], Y.1, [In0 5 ((Z.1.length : Int) + 1)], Z.1]) ⟨HRo0.out, HRo1.out, HRo2.out, HRDba.out, HRo3.out, HRDbb.out, HRo4.out, HRDbc.out, trivial⟩ rfl)
  have hfl : [[In0 6 (free)], [In0 4 ((X.1.length : Int) + Y.1.length + 4)], [In0 6 (free + 1)], X.1, [In0 7 (free)], Y.1, [In0 5 ((Z.1.length : Int) + 1)], Z.1].flatten = eitherP X.1 Y.1 Z.1 free := by simp [eitherP]
  have hlenf : [[In0 6 (free)], [In0 4 ((X.1.length : Int) + Y.1.length + 4)], [In0 6 (free + 1)], X.1, [In0 7 (free)], Y.1, [In0 5 ((Z.1.length : Int) + 1)], Z.1].flatten.length ≤ 1000000 := by rw [hfl]; simp only [eitherP, List.length_append, List.length_cons, List.length_nil]; omega
  refine plan5_big rfl ?_
  go_wp2_with fail
  have hBq : Below wd5.heap.size wd5 (wd5.alloc (.cells #[.slice ao0 [In0 6 (free)].length co0, .slice ao1 [In0 4 ((X.1.length : Int) + Y.1.length + 4)].length co1, .slice ao2 [In0 6 (free + 1)].length co2, .slice paba X.1.length pcba, .slice ao3 [In0 7 (free)].length co3, .slice pabb Y.1.length pcbb, .slice ao4 [In0 5 ((Z.1.length : Int) + 1)].length co4, .slice pabc Z.1.length pcbc] 36)) := (Below.refl _ _).alloc (Nat.le_refl _) _
  have HF' := Lib.hid (FactsB.below hBq HF.out)
  have HB' := Lib.hid (HBD.out.trans (hBq.mono HBD.out.size))
  have H2' := Lib.hid (Blk_same H2D.out hBq)
  clear hBq HF HBD H2D
  refine ⟨fun _ => FactsB.facts HF'.out, ?_⟩
  refine plan5_big rfl ?_
  go_wp2_with fail
  refine (join_any [[In0 6 (free)], [In0 4 ((X.1.length : Int) + Y.1.length + 4)], [In0 6 (free + 1)], X.1, [In0 7 (free)], Y.1, [In0 5 ((Z.1.length : Int) + 1)], Z.1] _ _ _ HPC.out hlenf (by show 8 ≤ 1000; decide)).mono ?_
  rintro e wj ⟨vj, rfl, hrj, hB⟩
  rw [hfl] at hrj
  have HF := Lib.hid (FactsB.below hB HF'.out)
  have HRJ := Lib.hid hrj
  have HBJ := Lib.hid (HB'.out.trans (hB.mono HB'.out.size))
  have hb2 := Blk_same H2'.out hB
  have H2J := Lib.hid hb2
  obtain ⟨aj, lj, cj, rfl⟩ : ∃ aj lj cj, vj = Value.slice aj lj cj := by
    obtain ⟨a', c', h'⟩ := hrj.shape
    exact ⟨_, _, _, h'⟩
  have f0 := hb2.free 0
  have f1 := hb2.free 1
  have l2 := hb2.lt
  have d0 : wj.cell? ⟨w.heap.size + 1 + 1 + 1 + 1, 0, none⟩ = some (.slice none 0 0) := hb2.cell 0
  have d1 : wj.cell? ⟨w.heap.size + 1 + 1 + 1 + 1, 1, none⟩ = some (.int .i64 0) := hb2.cell 1
  clear hb2 hB hrj HF' HB' H2' HPC hfl hlenf
  go_wp2_with fail
  refine ⟨fun _ => FactsB.facts HF.out, ?_⟩
  iterate 1
    apply plan5_early
    case hi => rfl
    case h =>
      intro w9 hf
      simp only [Facts] at hf
      obtain ⟨z0, z1, z2, z3, _⟩ := hf
      still_step
      exact wpStill_nil rfl
  refine plan5_big rfl ?_
  go_wp2_with fail
  refine ⟨fun h => absurd rfl h, plan5_nil ?_⟩
  go_wp2_with fail
  have hend := Blk.putCells (cs := [.slice none 0 0, .int .i64 0]) (vs := [.slice aj lj cj, .int .i64 Z.2]) H2J.out rfl
  have hp := pc_end (f := Z.2) HRJ.out H2J.out HBJ.out (b := w.heap.size + 1 + 1 + 1 + 1) (by omega) hn0
  simp only [putCells, Nat.reduceAdd] at hend hp
  refine bodyPost_ret (results_cell_row rfl _ _ (w.heap.size + 1 + 1 + 1 + 1) 95 _ _ _ rfl hend.at_ Try.underlying95 rfl (by kernel_rfl)) rfl ?_
  exact hp
set_option maxHeartbeats 8000000 in
theorem rbody_atoms (n : Nat) (ih : RBodyOk n) (t : Tm) (n0 : Nat) (w : World) (k : Int) (s : ByteArray) (x : Int) (a : Option Addr) (l c : Nat) (cop ca free : Int) (hn0 : n0 ≤ w.heap.size) (hv : TmV w (fun g => g < n0) t (.agg #[.int .i64 k, .string s, .int .i64 x, .slice a l c])) (hf0 : 0 ≤ free) (hf1 : free + 4 * Tm.sz t ≤ 1000000) (hsz : 12 * (Tm.sz t : Int) ≤ 1000000) (hdp : Tm.dp t ≤ ((n + 1 : Nat) : Int)) (k3 : k = 3) :
    Calls Try.prog 48 #[.agg #[.int .i64 k, .string s, .int .i64 x, .slice a l c], .agg #[.int .i64 cop, .int .i64 ca, .int .i64 0, .string noStr, .int .i64 0, .slice none 0 0], .int .i64 free] w (PcRet n0 w (bd (n + 1) t (In0 cop ca) free)) := by
  obtain ⟨hb0, hb1, hb2, hB0, hz0⟩ := three_new w (.cells #[.int .i64 k, .string s, .int .i64 x, .slice a l c] 24) (.cells #[.int .i64 cop, .int .i64 ca, .int .i64 0, .string noStr, .int .i64 0, .slice none 0 0] 75) (.cells #[.slice none 0 0, .int .i64 0] 95)
  have H0 := Lib.hid hb0
  have H1 := Lib.hid hb1
  have H2 := Lib.hid hb2
  have HB0 := Lib.hid hB0
  have HZ0 := Lib.hid hz0
  have HV := Lib.hid (fun w2 (hB : Below w.heap.size w w2) => TmV.below hv hB)
  obtain ⟨ek, es, ex, -, -, -, hat⟩ := TmV_at hv
  obtain ⟨hl2, -⟩ := at_len hat
  have HL2 := Lib.hid hl2
  have HB := HB0
  clear hb0 hb1 hb2 hB0 hz0 hv hat hl2
  subst k3
  have hat1 : ∀ nm, Tm.atom t [nm] = decide (s = nm) := fun nm => by unfold Tm.atom; rw [← ek, ← es]; simp
  have hat2 : ∀ nm nm', Tm.atom t [nm, nm'] = (decide (s = nm) || decide (s = nm')) := fun nm nm' => by unfold Tm.atom; rw [← ek, ← es]; simp
  by_cases e1 : s = ⟨#[116, 114, 117, 101]⟩
  · have hbd : bd (n + 1) t (In0 cop ca) free = ([], free) := by
      rw [bd, if_pos (by rw [hat1, e1]; rfl)]
    rw [hbd]
    subst e1
    clear hbd ek es ex hat1 hat2
    go_enter Try.func48, Try.ntmps48
    go_wp2_with fail
    refine bodyPost_ret (results_cell_row rfl _ _ (w.heap.size + 1 + 1) 95 _ _ _ rfl (three_new w _ _ _).2.2.1.at_ Try.underlying95 rfl (by kernel_rfl)) rfl ?_
    exact ⟨_, rfl, RV.nil _ _, (three_new w _ _ _).2.2.2.1⟩
  have b1 : (s.toList == [116, 114, 117, 101]) = false := str_ne' #[116, 114, 117, 101] e1
  have g1 : ¬ Tm.atom t [sTrue] = true := by rw [hat1, decide_eq_true_iff]; exact e1
  by_cases e2 : s = ⟨#[102, 97, 105, 108]⟩ ∨ s = ⟨#[102, 97, 108, 115, 101]⟩
  · have hbd : bd (n + 1) t (In0 cop ca) free = ([In0 8 0], free) := by
      rw [bd, if_neg g1, if_pos]
      rw [hat2, Bool.or_eq_true, decide_eq_true_iff, decide_eq_true_iff]
      exact e2
    rw [hbd]
    clear hbd ek es ex hat1 hat2 g1
    rcases e2 with e2 | e2
    all_goals
      subst e2
      go_enter Try.func48, Try.ntmps48
      go_wp2_with fail
      refine (one_any (fun g => g < n0) 8 0 _).mono ?_
      rintro e w4 ⟨v4, rfl, hr4, hB4⟩
      have HR4 := Lib.hid hr4
      obtain ⟨ra, rc, rfl⟩ := hr4.shape
      have hb2 := Blk_same H2.out hB4
      have H24 := Lib.hid hb2
      have HB4 := Lib.hid (HB0.out.trans (hB4.mono HB0.out.size))
      have f0 := hb2.free 0
      have f1 := hb2.free 1
      have l2 := hb2.lt
      have d0 : w4.cell? ⟨w.heap.size + 1 + 1, 0, none⟩ = some (.slice none 0 0) := hb2.cell 0
      have d1 : w4.cell? ⟨w.heap.size + 1 + 1, 1, none⟩ = some (.int .i64 0) := hb2.cell 1
      clear hr4 hB4 hb2
      go_wp2_with fail
      have hend := Blk.putCells (cs := [.slice none 0 0, .int .i64 0]) (vs := [.slice ra [In0 8 0].length rc, .int .i64 free]) H24.out rfl
      have hp := pc_end (f := free) HR4.out H24.out HB4.out (b := w.heap.size + 1 + 1) (by omega) hn0
      simp only [putCells, Nat.reduceAdd] at hend hp
      refine bodyPost_ret (results_cell_row rfl _ _ (w.heap.size + 1 + 1) 95 _ _ _ rfl hend.at_ Try.underlying95 rfl (by kernel_rfl)) rfl ?_
      exact hp
  have b2 : (s.toList == [102, 97, 105, 108]) = false := str_ne' #[102, 97, 105, 108] fun e => e2 (.inl e)
  have b3 : (s.toList == [102, 97, 108, 115, 101]) = false := str_ne' #[102, 97, 108, 115, 101] fun e => e2 (.inr e)
  have g2 : ¬ Tm.atom t [sFail, sFalse] = true := by rw [hat2, Bool.or_eq_true, decide_eq_true_iff, decide_eq_true_iff]; exact e2
  by_cases e3 : s = ⟨#[33]⟩
  · have hbd : bd (n + 1) t (In0 cop ca) free = ([In0 cop ca], free) := by
      rw [bd, if_neg g1, if_neg g2, if_pos]
      rw [hat1, decide_eq_true_iff]
      exact e3
    rw [hbd]
    subst e3
    clear hbd ek es ex hat1 hat2 g1 g2
    go_enter Try.func48, Try.ntmps48
    go_wp2_with fail
    have h3 := three_new w (.cells #[.int .i64 3, .string ⟨#[33]⟩, .int .i64 x, .slice a l c] 24) (.cells #[.int .i64 cop, .int .i64 ca, .int .i64 0, .string noStr, .int .i64 0, .slice none 0 0] 75) (.cells #[.slice (some ⟨w.heap.size + 1 + 1 + 1, 0, none⟩) 1 1, .int .i64 free] 95)
    have hnew := heap_alloc_new (((w.alloc (.cells #[.int .i64 3, .string ⟨#[33]⟩, .int .i64 x, .slice a l c] 24)).alloc (.cells #[.int .i64 cop, .int .i64 ca, .int .i64 0, .string noStr, .int .i64 0, .slice none 0 0] 75)).alloc (.cells #[.slice (some ⟨w.heap.size + 1 + 1 + 1, 0, none⟩) 1 1, .int .i64 free] 95)) (.cells #[.int .i64 cop, .int .i64 ca, .int .i64 0, .string noStr, .int .i64 0, .slice none 0 0] 75)
    rw [h3.2.2.2.2] at hnew
    refine bodyPost_ret (results_cell_row rfl _ _ (w.heap.size + 1 + 1) 95 _ _ _ rfl (h3.2.2.1.alloc _).at_ Try.underlying95 rfl (by kernel_rfl)) rfl ?_
    exact ⟨_, rfl, RV.one (i := In0 cop ca) hnew (zeroT_V _ _), h3.2.2.2.1.alloc h3.2.2.2.1.size _⟩
  have b4 : (s.toList == [33]) = false := str_ne' #[33] e3
  have g3 : ¬ Tm.atom t [sBang] = true := by rw [hat1, decide_eq_true_iff]; exact e3
  have hno : ∀ nm, Tm.two t nm = false := fun nm => by unfold Tm.two; rw [← ek]; rfl
  have hbd : bd (n + 1) t (In0 cop ca) free = ([⟨2, 0, t⟩], free) := by
    rw [bd, if_neg g1, if_neg g2, if_neg g3, if_neg (by rw [hno]; decide), if_neg (by unfold Tm.ite; rw [hno]; simp), if_neg (by rw [hno]; decide), if_neg (by rw [hno]; decide), if_neg (by unfold Tm.one1; rw [← ek]; simp)]
  rw [hbd]
  have h1 := hno sComma
  have h2 := hno sSemi
  have h3 := hno sArrow
  clear hbd ek es ex hat1 hat2 g1 g2 g3 e1 e2 e3 hno
  go_enter Try.func48, Try.ntmps48
  go_wp2_with fail
  have hq := rtwo_any t sComma _ _ _ (HV.out _ HB.out)
  rw [h1] at hq
  refine hq.mono ?_
  rintro e w4 ⟨rfl, hB⟩
  have HB4 := Lib.hid (HB.out.trans (hB.mono HB.out.size))
  have hb0 := Blk_same H0.out hB
  have hb1 := Blk_same H1.out hB
  have hb2 := Blk_same H2.out hB
  have H04 := Lib.hid hb0
  have H14 := Lib.hid hb1
  have H24 := Lib.hid hb2
  have z0 : w4.cell? ⟨w.heap.size, 0, none⟩ = some (.int .i64 3) := hb0.cell 0
  have z1 : w4.cell? ⟨w.heap.size, 1, none⟩ = some (.string s) := hb0.cell 1
  have z2 : w4.cell? ⟨w.heap.size, 2, none⟩ = some (.int .i64 x) := hb0.cell 2
  have z3 : w4.cell? ⟨w.heap.size, 3, none⟩ = some (.slice a l c) := hb0.cell 3
  have lz := hb0.lt
  clear hq hB hb0 hb1 hb2 H0 H1 H2 HB
  go_wp2_with fail
  have hq := rtwo_any t sSemi _ _ _ (HV.out _ HB4.out)
  rw [h2] at hq
  refine hq.mono ?_
  rintro e w5 ⟨rfl, hB⟩
  have HB5 := Lib.hid (HB4.out.trans (hB.mono HB4.out.size))
  have hb0 := Blk_same H04.out hB
  have hb1 := Blk_same H14.out hB
  have hb2 := Blk_same H24.out hB
  have H05 := Lib.hid hb0
  have H15 := Lib.hid hb1
  have H25 := Lib.hid hb2
  have z0 : w5.cell? ⟨w.heap.size, 0, none⟩ = some (.int .i64 3) := hb0.cell 0
  have z1 : w5.cell? ⟨w.heap.size, 1, none⟩ = some (.string s) := hb0.cell 1
  have z2 : w5.cell? ⟨w.heap.size, 2, none⟩ = some (.int .i64 x) := hb0.cell 2
  have z3 : w5.cell? ⟨w.heap.size, 3, none⟩ = some (.slice a l c) := hb0.cell 3
  have lz := hb0.lt
  clear hq hB hb0 hb1 hb2 H04 H14 H24 HB4
  go_wp2_with fail
  have hq := rtwo_any t sArrow _ _ _ (HV.out _ HB5.out)
  rw [h3] at hq
  refine hq.mono ?_
  rintro e w6 ⟨rfl, hB⟩
  have HB6 := Lib.hid (HB5.out.trans (hB.mono HB5.out.size))
  have hb0 := Blk_same H05.out hB
  have hb1 := Blk_same H15.out hB
  have hb2 := Blk_same H25.out hB
  have H06 := Lib.hid hb0
  have H16 := Lib.hid hb1
  have H26 := Lib.hid hb2
  have z0 : w6.cell? ⟨w.heap.size, 0, none⟩ = some (.int .i64 3) := hb0.cell 0
  have z1 : w6.cell? ⟨w.heap.size, 1, none⟩ = some (.string s) := hb0.cell 1
  have z2 : w6.cell? ⟨w.heap.size, 2, none⟩ = some (.int .i64 x) := hb0.cell 2
  have z3 : w6.cell? ⟨w.heap.size, 3, none⟩ = some (.slice a l c) := hb0.cell 3
  have lz := hb0.lt
  clear hq hB hb0 hb1 hb2 H05 H15 H25 HB5
  go_wp2_with fail
  have hq := rtwo_any t sSemi _ _ _ (HV.out _ HB6.out)
  rw [h2] at hq
  refine hq.mono ?_
  rintro e w7 ⟨rfl, hB⟩
  have HB7 := Lib.hid (HB6.out.trans (hB.mono HB6.out.size))
  have hb0 := Blk_same H06.out hB
  have hb1 := Blk_same H16.out hB
  have hb2 := Blk_same H26.out hB
  have H07 := Lib.hid hb0
  have H17 := Lib.hid hb1
  have H27 := Lib.hid hb2
  have z0 : w7.cell? ⟨w.heap.size, 0, none⟩ = some (.int .i64 3) := hb0.cell 0
  have z1 : w7.cell? ⟨w.heap.size, 1, none⟩ = some (.string s) := hb0.cell 1
  have z2 : w7.cell? ⟨w.heap.size, 2, none⟩ = some (.int .i64 x) := hb0.cell 2
  have z3 : w7.cell? ⟨w.heap.size, 3, none⟩ = some (.slice a l c) := hb0.cell 3
  have lz := hb0.lt
  clear hq hB hb0 hb1 hb2 H06 H16 H26 HB6
  have hb2 := H27.out
  have f0 := hb2.free 0
  have f1 := hb2.free 1
  have l2 := hb2.lt
  have d0 : w7.cell? ⟨w.heap.size + 1 + 1, 0, none⟩ = some (.slice none 0 0) := hb2.cell 0
  have d1 : w7.cell? ⟨w.heap.size + 1 + 1, 1, none⟩ = some (.int .i64 0) := hb2.cell 1
  clear hb2
  go_wp2_with fail
  have hend := (Blk.putCells (cs := [.slice none 0 0, .int .i64 0]) (vs := [.slice (some ⟨w7.heap.size, 0, none⟩) 1 1, .int .i64 free]) H27.out rfl).alloc (.cells #[.int .i64 2, .int .i64 0, .int .i64 3, .string s, .int .i64 x, .slice a l c] 75)
  have hbel := below_put HB7.out (b := w.heap.size + 1 + 1) (by omega) [.slice (some ⟨w7.heap.size, 0, none⟩) 1 1, .int .i64 free]
  have hnew := heap_alloc_new (putCells w7 (w.heap.size + 1 + 1) 0 [.slice (some ⟨w7.heap.size, 0, none⟩) 1 1, .int .i64 free]) (.cells #[.int .i64 2, .int .i64 0, .int .i64 3, .string s, .int .i64 x, .slice a l c] 75)
  rw [put_size] at hnew
  have hbel2 := hbel.alloc hbel.size (.cells #[.int .i64 2, .int .i64 0, .int .i64 3, .string s, .int .i64 x, .slice a l c] 75)
  have hrv := RV.one (i := ⟨2, 0, t⟩) (c := 1) hnew (HV.out _ hbel2)
  simp only [putCells, Nat.reduceAdd] at hend hbel2 hrv
  refine bodyPost_ret (results_cell_row rfl _ _ (w.heap.size + 1 + 1) 95 _ _ _ rfl hend.at_ Try.underlying95 rfl (by kernel_rfl)) rfl ?_
  exact ⟨_, rfl, hrv, hbel2⟩
set_option maxHeartbeats 8000000 in
theorem rbody_comma (n : Nat) (ih : RBodyOk n) (t : Tm) (n0 : Nat) (w : World) (k : Int) (s : ByteArray) (x : Int) (a : Option Addr) (l c : Nat) (cop ca free : Int) (hn0 : n0 ≤ w.heap.size) (hv : TmV w (fun g => g < n0) t (.agg #[.int .i64 k, .string s, .int .i64 x, .slice a l c])) (hf0 : 0 ≤ free) (hf1 : free + 4 * Tm.sz t ≤ 1000000) (hsz : 12 * (Tm.sz t : Int) ≤ 1000000) (hdp : Tm.dp t ≤ ((n + 1 : Nat) : Int)) (k3 : k ≠ 3) (hc : Tm.two t sComma = true) :
    Calls Try.prog 48 #[.agg #[.int .i64 k, .string s, .int .i64 x, .slice a l c], .agg #[.int .i64 cop, .int .i64 ca, .int .i64 0, .string noStr, .int .i64 0, .slice none 0 0], .int .i64 free] w (PcRet n0 w (bd (n + 1) t (In0 cop ca) free)) := by
  obtain ⟨hb0, hb1, hb2, hB0, hz0⟩ := three_new w (.cells #[.int .i64 k, .string s, .int .i64 x, .slice a l c] 24) (.cells #[.int .i64 cop, .int .i64 ca, .int .i64 0, .string noStr, .int .i64 0, .slice none 0 0] 75) (.cells #[.slice none 0 0, .int .i64 0] 95)
  have H0 := Lib.hid hb0
  have H1 := Lib.hid hb1
  have H2 := Lib.hid hb2
  have HB0 := Lib.hid hB0
  have HZ0 := Lib.hid hz0
  have HV := Lib.hid (fun w2 (hB : Below w.heap.size w w2) => TmV.below hv hB)
  obtain ⟨ek, es, ex, -, -, -, hat⟩ := TmV_at hv
  obtain ⟨hl2, -⟩ := at_len hat
  have HL2 := Lib.hid hl2
  have HB := HB0
  clear hb0 hb1 hb2 hB0 hz0 hv hat hl2
  have hb3 : (k == 3) = false := by simp [k3]
  have hna : ∀ ns, ¬ Tm.atom t ns = true := fun ns => by unfold Tm.atom; rw [← ek]; simp [k3]
  obtain ⟨hk4, hlen, hszz⟩ := two_sz hc
  have hd0 := arg_dp hk4 (i := 0) (by omega)
  have hd1 := arg_dp hk4 (i := 1) (by omega)
  have hbd : bd (n + 1) t (In0 cop ca) free = ((bd n (targ t 0) (In0 cop ca) free).1 ++ (bd n (targ t 1) (In0 cop ca) (bd n (targ t 0) (In0 cop ca) free).2).1, (bd n (targ t 1) (In0 cop ca) (bd n (targ t 0) (In0 cop ca) free).2).2) := by
    rw [bd, if_neg (hna _), if_neg (hna _), if_neg (hna _), if_pos hc]
  rw [hbd]
  obtain rfl : l = 2 := by rw [HL2.out]; exact hlen
  obtain ⟨gt, off, rfl, hgt0, hargs⟩ := args_all (HV.out _ (Below.refl _ _)) (by omega)
  obtain ⟨a0, l0, c0, hA0⟩ := hargs 0 (by omega)
  obtain ⟨a1, l1, c1, hA1⟩ := hargs 1 (by omega)
  simp only [Nat.zero_mul, Nat.one_mul, Nat.add_zero] at hA0 hA1
  have HA0 := Lib.hid hA0
  have HA1 := Lib.hid hA1
  have hX := bd_le n (targ t 0) (In0 cop ca) free
  have hY := bd_le n (targ t 1) (In0 cop ca) (bd n (targ t 0) (In0 cop ca) free).2
  clear hbd hargs hA0 hA1 hna ek es ex
  generalize targ t 0 = t0 at *
  generalize targ t 1 = t1 at *
  generalize hXX : bd n t0 (In0 cop ca) free = X at *
  generalize hYY : bd n t1 (In0 cop ca) X.2 = Y at *
  have EX := Lib.hid hXX
  have EY := Lib.hid hYY
  obtain ⟨hX1, hX2, hX3⟩ := hX
  obtain ⟨hY1, hY2, hY3⟩ := hY
  have p0 := sz_pos t0
  have p1 := sz_pos t1
  clear hXX hYY
  have h1 := hc
  clear hc
  go_enter Try.func48, Try.ntmps48
  go_wp2_with fail
  have hq := rtwo_any t sComma _ _ _ (HV.out _ HB.out)
  rw [h1] at hq
  refine hq.mono ?_
  rintro e w4 ⟨rfl, hB⟩
  have HB4 := Lib.hid (HB.out.trans (hB.mono HB.out.size))
  have hb0 := Blk_same H0.out hB
  have hb1 := Blk_same H1.out hB
  have hb2 := Blk_same H2.out hB
  have H04 := Lib.hid hb0
  have H14 := Lib.hid hb1
  have H24 := Lib.hid hb2
  have z0 : w4.cell? ⟨w.heap.size, 0, none⟩ = some (.int .i64 k) := hb0.cell 0
  have z1 : w4.cell? ⟨w.heap.size, 1, none⟩ = some (.string s) := hb0.cell 1
  have z2 : w4.cell? ⟨w.heap.size, 2, none⟩ = some (.int .i64 x) := hb0.cell 2
  have z3 : w4.cell? ⟨w.heap.size, 3, none⟩ = some (.slice (some ⟨gt, off, none⟩) 2 c) := hb0.cell 3
  have lz := hb0.lt
  clear hq hB hb0 hb1 hb2 H0 H1 H2 HB
  clear h1
  have hb0 := H04.out
  have hb1 := H14.out
  have hgt : gt < w4.heap.size := by have := HB4.out.size; omega
  obtain ⟨x0, x1, x2, x3, ht⟩ := HA0.out _ HB4.out
  have HF : Hid (FactsB [(⟨w.heap.size, 3, none⟩, .slice (some ⟨gt, off, none⟩) 2 c), (⟨gt, off, none⟩, .int .i64 (Tm.k t0)), (⟨gt, off + 1, none⟩, .string (Tm.s t0)), (⟨gt, off + 2, none⟩, .int .i64 (Tm.x t0)), (⟨gt, off + 3, none⟩, .slice a0 l0 c0), (⟨w.heap.size + 1, 0, none⟩, .int .i64 cop), (⟨w.heap.size + 1, 1, none⟩, .int .i64 ca), (⟨w.heap.size + 1, 2, none⟩, .int .i64 0), (⟨w.heap.size + 1, 3, none⟩, .string noStr), (⟨w.heap.size + 1, 4, none⟩, .int .i64 0), (⟨w.heap.size + 1, 5, none⟩, .slice none 0 0)] w4.drew) := Lib.hid ⟨⟨hb0.cell 3, hb0.lt⟩, ⟨x0, hgt⟩, ⟨x1, hgt⟩, ⟨x2, hgt⟩, ⟨x3, hgt⟩, ⟨hb1.cell 0, hb1.lt⟩, ⟨hb1.cell 1, hb1.lt⟩, ⟨hb1.cell 2, hb1.lt⟩, ⟨hb1.cell 3, hb1.lt⟩, ⟨hb1.cell 4, hb1.lt⟩, ⟨hb1.cell 5, hb1.lt⟩, trivial⟩
  have HT := Lib.hid (fun w9 (hB : Below w4.drew.heap.size w4.drew w9) => (ih t0 n0 w9 _ _ _ _ _ _ cop ca free (by have h1 := hB.size; have h2 := HB4.out.size; have h3 : w4.drew.heap.size = w4.heap.size := rfl; omega) (TmV.below (w := w4.drew) (ht.carry (w' := w4.drew) (Nat.le_refl _) fun g hg hc => ⟨rfl, hc⟩) hB) hf0 (by omega) (by omega) (by omega)))
  rw [EX.out] at HT
  clear hb0 hb1 hgt x0 x1 x2 x3 ht z0 z1 z2 z3 lz
  go_wp2_with fail
  refine wp_region_plan5 [.early 0 [1, 2, 3, 6, 8], .early 1 [2, 3, 6, 8], .early 2 [3, 6, 8], .early 3 [6, 8], .early 4 [6, 8], .early 5 [6, 8], .block [6, 7], .big 8] 8 (Facts _) (by kernel_rfl) (by kernel_rfl) (fun _ _ _ d _ h => by cases d <;> exact h) (FactsB.facts HF.out) ?_
  have HBD := Lib.hid HB4.out.drew
  have H0D := Lib.hid H04.out.drew
  have H1D := Lib.hid H14.out.drew
  have H2D := Lib.hid H24.out.drew
  clear H04 H14 H24 HB4
  generalize w4.drew = wd at *
  iterate 6
    apply plan5_early
    case hi => rfl
    case h =>
      intro w9 hf
      simp only [Facts] at hf
      obtain ⟨z0, z1, z2, z3, z4, z5, z6, z7, z8, z9, z10, _⟩ := hf
      still_step
      exact wpStill_nil rfl
  refine plan5_new [(6, PoPiece n0 X), (7, PoBox wd.heap.size)] rfl (fun w9 hB => FactsB.facts (FactsB.below hB HF.out)) ⟨PoPiece.stable n0 X, PoBox.stable _, trivial⟩ ?_ ?_
  · refine obl_cons [] rfl (by kernel_rfl) (fun vs w9 _ hR hP => ?_) (obl_cons [] rfl (by kernel_rfl) (fun vs w9 _ hR hP => ?_) obl_nil)
    · simp only [putD]
      go_wp2_with fail
      refine (HT.out w9 hR).mono ?_
      rintro e w10 ⟨pv, rfl, hr, hB⟩
      go_wp2_with fail
      exact ⟨_, rfl, (), hB, pv, rfl, hr⟩
    · simp only [putD]
      go_wp2_with fail
      exact ⟨_, rfl, (), (Below.refl _ _).alloc (Nat.le_refl _) _, PoBox.new _ w9 (Below.size hR)⟩
  intro vs w9 hB hP
  obtain ⟨⟨pvba, hv1, hr1⟩, ⟨ba, hv2, hbm, hb⟩, _⟩ := hP
  refine plan5_after [(6, 58), (7, 7)] [] (by kernel_rfl) ?_
  simp only [putD, hv1, hv2]
  clear hv1 hv2
  have hwd := HBD.out.size
  have hB9 := HBD.out.trans (hB.mono HBD.out.size)
  obtain ⟨k1, k2, k3⟩ := box_set (w := w) (X := X) hb hB9 (by omega) hn0 hr1
  have hb0 := (Blk_same H0D.out hB)
  have hb1 := (Blk_same H1D.out hB)
  have hb2 := (Blk_same H2D.out hB)
  have hl0 := H0D.out.lt
  have hl1 := H1D.out.lt
  have hl2 := H2D.out.lt
  have HB5 := Lib.hid k1
  have HXba := Lib.hid k2
  have HRba := Lib.hid k3
  have H05 := Lib.hid (Blk.put_oth hb0 (b := ba) (by omega) [pvba, .int .i64 X.2])
  have H15 := Lib.hid (Blk.put_oth hb1 (b := ba) (by omega) [pvba, .int .i64 X.2])
  have H25 := Lib.hid (Blk.put_oth hb2 (b := ba) (by omega) [pvba, .int .i64 X.2])
  have hbq0 : w.heap.size + 1 + 1 < ba := by omega
  have f0 := hb.free 0
  have f1 := hb.free 1
  have lb := hb.lt
  have d0 : w9.cell? ⟨ba, 0, none⟩ = some (.slice none 0 0) := hb.cell 0
  have d1 : w9.cell? ⟨ba, 1, none⟩ = some (.int .i64 0) := hb.cell 1
  obtain ⟨paba, pcba, rfl⟩ := hr1.shape
  clear k1 k2 k3 hb0 hb1 hb2 hl0 hl1 hl2 hwd hB9 hB hr1 H0D H1D H2D HBD HF HT hb hbm
  refine plan5_big rfl ?_
  go_wp2_with fail
  refine ⟨fun h => absurd rfl h, plan5_nil ?_⟩
  simp only [putCells, Nat.reduceAdd] at HB5 HXba HRba H05 H15 H25
  generalize (w9.setCell ⟨ba, 0, none⟩ (.slice paba X.1.length pcba)).setCell ⟨ba, 1, none⟩ (.int .i64 X.2) = w5 at *
  clear f0 f1 lb d0 d1
  have hb0 := H05.out
  have hb1 := H15.out
  have hbx := HXba.out
  have hgt : gt < w5.heap.size := by have := HB5.out.size; omega
  obtain ⟨x0, x1, x2, x3, ht⟩ := HA1.out _ HB5.out
  have HF : Hid (FactsB [(⟨w.heap.size, 3, none⟩, .slice (some ⟨gt, off, none⟩) 2 c), (⟨gt, off + 4, none⟩, .int .i64 (Tm.k t1)), (⟨gt, off + 4 + 1, none⟩, .string (Tm.s t1)), (⟨gt, off + 4 + 2, none⟩, .int .i64 (Tm.x t1)), (⟨gt, off + 4 + 3, none⟩, .slice a1 l1 c1), (⟨w.heap.size + 1, 0, none⟩, .int .i64 cop), (⟨w.heap.size + 1, 1, none⟩, .int .i64 ca), (⟨w.heap.size + 1, 2, none⟩, .int .i64 0), (⟨w.heap.size + 1, 3, none⟩, .string noStr), (⟨w.heap.size + 1, 4, none⟩, .int .i64 0), (⟨w.heap.size + 1, 5, none⟩, .slice none 0 0), (⟨ba, 1, none⟩, .int .i64 X.2)] w5.drew) := Lib.hid ⟨⟨hb0.cell 3, hb0.lt⟩, ⟨x0, hgt⟩, ⟨x1, hgt⟩, ⟨x2, hgt⟩, ⟨x3, hgt⟩, ⟨hb1.cell 0, hb1.lt⟩, ⟨hb1.cell 1, hb1.lt⟩, ⟨hb1.cell 2, hb1.lt⟩, ⟨hb1.cell 3, hb1.lt⟩, ⟨hb1.cell 4, hb1.lt⟩, ⟨hb1.cell 5, hb1.lt⟩, ⟨hbx.cell 1, hbx.lt⟩, trivial⟩
  have HT := Lib.hid (fun w9 (hB : Below w5.drew.heap.size w5.drew w9) => (ih t1 n0 w9 _ _ _ _ _ _ cop ca X.2 (by have h1 := hB.size; have h2 := HB5.out.size; have h3 : w5.drew.heap.size = w5.heap.size := rfl; omega) (TmV.below (w := w5.drew) (ht.carry (w' := w5.drew) (Nat.le_refl _) fun g hg hc => ⟨rfl, hc⟩) hB) (by omega) (by omega) (by omega) (by omega)))
  rw [EY.out] at HT
  clear hb0 hb1 hbx hgt x0 x1 x2 x3 ht
  go_wp2_with fail
  refine wp_region_plan5 [.early 0 [1, 2, 3, 7, 9], .early 1 [2, 3, 7, 9], .early 2 [3, 7, 9], .early 3 [7, 9], .early 4 [7, 9], .early 5 [6, 7, 9], .early 6 [7, 9], .block [7, 8], .big 9] 9 (Facts _) (by kernel_rfl) (by kernel_rfl) (fun _ _ _ d _ h => by cases d <;> exact h) (FactsB.facts HF.out) ?_
  have HBD := Lib.hid HB5.out.drew
  have H0D := Lib.hid H05.out.drew
  have H1D := Lib.hid H15.out.drew
  have H2D := Lib.hid H25.out.drew
  have HXbaD := Lib.hid HXba.out.drew
  have HRbaD := Lib.hid ((HRba.out).carry (w' := w5.drew) (Nat.le_refl _) (fun _ _ _ => rfl) fun _ _ hc => ⟨rfl, hc⟩)
  clear H05 H15 H25 HB5 HXba HRba
  generalize w5.drew = wd at *
  iterate 7
    apply plan5_early
    case hi => rfl
    case h =>
      intro w9 hf
      simp only [Facts] at hf
      obtain ⟨z0, z1, z2, z3, z4, z5, z6, z7, z8, z9, z10, z11, _⟩ := hf
      still_step
      exact wpStill_nil rfl
  refine plan5_new [(7, PoPiece n0 Y), (8, PoBox wd.heap.size)] rfl (fun w9 hB => FactsB.facts (FactsB.below hB HF.out)) ⟨PoPiece.stable n0 Y, PoBox.stable _, trivial⟩ ?_ ?_
  · refine obl_cons [] rfl (by kernel_rfl) (fun vs w9 _ hR hP => ?_) (obl_cons [] rfl (by kernel_rfl) (fun vs w9 _ hR hP => ?_) obl_nil)
    · simp only [putD]
      go_wp2_with fail
      refine (HT.out w9 hR).mono ?_
      rintro e w10 ⟨pv, rfl, hr, hB⟩
      go_wp2_with fail
      exact ⟨_, rfl, (), hB, pv, rfl, hr⟩
    · simp only [putD]
      go_wp2_with fail
      exact ⟨_, rfl, (), (Below.refl _ _).alloc (Nat.le_refl _) _, PoBox.new _ w9 (Below.size hR)⟩
  intro vs w9 hB hP
  obtain ⟨⟨pvbb, hv1, hr1⟩, ⟨bb, hv2, hbm, hb⟩, _⟩ := hP
  refine plan5_after [(7, 66), (8, 8)] [] (by kernel_rfl) ?_
  simp only [putD, hv1, hv2]
  clear hv1 hv2
  have hwd := HBD.out.size
  have hB9 := HBD.out.trans (hB.mono HBD.out.size)
  obtain ⟨k1, k2, k3⟩ := box_set (w := w) (X := Y) hb hB9 (by omega) hn0 hr1
  have hb0 := (Blk_same H0D.out hB)
  have hb1 := (Blk_same H1D.out hB)
  have hb2 := (Blk_same H2D.out hB)
  have hl0 := H0D.out.lt
  have hl1 := H1D.out.lt
  have hl2 := H2D.out.lt
  have HB6 := Lib.hid k1
  have HXbb := Lib.hid k2
  have HRbb := Lib.hid k3
  have H06 := Lib.hid (Blk.put_oth hb0 (b := bb) (by omega) [pvbb, .int .i64 Y.2])
  have H16 := Lib.hid (Blk.put_oth hb1 (b := bb) (by omega) [pvbb, .int .i64 Y.2])
  have H26 := Lib.hid (Blk.put_oth hb2 (b := bb) (by omega) [pvbb, .int .i64 Y.2])
  have hbq0 : w.heap.size + 1 + 1 < bb := by omega
  have hbx := Blk_same HXbaD.out hB
  have hlx := HXbaD.out.lt
  have hrx := HRbaD.out.below hB
  have HXba := Lib.hid (Blk.put_oth hbx (b := bb) (by omega) [pvbb, .int .i64 Y.2])
  have HRba := Lib.hid (hrx.put hb (by decide) (by omega) [pvbb, .int .i64 Y.2])
  clear hbx hlx hrx HXbaD HRbaD
  have f0 := hb.free 0
  have f1 := hb.free 1
  have lb := hb.lt
  have d0 : w9.cell? ⟨bb, 0, none⟩ = some (.slice none 0 0) := hb.cell 0
  have d1 : w9.cell? ⟨bb, 1, none⟩ = some (.int .i64 0) := hb.cell 1
  obtain ⟨pabb, pcbb, rfl⟩ := hr1.shape
  clear k1 k2 k3 hb0 hb1 hb2 hl0 hl1 hl2 hwd hB9 hB hr1 H0D H1D H2D HBD HF HT hb hbm
  refine plan5_big rfl ?_
  go_wp2_with fail
  refine ⟨fun h => absurd rfl h, plan5_nil ?_⟩
  simp only [putCells, Nat.reduceAdd] at HB6 HXbb HRbb H06 H16 H26 HXba HRba
  generalize (w9.setCell ⟨bb, 0, none⟩ (.slice pabb Y.1.length pcbb)).setCell ⟨bb, 1, none⟩ (.int .i64 Y.2) = w6 at *
  clear f0 f1 lb d0 d1
  have HF : Hid (FactsB [(⟨ba, 0, none⟩, .slice paba X.1.length pcba), (⟨bb, 0, none⟩, .slice pabb Y.1.length pcbb), (⟨bb, 1, none⟩, .int .i64 Y.2)] w6.drew) := Lib.hid ⟨⟨HXba.out.cell 0, HXba.out.lt⟩, ⟨HXbb.out.cell 0, HXbb.out.lt⟩, ⟨HXbb.out.cell 1, HXbb.out.lt⟩, trivial⟩
  go_wp2_with fail
  refine wp_region_plan5 [.early 0 [1, 4, 5, 8, 9], .early 1 [4, 5, 8, 9], .early 2 [3, 4, 5, 8, 9], .early 3 [4, 5, 8, 9], .early 6 [7, 8, 9], .early 7 [8, 9], .big 4, .big 5, .early 8 [9], .big 9] 9 (Facts _) (by kernel_rfl) (by kernel_rfl) (fun _ _ _ d _ h => by cases d <;> exact h) (FactsB.facts HF.out) ?_
  have HBD := Lib.hid HB6.out.drew
  have H2D := Lib.hid H26.out.drew
  have HRDba := Lib.hid ((HRba.out).carry (w' := w6.drew) (Nat.le_refl _) (fun _ _ _ => rfl) fun _ _ hc => ⟨rfl, hc⟩)
  have HRDbb := Lib.hid ((HRbb.out).carry (w' := w6.drew) (Nat.le_refl _) (fun _ _ _ => rfl) fun _ _ hc => ⟨rfl, hc⟩)
  clear H26 HB6 HRba HXba HRbb HXbb
  generalize w6.drew = wd0 at *
  iterate 6
    apply plan5_early
    case hi => rfl
    case h =>
      intro w9 hf
      simp only [Facts] at hf
      obtain ⟨z0, z1, z2, _⟩ := hf
      still_step
      exact wpStill_nil rfl
  have HPC := Lib.hid (pcs_new (n := 2) (c := 2) (T := 36) (vs := [.slice paba X.1.length pcba, .slice pabb Y.1.length pcbb]) (ps := [X.1, Y.1]) ⟨HRDba.out, HRDbb.out, trivial⟩ rfl)
  have hfl : [X.1, Y.1].flatten = X.1 ++ Y.1 := by simp 
  have hlenf : [X.1, Y.1].flatten.length ≤ 1000000 := by rw [hfl]; simp only [List.length_append, List.length_cons, List.length_nil]; omega
  refine plan5_big rfl ?_
  go_wp2_with fail
  have hBq : Below wd0.heap.size wd0 (wd0.alloc (.cells #[.slice paba X.1.length pcba, .slice pabb Y.1.length pcbb] 36)) := (Below.refl _ _).alloc (Nat.le_refl _) _
  have HF' := Lib.hid (FactsB.below hBq HF.out)
  have HB' := Lib.hid (HBD.out.trans (hBq.mono HBD.out.size))
  have H2' := Lib.hid (Blk_same H2D.out hBq)
  clear hBq HF HBD H2D
  refine ⟨fun _ => FactsB.facts HF'.out, ?_⟩
  refine plan5_big rfl ?_
  go_wp2_with fail
  refine (join_any [X.1, Y.1] _ _ _ HPC.out hlenf (by show 2 ≤ 1000; decide)).mono ?_
  rintro e wj ⟨vj, rfl, hrj, hB⟩
  rw [hfl] at hrj
  have HF := Lib.hid (FactsB.below hB HF'.out)
  have HRJ := Lib.hid hrj
  have HBJ := Lib.hid (HB'.out.trans (hB.mono HB'.out.size))
  have hb2 := Blk_same H2'.out hB
  have H2J := Lib.hid hb2
  obtain ⟨aj, lj, cj, rfl⟩ : ∃ aj lj cj, vj = Value.slice aj lj cj := by
    obtain ⟨a', c', h'⟩ := hrj.shape
    exact ⟨_, _, _, h'⟩
  have f0 := hb2.free 0
  have f1 := hb2.free 1
  have l2 := hb2.lt
  have d0 : wj.cell? ⟨w.heap.size + 1 + 1, 0, none⟩ = some (.slice none 0 0) := hb2.cell 0
  have d1 : wj.cell? ⟨w.heap.size + 1 + 1, 1, none⟩ = some (.int .i64 0) := hb2.cell 1
  clear hb2 hB hrj HF' HB' H2' HPC hfl hlenf
  go_wp2_with fail
  refine ⟨fun _ => FactsB.facts HF.out, ?_⟩
  iterate 1
    apply plan5_early
    case hi => rfl
    case h =>
      intro w9 hf
      simp only [Facts] at hf
      obtain ⟨z0, z1, z2, _⟩ := hf
      still_step
      exact wpStill_nil rfl
  refine plan5_big rfl ?_
  go_wp2_with fail
  refine ⟨fun h => absurd rfl h, plan5_nil ?_⟩
  go_wp2_with fail
  have hend := Blk.putCells (cs := [.slice none 0 0, .int .i64 0]) (vs := [.slice aj lj cj, .int .i64 Y.2]) H2J.out rfl
  have hp := pc_end (f := Y.2) HRJ.out H2J.out HBJ.out (b := w.heap.size + 1 + 1) (by omega) hn0
  simp only [putCells, Nat.reduceAdd] at hend hp
  refine bodyPost_ret (results_cell_row rfl _ _ (w.heap.size + 1 + 1) 95 _ _ _ rfl hend.at_ Try.underlying95 rfl (by kernel_rfl)) rfl ?_
  exact hp
end Go.Proofs.Ytamiidklcadkmaa
