/- CodeCounts: the walk. Printed by gen_counts.py. -/
import Derived.Test.YtamiidklcadkmaaCountPure
import Derived.Test.YtamiidklcadkmaaCodeAlive
import Derived.Test.YtamiidklcadkmaaLikeSelf
import Derived.Test.YtamiidklcadkmaaCountBox
import Derived.Deep.DeepCutAuto
set_option maxRecDepth 20000
set_option linter.unusedVariables false
set_option linter.unusedSimpArgs false
namespace Go.Proofs.Ytamiidklcadkmaa
open Go.RowKit Go.PM
theorem TmV_lt {w : World} {C : Nat → Prop} {t : Tm} {v : Value} (h : TmV w C t v) : TmV w (fun _ => True) t v := h.carry (Nat.le_refl _) fun _ _ _ => ⟨rfl, trivial⟩
theorem TmV_lo {w w2 : World} {C : Nat → Prop} {t : Tm} {v : Value} (h : TmV w C t v) (hB : Below w.heap.size w w2) : TmV w2 (fun g => g < w.heap.size) t v := h.carry hB.size fun g hg _ => ⟨hB.block g hg, hg⟩
theorem TCells.more {w : World} {C : Nat → Prop} {t : Tm} {k : Int} {s : ByteArray} {x : Int} {sl : Value} {ts : List Tm} {xs : List Value} (hv : TmV w C t (.agg #[.int .i64 k, .string s, .int .i64 x, sl])) (h : TCells w C ts xs) : TCells w C (t :: ts) (.int .i64 k :: .string s :: .int .i64 x :: sl :: xs) := by
  obtain ⟨rfl, rfl, rfl, h1, h2, h3, h4⟩ := TmV_at hv
  exact ⟨sl, xs, rfl, ⟨h1, h2, h3, h4⟩, h⟩
theorem TCells.none (w : World) (C : Nat → Prop) : TCells w C [] [] := rfl
/-- A new block of terms, as a slice. -/
theorem slice_at {w : World} {C : Nat → Prop} {ts : List Tm} {xs : List Value} {g n : Nat} (h : TCells w C ts xs) (hC : C g) (hg : w.heap[g]? = some (.cells xs.toArray 24 (0, 0))) (hn : n = ts.length) (hm : n ≤ 1000) : TmV w C (.mk 0 noStr 0 ts) (.agg #[.int .i64 0, .string noStr, .int .i64 0, .slice (some ⟨g, 0, none⟩) n n]) := by
  have hl := h.len
  have hr : TRow w (fun b => if b = g then 1 else 0) 1 C (.slice (some ⟨g, 0, none⟩) n n) ts := ⟨xs, ⟨hl, .inr ⟨g, n, xs.toArray, by rw [hn], ⟨hg, by simp⟩, by omega, by unfold maxLen; omega, by simp [hl, hn], by rw [← hl]; simp⟩⟩, h⟩
  refine ⟨_, rfl, ?_, ?_, ?_, hr.at 0 noStr 0 (fun u _ hu => by
    by_cases e : u = g
    · rw [e]; exact hC
    · simp [e] at hu) (fun _ _ hu => hu) (by omega)⟩
  · unfold rng64; show -9223372036854775808 ≤ (0 : Int) ∧ (0 : Int) ≤ 9223372036854775807; decide
  · show noStr.size ≤ _; decide
  · unfold rng64; show -9223372036854775808 ≤ (0 : Int) ∧ (0 : Int) ≤ 9223372036854775807; decide
theorem args_of {w : World} {C : Nat → Prop} {ts : List Tm} {a : Option Addr} {l c : Nat} (hv : TmV w C (.mk 0 noStr 0 ts) (.agg #[.int .i64 0, .string noStr, .int .i64 0, .slice a l c])) {i : Nat} (hi : i < ts.length) :
    ∃ g off a2 l2 c2, a = some ⟨g, off, none⟩ ∧ g < w.heap.size ∧ ∀ w2, Below w.heap.size w w2 → w2.cell? ⟨g, off + i * 4, none⟩ = some (.int .i64 ts[i].k) ∧ w2.cell? ⟨g, off + i * 4 + 1, none⟩ = some (.string ts[i].s) ∧ w2.cell? ⟨g, off + i * 4 + 2, none⟩ = some (.int .i64 ts[i].x) ∧ w2.cell? ⟨g, off + i * 4 + 3, none⟩ = some (.slice a2 l2 c2) ∧
      TmV w2 C ts[i] (.agg #[.int .i64 ts[i].k, .string ts[i].s, .int .i64 ts[i].x, .slice a2 l2 c2]) := by
  obtain ⟨g, off, h1, h2, -, h3⟩ := arg_cells hv (by show 0 < ts.length; omega)
  obtain ⟨a2, l2, c2, q0, q1, q2, q3, q4⟩ := h3 i hi
  have e : targ (.mk 0 noStr 0 ts) i = ts[i] := targ_get (t := .mk 0 noStr 0 ts) (i := i) hi
  rw [e] at q0 q1 q2 q4
  exact ⟨g, off, a2, l2, c2, h1, h2, fun w2 hB => ⟨by rw [hB.cell (p := ⟨g, off + i * 4, none⟩) h2]; exact q0, by rw [hB.cell (p := ⟨g, off + i * 4 + 1, none⟩) h2]; exact q1, by rw [hB.cell (p := ⟨g, off + i * 4 + 2, none⟩) h2]; exact q2, by rw [hB.cell (p := ⟨g, off + i * 4 + 3, none⟩) h2]; exact q3, TmV.below q4 hB⟩⟩
def CtInv (w2 : World) (own2 : Nat → Nat) (G : List Tm) (g : Nat) (ov iv : Value) (w : World) : Prop :=
  ∃ (own : Nat → Nat) (i : Nat), iv = .int .i64 i ∧ i + g = G.length ∧ Row w own 2 3 1 ov i (irow ((G.take i).map fun t => (bodyLen t : Int))) ∧ (∀ t ∈ G.take i, Tm.rightN t = true) ∧ Ext (fun c => c = 2) w2 w own2 own
theorem three_newc (w : World) (o1 o2 o3 : Obj) : Blk (((w.alloc o1).alloc o2).alloc o3) (fun _ => 0) 0 w.heap.size o1 ∧ Blk (((w.alloc o1).alloc o2).alloc o3) (fun _ => 0) 0 (w.heap.size + 1) o2 ∧ Blk (((w.alloc o1).alloc o2).alloc o3) (fun _ => 0) 0 (w.heap.size + 1 + 1) o3 ∧ Below w.heap.size w (((w.alloc o1).alloc o2).alloc o3) ∧ (((w.alloc o1).alloc o2).alloc o3).heap.size = w.heap.size + 1 + 1 + 1 := by
  obtain ⟨h1, h2, h3, h4⟩ := two_new w o1 o2
  have h5 := Blk.new (own := fun _ => 0) (k := 0) ((w.alloc o1).alloc o2) o3 rfl
  rw [h4] at h5
  exact ⟨h1.alloc o3, h2.alloc o3, h5, h3.alloc h3.size o3, by rw [World.size_alloc, h4]⟩
def PoTm (t : Tm) (v : Value) (w : World) (_ : Unit) : Prop := TmV w (fun _ => True) t v
def PoTs (ts : List Tm) (v : Value) (w : World) (_ : Unit) : Prop := ∃ g n, n = ts.length ∧ v = .slice (some ⟨g, 0, none⟩) n n ∧ TmV w (fun _ => True) (.mk 0 noStr 0 ts) (.agg #[.int .i64 0, .string noStr, .int .i64 0, .slice (some ⟨g, 0, none⟩) n n])
theorem PoTm.stable (t : Tm) (v : Value) (w : World) (g : Unit) (w' : World) (g' : Unit) (h : RNew w g w' g') (hp : PoTm t v w g) : PoTm t v w' g' := TmV.below hp h
theorem PoTs.stable (ts : List Tm) (v : Value) (w : World) (g : Unit) (w' : World) (g' : Unit) (h : RNew w g w' g') (hp : PoTs ts v w g) : PoTs ts v w' g' := by
  obtain ⟨g, n, h1, h2, h3⟩ := hp
  exact ⟨g, n, h1, h2, TmV.below h3 h⟩
theorem PoTs.new {w : World} {ts : List Tm} {xs : List Value} {n : Nat} (h : TCells w (fun _ => True) ts xs) (hn : n = ts.length) (hm : n ≤ 1000) : PoTs ts (.slice (some ⟨w.heap.size, 0, none⟩) n n) (w.alloc (.cells xs.toArray 24)) () := by
  have hB : Below w.heap.size w (w.alloc (.cells xs.toArray 24)) := (Below.refl _ _).alloc (Nat.le_refl _) _
  have hc : TCells (w.alloc (.cells xs.toArray 24)) (fun _ => True) ts xs := h.carry hB.size fun g hg _ => ⟨hB.block g hg, trivial⟩
  exact ⟨w.heap.size, n, hn, rfl, slice_at hc trivial (heap_alloc_new w _) hn hm⟩
theorem comp_of {w : World} {s : ByteArray} {ts : List Tm} {sl : Value} (hs : s.size ≤ 9223372036854775807) (h : TmV w (fun _ => True) (.mk 0 noStr 0 ts) (.agg #[.int .i64 0, .string noStr, .int .i64 0, sl])) : TmV w (fun _ => True) (.mk 4 s 0 ts) (.agg #[.int .i64 4, .string s, .int .i64 0, sl]) := by
  obtain ⟨_, _, _, _, _, _, h⟩ := TmV_at h
  exact compV hs (by unfold Tm.At at h ⊢; exact h)
def CoInv (w0 : World) (N : Nat) (g : Nat) (iv : Value) (w : World) : Prop := ∃ i : Nat, iv = .int .i64 i ∧ i + g = N ∧ Below w0.heap.size w0 w
theorem compOk_dp {h b : Tm} (hk : compOk h b = true) : Tm.dp b ≤ 100 := by
  have h1 := (rightN_whole h b).1 (by unfold compOk at hk; simp only [Bool.and_eq_true] at hk; exact hk.1)
  have h2 := h1.2.1
  omega
theorem head_len8 {args : List Tm} {b : Tm} (hk : compOk (headOf args) b = true) : args.length ≤ 8 := by
  have h1 := (rightN_whole (headOf args) b).1 (by unfold compOk at hk; simp only [Bool.and_eq_true] at hk; exact hk.1)
  have h2 := h1.2.2.1
  unfold headOf at h2
  split at h2
  · omega
  · exact (pl_4.1 h2).2.2.1
theorem want_at {w : World} {own : Nat → Nat} {b : Nat} {na nb nc : Int} (h : Blk w own 0 b (.cells #[.int .i64 (na + nb), .int .i64 (na + nb + 2), .int .i64 (na + nb + nc + 5), .int .i64 (na + 5)] 3 (0, 0))) (za : 0 ≤ na) (zb : 0 ≤ nb) (zc : 0 ≤ nc) (za2 : na ≤ 100000) (zb2 : nb ≤ 100000) (zc2 : nc ≤ 100000) {i : Nat} (hi : i < 4) :
    ∃ x, (∃ hw : i < (wantsOf na nb nc).length, (wantsOf na nb nc)[i] = x) ∧ w.cell? ⟨b, i, none⟩ = some (.int .i64 x) ∧ 0 ≤ x ∧ x ≤ 400000 := by
  match i, hi with
  | 0, _ => exact ⟨na + nb, ⟨by simp [wantsOf], rfl⟩, h.cell 0, by omega, by omega⟩
  | 1, _ => exact ⟨na + nb + 2, ⟨by simp [wantsOf], rfl⟩, h.cell 1, by omega, by omega⟩
  | 2, _ => exact ⟨na + nb + nc + 5, ⟨by simp [wantsOf], rfl⟩, h.cell 2, by omega, by omega⟩
  | 3, _ => exact ⟨na + 5, ⟨by simp [wantsOf], rfl⟩, h.cell 3, by omega, by omega⟩
def CtMid (w3 : World) (bh : Nat) (args : List Tm) (w : World) : Prop := ∃ (hk : Int) (a : Option Addr) (l c : Nat), Blk w (fun _ => 0) 0 bh (.cells #[.int .i64 hk, .string sH, .int .i64 0, .slice a l c] 24 (0, 0)) ∧ TmV w (fun _ => True) (headOf args) (.agg #[.int .i64 hk, .string sH, .int .i64 0, .slice a l c]) ∧ Below w3.heap.size w3 w
/-- What a goal's code tells of its length. -/
theorem goal_count (t : Tm) (h : Tm.rightN t = true) : ((goalC t).is.length : Int) - 1 - (goalC t).p.2 = bodyLen t ∧ 0 ≤ (goalC t).p.2 ∧ (goalC t).p.2 ≤ 100000 ∧ (goalC t).is.length ≤ 1000000 ∧ 1 ≤ (goalC t).is.length ∧ bodyLen t ≤ 100000 := by
  have h1 := goalC_len t h
  have h2 : (goalC t).p.2 = (goalN t : Int) := rfl
  have h3 := vars_len t []
  obtain ⟨q1, q2, q3⟩ := (rightN_iff t).1 h
  have h4 := (bd_le 101 t (In0 3 0) 0).1
  have h5 : bodyLen t = (bd 101 t (In0 3 0) 0).1.length := rfl
  have h6 : goalN t = (Tm.vars t []).length := rfl
  simp only [List.length_nil] at h3
  omega
set_option maxHeartbeats 8000000 in
theorem codeCounts_walk (w : World) (ta : Tm) (Ca : Nat → Prop) (va : Value) (hva : TmV w Ca ta va) (tb : Tm) (Cb : Nat → Prop) (vb : Value) (hvb : TmV w Cb tb vb) (tc : Tm) (Cc : Nat → Prop) (vc : Value) (hvc : TmV w Cc tc vc) (args : List Tm) (C : Nat → Prop) (sl : Value) (hat : Tm.At w C (.mk 0 noStr 0 args) sl) :
    Calls Try.prog 5 #[va, vb, vc, sl] w fun e w' => e = .returned (.bool true) ∧ Below w.heap.size w w' := by
  obtain ⟨aa, la, ca, rfl, -, -, -, -⟩ := TmV_open hva
  obtain ⟨ab, lb, cb, rfl, -, -, -, -⟩ := TmV_open hvb
  obtain ⟨ac, lc, cc, rfl, -, -, -, -⟩ := TmV_open hvc
  obtain ⟨ah, lh, ch, rfl⟩ := Tm.at_shape hat
  obtain ⟨hlh, hlh2⟩ := at_len hat
  have hlh3 : lh = args.length := hlh
  clear hlh
  subst hlh3
  obtain ⟨hb0, hb1, hb2, hB0, hz0⟩ := three_newc w (.cells #[.int .i64 ta.k, .string ta.s, .int .i64 ta.x, .slice aa la ca] 24) (.cells #[.int .i64 tb.k, .string tb.s, .int .i64 tb.x, .slice ab lb cb] 24) (.cells #[.int .i64 tc.k, .string tc.s, .int .i64 tc.x, .slice ac lc cc] 24)
  have H00 := Lib.hid hb0
  have H10 := Lib.hid hb1
  have H20 := Lib.hid hb2
  have HB0 := Lib.hid hB0
  have HA := Lib.hid (fun w2 (hB : Below w.heap.size w w2) => (TmV_lo hva hB))
  have HBB := Lib.hid (fun w2 (hB : Below w.heap.size w w2) => (TmV_lo hvb hB))
  have HCC := Lib.hid (fun w2 (hB : Below w.heap.size w w2) => (TmV_lo hvc hB))
  have HAR := Lib.hid (fun w2 (hB : Below w.heap.size w w2) => TmV_lo (show TmV w C (.mk 0 noStr 0 args) (.agg #[.int .i64 0, .string noStr, .int .i64 0, .slice ah args.length ch]) from ⟨_, rfl, by unfold rng64; show -9223372036854775808 ≤ (0 : Int) ∧ (0 : Int) ≤ 9223372036854775807; decide, by show noStr.size ≤ _; decide, by unfold rng64; show -9223372036854775808 ≤ (0 : Int) ∧ (0 : Int) ≤ 9223372036854775807; decide, hat⟩) hB)
  clear hb0 hb1 hb2 hB0 hz0 hva hvb hvc hat
  generalize hka : Tm.k ta = ka at *
  generalize hsa : Tm.s ta = sa at *
  generalize hxa : Tm.x ta = xa at *
  generalize hkb : Tm.k tb = kb at *
  generalize hsb : Tm.s tb = sb at *
  generalize hxb : Tm.x tb = xb at *
  generalize hkc : Tm.k tc = kc at *
  generalize hsc : Tm.s tc = sc at *
  generalize hxc : Tm.x tc = xc at *
  clear hka hsa hxa hkb hsb hxb hkc hsc hxc
  go_enter Try.func5, Try.ntmps5
  go_wp2_with fail
  refine (alive_any _).mono ?_
  rintro e w1 ⟨rfl, hB1⟩
  have h0 := Blk_same H00.out hB1
  have h1 := Blk_same H10.out hB1
  have h2 := Blk_same H20.out hB1
  have hB1w := HB0.out.trans (hB1.mono HB0.out.size)
  have p0 : w1.cell? ⟨w.heap.size, 0, none⟩ = some (.int .i64 ka) := h0.cell 0
  have p1 : w1.cell? ⟨w.heap.size, 1, none⟩ = some (.string sa) := h0.cell 1
  have p2 : w1.cell? ⟨w.heap.size, 2, none⟩ = some (.int .i64 xa) := h0.cell 2
  have p3 : w1.cell? ⟨w.heap.size, 3, none⟩ = some (.slice aa la ca) := h0.cell 3
  have pl := h0.lt
  have q0 : w1.cell? ⟨w.heap.size + 1, 0, none⟩ = some (.int .i64 kb) := h1.cell 0
  have q1 : w1.cell? ⟨w.heap.size + 1, 1, none⟩ = some (.string sb) := h1.cell 1
  have q2 : w1.cell? ⟨w.heap.size + 1, 2, none⟩ = some (.int .i64 xb) := h1.cell 2
  have q3 : w1.cell? ⟨w.heap.size + 1, 3, none⟩ = some (.slice ab lb cb) := h1.cell 3
  have ql := h1.lt
  have r0 : w1.cell? ⟨w.heap.size + 1 + 1, 0, none⟩ = some (.int .i64 kc) := h2.cell 0
  have r1 : w1.cell? ⟨w.heap.size + 1 + 1, 1, none⟩ = some (.string sc) := h2.cell 1
  have r2 : w1.cell? ⟨w.heap.size + 1 + 1, 2, none⟩ = some (.int .i64 xc) := h2.cell 2
  have r3 : w1.cell? ⟨w.heap.size + 1 + 1, 3, none⟩ = some (.slice ac lc cc) := h2.cell 3
  have rl := h2.lt
  have hE1 : Ext (fun c => c = 2) w1 ((w1.alloc (.cells #[] 3)).alloc (.cells #[.int .i64 ka, .string sa, .int .i64 xa, .slice aa la ca, .int .i64 kb, .string sb, .int .i64 xb, .slice ab lb cb, .int .i64 kc, .string sc, .int .i64 xc, .slice ac lc cc] 24)) (fun _ => 0) (ow (ow (fun _ => 0) w1.heap.size 2) (w1.heap.size + 1) 0) := by
    have h1 := ((Ext.refl (M := fun c => c = 2) (w := w1) (own := fun _ => 0)).ow 2).alloc (.cells #[] 3)
    have h2 := ((Ext.refl (M := fun c => c = 2) (w := w1.alloc (.cells #[] 3)) (own := ow (fun _ => 0) w1.heap.size 2)).ow 0).alloc (.cells #[.int .i64 ka, .string sa, .int .i64 xa, .slice aa la ca, .int .i64 kb, .string sb, .int .i64 xb, .slice ab lb cb, .int .i64 kc, .string sc, .int .i64 xc, .slice ac lc cc] 24)
    rw [World.size_alloc] at h2
    exact h1.trans h2
  have hBx : Below w1.heap.size w1 ((w1.alloc (.cells #[] 3)).alloc (.cells #[.int .i64 ka, .string sa, .int .i64 xa, .slice aa la ca, .int .i64 kb, .string sb, .int .i64 xb, .slice ab lb cb, .int .i64 kc, .string sc, .int .i64 xc, .slice ac lc cc] 24)) := hE1.below fun b hb => by decide
  have hrow1 : Row ((w1.alloc (.cells #[] 3)).alloc (.cells #[.int .i64 ka, .string sa, .int .i64 xa, .slice aa la ca, .int .i64 kb, .string sb, .int .i64 xb, .slice ab lb cb, .int .i64 kc, .string sc, .int .i64 xc, .slice ac lc cc] 24)) (ow (ow (fun _ => 0) w1.heap.size 2) (w1.heap.size + 1) 0) 2 3 1 (.slice (some ⟨w1.heap.size, 0, none⟩) 0 0) 0 (irow []) := by
    refine (Row.start ((Blk.new (own := ow (ow (fun _ => 0) w1.heap.size 2) (w1.heap.size + 1) 0) (k := 2) w1 (.cells #[] 3) ?_).alloc _))
    rw [ow_lt (by omega), ow_ge (Nat.le_refl _)]
  have hnew := heap_alloc_new (w1.alloc (.cells #[] 3)) (.cells #[.int .i64 ka, .string sa, .int .i64 xa, .slice aa la ca, .int .i64 kb, .string sb, .int .i64 xb, .slice ab lb cb, .int .i64 kc, .string sc, .int .i64 xc, .slice ac lc cc] 24)
  rw [World.size_alloc] at hnew
  have hB2w := hB1w.trans (hBx.mono hB1w.size)
  have hlow : ∀ b, b < w.heap.size → (ow (ow (fun _ => 0) w1.heap.size 2) (w1.heap.size + 1) 0) b ≠ 2 := fun b hb => by rw [ow_lt (by have := hB1w.size; omega), ow_lt (by have := hB1w.size; omega)]; decide
  have HTG := Lib.hid (slice_at (n := 3) (C := fun g => (ow (ow (fun _ => 0) w1.heap.size 2) (w1.heap.size + 1) 0) g ≠ 2) (TCells.more ((HA.out _ hB2w).carry (Nat.le_refl _) fun g _ hc => ⟨rfl, hlow g hc⟩) (TCells.more ((HBB.out _ hB2w).carry (Nat.le_refl _) fun g _ hc => ⟨rfl, hlow g hc⟩) (TCells.more ((HCC.out _ hB2w).carry (Nat.le_refl _) fun g _ hc => ⟨rfl, hlow g hc⟩) (TCells.none _ _)))) (by rw [ow_ge (Nat.le_refl _)]; decide) hnew rfl (by decide))
  have HE1 := Lib.hid hE1
  have HROW1 := Lib.hid hrow1
  have HB2 := Lib.hid hB2w
  have H02 := Lib.hid (Blk_same h0 hBx)
  have H12 := Lib.hid (Blk_same h1 hBx)
  have H22 := Lib.hid (Blk_same h2 hBx)
  have HLOW := Lib.hid (show ∀ b, b < w1.heap.size → (ow (ow (fun _ => 0) w1.heap.size 2) (w1.heap.size + 1) 0) b = 0 from fun b hb => by rw [ow_lt (by omega), ow_lt hb])
  have HBX1 := Lib.hid hBx
  have HBW0 := Lib.hid hB1w
  have H01 := Lib.hid h0
  have H11 := Lib.hid h1
  have H21 := Lib.hid h2
  clear hlow h0 h1 h2 hB1 hB1w hE1 hBx hrow1 hnew hB2w H00 H10 H20 HB0
  go_wp2_with fail
  generalize ((w1.alloc (.cells #[] 3)).alloc (.cells #[.int .i64 ka, .string sa, .int .i64 xa, .slice aa la ca, .int .i64 kb, .string sb, .int .i64 xb, .slice ab lb cb, .int .i64 kc, .string sc, .int .i64 xc, .slice ac lc cc] 24)) = w2 at *
  generalize hq2 : (Value.slice (some ⟨w1.heap.size, 0, none⟩) 0 0) = bv2 at *
  generalize (ow (ow (fun _ => 0) w1.heap.size 2) (w1.heap.size + 1) 0) = own2 at *
  clear hq2 p0 p1 p2 p3 pl q0 q1 q2 q3 ql r0 r1 r2 r3 rl
  go_loopg [9, 29] 3 (fun g ov iv wr => CtInv w2 own2 [ta, tb, tc] g ov iv wr)
  case atStart => exact ⟨own2, 0, rfl, rfl, HROW1.out, (fun t ht => by simp at ht), Ext.refl⟩
  case round =>
    obtain ⟨ownr, i, rfl, hi, hrow, hrt, hEr⟩ := hrel
    have hEw := HE1.out.trans hEr
    have hB := hEw.below fun b hb => by decide
    have HROW := Lib.hid hrow
    have HRT := Lib.hid hrt
    have HER := Lib.hid hEr
    have HBR := Lib.hid hB
    obtain ⟨oa, oc, rfl⟩ := hrow.shape
    have hi3 : i + gk = 3 := hi
    by_cases hlt : i < 3
    · have hlt2 : (i : Int) < 3 := by omega
      have hTr := TmV.ext2 HTG.out hEr
      obtain ⟨g3, off, a4, l4, c4, he, hg3, hal⟩ := args_of hTr (i := i) hlt
      injection he with he
      injection he with he0 he1
      subst he0
      subst he1
      obtain ⟨x0, x1, x2, x3, ht⟩ := hal wr (Below.refl _ _)
      simp only [Nat.zero_add] at x0 x1 x2 x3
      have HNX := Lib.hid (show ([ta, tb, tc].take (i + 1)).map (fun t => (bodyLen t : Int)) = ([ta, tb, tc].take i).map (fun t => (bodyLen t : Int)) ++ [(bodyLen [ta, tb, tc][i] : Int)] by rw [List.take_succ_eq_append_getElem hlt, List.map_append]; rfl)
      have HNR := Lib.hid (fun (hr : Tm.rightN [ta, tb, tc][i] = true) => (show ∀ t ∈ [ta, tb, tc].take (i + 1), Tm.rightN t = true from fun t ht => by
        rw [List.take_succ_eq_append_getElem hlt] at ht
        rcases List.mem_append.1 ht with ht | ht
        · exact hrt t ht
        · rw [List.mem_singleton.1 ht]; exact hr))
      have HGC := Lib.hid (goal_count [ta, tb, tc][i])
      have hGM : Tm.rightN [ta, tb, tc][i] = true ∧ [ta, tb, tc][i].k ≠ 2 → goalM [ta, tb, tc][i] = goalC [ta, tb, tc][i] := fun h => if_pos (goalE_0.2 h)
      have HGM := Lib.hid hGM
      have HE0 := Lib.hid (goalE_0 (g := [ta, tb, tc][i]))
      have HGA := Lib.hid (fun w5 (hB5 : Below wr.heap.size wr w5) => Goal_any [ta, tb, tc][i] w5 _ _ (TmV.below ht hB5))
      clear hrow hrt hEr hEw hB hTr hal ht hGM
      generalize [ta, tb, tc][i] = t at *
      generalize ([ta, tb, tc].take i).map (fun t => (bodyLen t : Int)) = ns at *
      generalize Tm.k t = k at *
      generalize Tm.s t = s at *
      generalize Tm.x t = x at *
      generalize hgm : goalM t = gm at *
      generalize hge : goalE t = ge at *
      go_wp2_with fail
      refine (HGA.out _ ((Below.refl _ _).alloc (Nat.le_refl _) _)).mono ?_
      rintro e w5 ⟨own5, v5, rfl, hcv, hB5⟩
      obtain ⟨rv, rfl, hir⟩ := hcv
      obtain ⟨ra, rc, rfl⟩ := hir.shape
      have hBa : Below wr.heap.size wr w5 := ((Below.refl _ _).alloc (Nat.le_refl _) (.cells #[.int .i64 k, .string s, .int .i64 x, .slice a4 l4 c4] 24)).trans (hB5.mono (by rw [World.size_alloc]; omega))
      have HBA := Lib.hid (hBa.alloc hBa.size (.cells #[.string gm.p.1, .int .i64 gm.p.2, .int .i64 gm.vs, .int .i64 gm.slots, .slice ra gm.is.length rc] 32))
      have HBW5 := Lib.hid (HBR.out.trans (HBA.out.mono HBR.out.size))
      clear hB5 hBa hir HGA x0 x1 x2 x3
      by_cases hz : ge = 0
      · obtain ⟨hr1, hr2⟩ := HE0.out.1 hz
        have hgc := HGM.out ⟨hr1, hr2⟩
        obtain ⟨n1, n2, n3, n4, n5, n6⟩ := HGC.out hr1
        rw [← hgc] at n1 n2 n3 n4 n5
        have HN1 := Lib.hid n1
        have HNR2 := HNR.out hr1
        subst hz
        clear hgc n1 HGM HGC HE0 hr1 hr2 HNR hgm hge
        have hrow5 := HROW.out.ext (Ext_same (M := fun _ => False) ownr HBA.out) id
        have HROW5 := Lib.hid hrow5
        have HER5 := Lib.hid (HER.out.trans (Ext_same ownr HBA.out))
        clear hrow5 HROW HER
        go_wp2_with (at_builtin; refine wpList_append_irow (w0 := w5.alloc (.cells #[.string gm.p.1, .int .i64 gm.p.2, .int .i64 gm.vs, .int .i64 gm.slots, .slice ra gm.is.length rc] 32)) (own := ownr) (k := 2) (n := i) (v := .slice oa i oc) rfl _ _ rfl ((gm.is.length : Int) - 1 - gm.p.2) rfl HROW5.out (by omega) rfl (by rw [World.size_alloc]) ?_; intro v8 w8 own8 hr8 hE8; obtain ⟨a8, c8, rfl⟩ := hr8.shape)
        have HR8 := Lib.hid hr8
        have HE8 := Lib.hid (HER5.out.trans hE8)
        clear hr8 hE8
        go_wp2_with fail
        go_roundg (3 - (i + 1))
        case measure => omega
        case rel => exact ⟨_, i + 1, by go_num, by show i + 1 + (3 - (i + 1)) = 3; omega, by rw [HNX.out, ← HN1.out]; exact HR8.out, HNR2, HE8.out⟩
      · have hzb : (ge == 0) = false := by simp [hz]
        have hzb2 : (ge != 0) = true := by simp [hz]
        clear hz HGM HGC HE0 HNR hgm hge
        go_wp2_with fail
        go_ret
        exact ⟨rfl, HBW0.out.trans (HBW5.out.mono HBW0.out.size)⟩
    · obtain rfl : i = 3 := by omega
      have hns : ([ta, tb, tc].take 3).map (fun t => (bodyLen t : Int)) = [(bodyLen ta : Int), (bodyLen tb : Int), (bodyLen tc : Int)] := rfl
      rw [hns] at HROW
      have HRA := Lib.hid (goal_count ta (hrt ta (by simp)))
      have HRB := Lib.hid (goal_count tb (hrt tb (by simp)))
      have HRC := Lib.hid (goal_count tc (hrt tc (by simp)))
      have hBw := HBW0.out.trans (hB.mono HBW0.out.size)
      have HBW3 := Lib.hid hBw
      have HAV := Lib.hid (HA.out wr hBw)
      have HBV := Lib.hid (HBB.out wr hBw)
      have HCV := Lib.hid (HCC.out wr hBw)
      have HRV := Lib.hid (HAR.out wr hBw)
      have H03 := Lib.hid (Blk_same H01.out hB)
      have H13 := Lib.hid (Blk_same H11.out hB)
      have H23 := Lib.hid (Blk_same H21.out hB)
      clear hns hrow hrt hEr hEw hB hBw HRT HER HBR HA HBB HCC HAR H01 H11 H21 H02 H12 H22 HE1 HROW1 HTG HLOW HBX1 HBW0 HB2 hi hi3
      generalize wr = w3 at *
      go_upto_if 56 with fail
      have hnb := Blk.new (own := fun _ => 0) (k := 0) w3 (.cells #[.int .i64 4, .string ⟨#[104]⟩, .int .i64 0, .slice ah args.length ch] 24) rfl
      have HNB := Lib.hid hnb
      have hnB : Below w3.heap.size w3 (w3.alloc (.cells #[.int .i64 4, .string ⟨#[104]⟩, .int .i64 0, .slice ah args.length ch] 24)) := (Below.refl _ _).alloc (Nat.le_refl _) _
      have HNB2 := Lib.hid hnB
      clear hnb hnB
      go_cut [57] (fun s57 wx => CtMid w3 w3.heap.size args wx)
      case first =>
        by_cases h0 : args.length = 0
        · obtain rfl : args = [] := List.length_eq_zero_iff.1 h0
          simp only [List.length_nil] at HNB HNB2 HRV ⊢
          go_wp2_with fail
          refine (A_any _ _).mono ?_
          rintro e w4 ⟨rfl, hB4⟩
          have hb := Blk_same HNB.out hB4
          have f0 := hb.free 0
          have f1 := hb.free 1
          have f2 := hb.free 2
          have f3 := hb.free 3
          have lb' := hb.lt
          have d0 : w4.cell? ⟨w3.heap.size, 0, none⟩ = some (.int .i64 4) := hb.cell 0
          have d1 : w4.cell? ⟨w3.heap.size, 1, none⟩ = some (.string ⟨#[104]⟩) := hb.cell 1
          have d2 : w4.cell? ⟨w3.heap.size, 2, none⟩ = some (.int .i64 0) := hb.cell 2
          have d3 : w4.cell? ⟨w3.heap.size, 3, none⟩ = some (.slice ah 0 ch) := hb.cell 3
          have HPB := Lib.hid (Blk.putCells (cs := [.int .i64 4, .string ⟨#[104]⟩, .int .i64 0, .slice ah 0 ch]) (vs := [.int .i64 3, .string sH, .int .i64 0, .slice none 0 0]) hb rfl)
          have HPL := Lib.hid (below_put (w := w3) (HNB2.out.trans (hB4.mono HNB2.out.size)) (Nat.le_refl w3.heap.size) [.int .i64 3, .string sH, .int .i64 0, .slice none 0 0])
          simp only [putCells, Nat.reduceAdd] at HPB HPL
          clear hb hB4
          go_wp2_with fail
          go_meet
          refine ⟨3, none, 0, 0, HPB.out, ?_, HPL.out⟩
          unfold headOf
          rw [if_pos h0]
          exact atomV _ _ sH (by decide)
        · have hb : ((args.length : Int) == 0) = false := by rw [beq_eq_false_iff_ne]; omega
          go_wp2_with fail
          go_meet
          refine ⟨4, _, _, _, HNB.out, ?_, HNB2.out⟩
          have := comp_of (s := sH) (by decide) (TmV_lt (TmV.below HRV.out HNB2.out))
          unfold headOf
          rw [if_neg h0]
          exact this
      case rest =>
        obtain ⟨hk, hha, hhl, hhc, hbh, hth, hB3⟩ := hcut
        have h0 := Blk_same H03.out hB3
        have h1 := Blk_same H13.out hB3
        have h2 := Blk_same H23.out hB3
        have HBH := Lib.hid hbh
        have HTH := Lib.hid hth
        have HB3 := Lib.hid hB3
        have HF : Hid (FactsB [(⟨w.heap.size, 0, none⟩, .int .i64 ka), (⟨w.heap.size, 1, none⟩, .string sa), (⟨w.heap.size, 2, none⟩, .int .i64 xa), (⟨w.heap.size, 3, none⟩, .slice aa la ca), (⟨w.heap.size + 1, 0, none⟩, .int .i64 kb), (⟨w.heap.size + 1, 1, none⟩, .string sb), (⟨w.heap.size + 1, 2, none⟩, .int .i64 xb), (⟨w.heap.size + 1, 3, none⟩, .slice ab lb cb), (⟨w.heap.size + 1 + 1, 0, none⟩, .int .i64 kc), (⟨w.heap.size + 1 + 1, 1, none⟩, .string sc), (⟨w.heap.size + 1 + 1, 2, none⟩, .int .i64 xc), (⟨w.heap.size + 1 + 1, 3, none⟩, .slice ac lc cc)] wc.drew) := Lib.hid ⟨⟨h0.cell 0, h0.lt⟩, ⟨h0.cell 1, h0.lt⟩, ⟨h0.cell 2, h0.lt⟩, ⟨h0.cell 3, h0.lt⟩, ⟨h1.cell 0, h1.lt⟩, ⟨h1.cell 1, h1.lt⟩, ⟨h1.cell 2, h1.lt⟩, ⟨h1.cell 3, h1.lt⟩, ⟨h2.cell 0, h2.lt⟩, ⟨h2.cell 1, h2.lt⟩, ⟨h2.cell 2, h2.lt⟩, ⟨h2.cell 3, h2.lt⟩, trivial⟩
        have hd : Below wc.heap.size wc wc.drew := (Below.refl _ _).drew
        have HAVW := Lib.hid (fun w9 (hR : Below wc.drew.heap.size wc.drew w9) => TmV_lt (TmV.below (w := wc.drew) (TmV.below (TmV.below HAV.out hB3) hd) hR))
        have HBVW := Lib.hid (fun w9 (hR : Below wc.drew.heap.size wc.drew w9) => TmV_lt (TmV.below (w := wc.drew) (TmV.below (TmV.below HBV.out hB3) hd) hR))
        have HCVW := Lib.hid (fun w9 (hR : Below wc.drew.heap.size wc.drew w9) => TmV_lt (TmV.below (w := wc.drew) (TmV.below (TmV.below HCV.out hB3) hd) hR))
        clear h0 h1 h2 hbh hth hB3 H03 H13 H23 HAV HBV HCV HNB HNB2 hd
        go_wp2_with fail
        refine wp_region_plan5 [.early 0 [2, 3, 4, 6, 7, 9, 10, 14, 16, 17, 20, 21, 22], .early 1 [2, 3, 4, 6, 7, 9, 10, 14, 16, 17, 20, 21, 22], .early 5 [6, 7, 9, 10, 14, 16, 17, 20, 21, 22], .early 8 [9, 10, 14, 16, 17, 20, 21, 22], .early 11 [13, 14, 16, 17, 20, 21, 22], .early 12 [13, 14, 16, 17, 20, 21, 22], .early 15 [16, 17, 20, 21, 22], .early 18 [19, 20, 21, 22], .block [2, 3, 4, 6, 7, 9, 10, 13, 14, 16, 17, 19, 20, 21], .early 22 []] 23 (Facts _) (by kernel_rfl) (by kernel_rfl) (fun _ _ _ d _ h => by cases d <;> exact h) (FactsB.facts HF.out) ?_
        have HB3D := Lib.hid HB3.out.drew
        have HBHD := Lib.hid HBH.out.drew
        have HTHD := Lib.hid (HTH.out.carry (w' := wc.drew) (C' := fun _ => True) (Nat.le_refl _) fun _ _ _ => ⟨rfl, trivial⟩)
        clear HB3 HBH HTH
        generalize wc.drew = wd at *
        iterate 8
          apply plan5_early
          case hi => rfl
          case h =>
            intro w9 hf
            simp only [Facts] at hf
            obtain ⟨z0, z1, z2, z3, z4, z5, z6, z7, z8, z9, z10, z11, _⟩ := hf
            still_step
            exact wpStill_nil rfl
        refine plan5_new [(2, PoTs [ta, tb]), (3, PoTm (.mk 4 sComma 0 [ta, tb])), (4, PoTm tTrue), (6, PoTs [tTrue, ta]), (7, PoTm (.mk 4 sComma 0 [tTrue, ta])), (9, PoTs [(.mk 4 sComma 0 [tTrue, ta]), tb]), (10, PoTm (.mk 4 sSemi 0 [(.mk 4 sComma 0 [tTrue, ta]), tb])), (13, PoTs [ta, tb]), (14, PoTm (.mk 4 sArrow 0 [ta, tb])), (16, PoTs [(.mk 4 sArrow 0 [ta, tb]), tc]), (17, PoTm (.mk 4 sSemi 0 [(.mk 4 sArrow 0 [ta, tb]), tc])), (19, PoTs [ta]), (20, PoTm (.mk 4 sNot 0 [ta])), (21, PoTs [(.mk 4 sComma 0 [ta, tb]), (.mk 4 sSemi 0 [(.mk 4 sComma 0 [tTrue, ta]), tb]), (.mk 4 sSemi 0 [(.mk 4 sArrow 0 [ta, tb]), tc]), (.mk 4 sNot 0 [ta])])] rfl (fun w9 hB => FactsB.facts (FactsB.below hB HF.out)) ⟨PoTs.stable _, PoTm.stable _, PoTm.stable _, PoTs.stable _, PoTm.stable _, PoTs.stable _, PoTm.stable _, PoTs.stable _, PoTm.stable _, PoTs.stable _, PoTm.stable _, PoTs.stable _, PoTm.stable _, PoTs.stable _, trivial⟩ ?_ ?_
        · refine obl_cons [] rfl (by kernel_rfl) (fun vs w9 _ hR hP => ?_) (obl_cons [(2, 60)] rfl (by kernel_rfl) (fun vs w9 _ hR hP => ?_) (obl_cons [] rfl (by kernel_rfl) (fun vs w9 _ hR hP => ?_) (obl_cons [(4, 62)] rfl (by kernel_rfl) (fun vs w9 _ hR hP => ?_) (obl_cons [(6, 64)] rfl (by kernel_rfl) (fun vs w9 _ hR hP => ?_) (obl_cons [(7, 65)] rfl (by kernel_rfl) (fun vs w9 _ hR hP => ?_) (obl_cons [(9, 67)] rfl (by kernel_rfl) (fun vs w9 _ hR hP => ?_) (obl_cons [] rfl (by kernel_rfl) (fun vs w9 _ hR hP => ?_) (obl_cons [(13, 71)] rfl (by kernel_rfl) (fun vs w9 _ hR hP => ?_) (obl_cons [(14, 72)] rfl (by kernel_rfl) (fun vs w9 _ hR hP => ?_) (obl_cons [(16, 74)] rfl (by kernel_rfl) (fun vs w9 _ hR hP => ?_) (obl_cons [] rfl (by kernel_rfl) (fun vs w9 _ hR hP => ?_) (obl_cons [(19, 77)] rfl (by kernel_rfl) (fun vs w9 _ hR hP => ?_) (obl_cons [(3, 61), (10, 68), (17, 75), (20, 78)] rfl (by kernel_rfl) (fun vs w9 _ hR hP => ?_) (obl_nil))))))))))))))
          · simp only [putD]
            go_wp2_with fail
            refine ⟨_, ?_, (), (Below.refl _ _).alloc (Nat.le_refl _) _, PoTs.new (TCells.more (HAVW.out w9 hR) (TCells.more (HBVW.out w9 hR) (TCells.none _ _))) rfl (by simp)⟩
            kernel_rfl
          · obtain ⟨gs, ns, hns, es, hs⟩ := hP.1 (by kernel_rfl)
            simp only [List.length_cons, List.length_nil, Nat.zero_add, Nat.reduceAdd] at hns
            subst hns
            simp only [putD, es]
            go_wp2_with fail
            refine (C_any _ _ _ _ _).mono ?_
            rintro e w10 ⟨rfl, hB⟩
            go_wp2_with fail
            refine ⟨_, ?_, (), hB, comp_of (s := sComma) (by decide) (TmV.below hs hB)⟩
            kernel_rfl
          · simp only [putD]
            go_wp2_with fail
            refine (A_any _ _).mono ?_
            rintro e w10 ⟨rfl, hB⟩
            go_wp2_with fail
            refine ⟨_, ?_, (), hB, atomV _ _ sTrue (by decide)⟩
            kernel_rfl
          · have h4 : PoTm tTrue (vs 4) w9 () := hP.2.2.1 (by kernel_rfl)
            obtain ⟨u4, v4, c4, e4, -, -, -, -⟩ := TmV_open h4
            unfold PoTm at h4
            rw [e4] at h4
            simp only [putD, e4]
            go_wp2_with fail
            refine ⟨_, ?_, (), (Below.refl _ _).alloc (Nat.le_refl _) _, PoTs.new (TCells.more h4 (TCells.more (HAVW.out w9 hR) (TCells.none _ _))) rfl (by simp)⟩
            kernel_rfl
          · obtain ⟨gs, ns, hns, es, hs⟩ := hP.2.2.2.1 (by kernel_rfl)
            simp only [List.length_cons, List.length_nil, Nat.zero_add, Nat.reduceAdd] at hns
            subst hns
            simp only [putD, es]
            go_wp2_with fail
            refine (C_any _ _ _ _ _).mono ?_
            rintro e w10 ⟨rfl, hB⟩
            go_wp2_with fail
            refine ⟨_, ?_, (), hB, comp_of (s := sComma) (by decide) (TmV.below hs hB)⟩
            kernel_rfl
          · have h7 : PoTm (.mk 4 sComma 0 [tTrue, ta]) (vs 7) w9 () := hP.2.2.2.2.1 (by kernel_rfl)
            obtain ⟨u7, v7, c7, e7, -, -, -, -⟩ := TmV_open h7
            unfold PoTm at h7
            rw [e7] at h7
            simp only [putD, e7]
            go_wp2_with fail
            refine ⟨_, ?_, (), (Below.refl _ _).alloc (Nat.le_refl _) _, PoTs.new (TCells.more h7 (TCells.more (HBVW.out w9 hR) (TCells.none _ _))) rfl (by simp)⟩
            kernel_rfl
          · obtain ⟨gs, ns, hns, es, hs⟩ := hP.2.2.2.2.2.1 (by kernel_rfl)
            simp only [List.length_cons, List.length_nil, Nat.zero_add, Nat.reduceAdd] at hns
            subst hns
            simp only [putD, es]
            go_wp2_with fail
            refine (C_any _ _ _ _ _).mono ?_
            rintro e w10 ⟨rfl, hB⟩
            go_wp2_with fail
            refine ⟨_, ?_, (), hB, comp_of (s := sSemi) (by decide) (TmV.below hs hB)⟩
            kernel_rfl
          · simp only [putD]
            go_wp2_with fail
            refine ⟨_, ?_, (), (Below.refl _ _).alloc (Nat.le_refl _) _, PoTs.new (TCells.more (HAVW.out w9 hR) (TCells.more (HBVW.out w9 hR) (TCells.none _ _))) rfl (by simp)⟩
            kernel_rfl
          · obtain ⟨gs, ns, hns, es, hs⟩ := hP.2.2.2.2.2.2.2.1 (by kernel_rfl)
            simp only [List.length_cons, List.length_nil, Nat.zero_add, Nat.reduceAdd] at hns
            subst hns
            simp only [putD, es]
            go_wp2_with fail
            refine (C_any _ _ _ _ _).mono ?_
            rintro e w10 ⟨rfl, hB⟩
            go_wp2_with fail
            refine ⟨_, ?_, (), hB, comp_of (s := sArrow) (by decide) (TmV.below hs hB)⟩
            kernel_rfl
          · have h14 : PoTm (.mk 4 sArrow 0 [ta, tb]) (vs 14) w9 () := hP.2.2.2.2.2.2.2.2.1 (by kernel_rfl)
            obtain ⟨u14, v14, c14, e14, -, -, -, -⟩ := TmV_open h14
            unfold PoTm at h14
            rw [e14] at h14
            simp only [putD, e14]
            go_wp2_with fail
            refine ⟨_, ?_, (), (Below.refl _ _).alloc (Nat.le_refl _) _, PoTs.new (TCells.more h14 (TCells.more (HCVW.out w9 hR) (TCells.none _ _))) rfl (by simp)⟩
            kernel_rfl
          · obtain ⟨gs, ns, hns, es, hs⟩ := hP.2.2.2.2.2.2.2.2.2.1 (by kernel_rfl)
            simp only [List.length_cons, List.length_nil, Nat.zero_add, Nat.reduceAdd] at hns
            subst hns
            simp only [putD, es]
            go_wp2_with fail
            refine (C_any _ _ _ _ _).mono ?_
            rintro e w10 ⟨rfl, hB⟩
            go_wp2_with fail
            refine ⟨_, ?_, (), hB, comp_of (s := sSemi) (by decide) (TmV.below hs hB)⟩
            kernel_rfl
          · simp only [putD]
            go_wp2_with fail
            refine ⟨_, ?_, (), (Below.refl _ _).alloc (Nat.le_refl _) _, PoTs.new (TCells.more (HAVW.out w9 hR) (TCells.none _ _)) rfl (by simp)⟩
            kernel_rfl
          · obtain ⟨gs, ns, hns, es, hs⟩ := hP.2.2.2.2.2.2.2.2.2.2.2.1 (by kernel_rfl)
            simp only [List.length_cons, List.length_nil, Nat.zero_add, Nat.reduceAdd] at hns
            subst hns
            simp only [putD, es]
            go_wp2_with fail
            refine (C_any _ _ _ _ _).mono ?_
            rintro e w10 ⟨rfl, hB⟩
            go_wp2_with fail
            refine ⟨_, ?_, (), hB, comp_of (s := sNot) (by decide) (TmV.below hs hB)⟩
            kernel_rfl
          · have h3 : PoTm (.mk 4 sComma 0 [ta, tb]) (vs 3) w9 () := hP.2.1 (by kernel_rfl)
            obtain ⟨u3, v3, c3, e3, -, -, -, -⟩ := TmV_open h3
            unfold PoTm at h3
            rw [e3] at h3
            have h10 : PoTm (.mk 4 sSemi 0 [(.mk 4 sComma 0 [tTrue, ta]), tb]) (vs 10) w9 () := hP.2.2.2.2.2.2.1 (by kernel_rfl)
            obtain ⟨u10, v10, c10, e10, -, -, -, -⟩ := TmV_open h10
            unfold PoTm at h10
            rw [e10] at h10
            have h17 : PoTm (.mk 4 sSemi 0 [(.mk 4 sArrow 0 [ta, tb]), tc]) (vs 17) w9 () := hP.2.2.2.2.2.2.2.2.2.2.1 (by kernel_rfl)
            obtain ⟨u17, v17, c17, e17, -, -, -, -⟩ := TmV_open h17
            unfold PoTm at h17
            rw [e17] at h17
            have h20 : PoTm (.mk 4 sNot 0 [ta]) (vs 20) w9 () := hP.2.2.2.2.2.2.2.2.2.2.2.2.1 (by kernel_rfl)
            obtain ⟨u20, v20, c20, e20, -, -, -, -⟩ := TmV_open h20
            unfold PoTm at h20
            rw [e20] at h20
            simp only [putD, e3, e10, e17, e20]
            go_wp2_with fail
            refine ⟨_, ?_, (), (Below.refl _ _).alloc (Nat.le_refl _) _, PoTs.new (TCells.more h3 (TCells.more h10 (TCells.more h17 (TCells.more h20 (TCells.none _ _))))) rfl (by simp)⟩
            kernel_rfl
        intro vs w5 hB hP
        obtain ⟨gb, nb, hnb, e21, hbd⟩ := hP.2.2.2.2.2.2.2.2.2.2.2.2.2.1
        obtain rfl : nb = 4 := hnb
        refine plan5_after [(2, 60), (3, 61), (4, 62), (6, 64), (7, 65), (9, 67), (10, 68), (13, 71), (14, 72), (16, 74), (17, 75), (19, 77), (20, 78), (21, 79)] [] (by kernel_rfl) ?_
        simp only [putD, e21]
        generalize vs 2 = y2
        generalize vs 3 = y3
        generalize vs 4 = y4
        generalize vs 6 = y6
        generalize vs 7 = y7
        generalize vs 9 = y9
        generalize vs 10 = y10
        generalize vs 13 = y13
        generalize vs 14 = y14
        generalize vs 16 = y16
        generalize vs 17 = y17
        generalize vs 19 = y19
        generalize vs 20 = y20
        have HF5 := Lib.hid (FactsB.below hB HF.out)
        have HB5 := Lib.hid (HB3D.out.trans (hB.mono HB3D.out.size))
        have HBH5 := Lib.hid (Blk_same HBHD.out hB)
        have HTH5 := Lib.hid (TmV.below HTHD.out hB)
        have HBD5 := Lib.hid hbd
        clear e21 hP hB hbd HF HB3D HBHD HTHD HAVW HBVW HCVW
        apply plan5_early
        case hi => rfl
        case h =>
          intro w9 hf
          clear hf
          still_step
          exact wpStill_nil rfl
        refine plan5_nil ?_
        go_wp2_with fail
        obtain ⟨gq, e0, g0, -, -, hx0, c0⟩ := HROW.out.irow_at (i := 0) (by decide)
        obtain ⟨gq1, e1, g1, -, -, hx1, c1⟩ := HROW.out.irow_at (i := 1) (by decide)
        obtain ⟨gq2, e2, g2, -, -, hx2, c2⟩ := HROW.out.irow_at (i := 2) (by decide)
        subst e0
        obtain rfl : gq1 = gq := by injection e1 with e; injection e with e _ _; exact e.symm
        obtain rfl : gq2 = gq1 := by injection e2 with e; injection e with e _ _; exact e.symm
        have HG5 : Hid (FactsB [(⟨gq2, 0, none⟩, .int .i64 (bodyLen ta : Int)), (⟨gq2, 1, none⟩, .int .i64 (bodyLen tb : Int)), (⟨gq2, 2, none⟩, .int .i64 (bodyLen tc : Int))] w5.drew) := Lib.hid (FactsB.below HB5.out.drew ⟨⟨c0, g0⟩, ⟨c1, g0⟩, ⟨c2, g0⟩, trivial⟩)
        have HB6 := Lib.hid HB5.out.drew
        have hd5 : Below w5.heap.size w5 w5.drew := (Below.refl _ _).drew
        have HBH6 := Lib.hid (Blk_same HBH5.out hd5)
        have HTH6 := Lib.hid (TmV.below HTH5.out hd5)
        have HBD6 := Lib.hid (TmV.below HBD5.out hd5)
        obtain ⟨_, _, _, _, _, ba⟩ := HRA.out
        obtain ⟨_, _, _, _, _, bb⟩ := HRB.out
        obtain ⟨_, _, _, _, _, bc⟩ := HRC.out
        have HWN := Lib.hid (show ∀ na nb nc : Nat, bodyLen ta = na → bodyLen tb = nb → bodyLen tc = nc → ∀ (i : Nat) (hi : i < (bodiesOf ta tb tc).length) (hw : i < (wantsOf na nb nc).length), Tm.dp (bodiesOf ta tb tc)[i] ≤ 100 → (bodyLen (bodiesOf ta tb tc)[i] : Int) = (wantsOf na nb nc)[i] from fun na nb nc h1 h2 h3 => by subst h1; subst h2; subst h3; exact bodies_len ta tb tc)
        clear e1 e2 g0 g1 g2 hx0 hx1 hx2 c0 c1 c2 HB5 HBH5 HTH5 HBD5 hd5 HRA HRB HRC HROW HF5
        generalize hna : bodyLen ta = na at *
        generalize hnb' : bodyLen tb = nb at *
        generalize hnc : bodyLen tc = nc at *
        have HWN2 := Lib.hid (HWN.out na nb nc rfl rfl rfl)
        clear hna hnb' hnc HWN
        have za : (0 : Int) ≤ na := by omega
        have zb : (0 : Int) ≤ nb := by omega
        have zc : (0 : Int) ≤ nc := by omega
        have za2 : (na : Int) ≤ 100000 := by omega
        have zb2 : (nb : Int) ≤ 100000 := by omega
        have zc2 : (nc : Int) ≤ 100000 := by omega
        clear ba bb bc
        generalize (na : Int) = na at *
        generalize (nb : Int) = nb at *
        generalize (nc : Int) = nc at *
        refine wp_region_plan5 [.early 0 [1, 2, 6, 31, 32], .early 1 [2, 6, 31, 32], .early 2 [6, 31, 32], .early 3 [4, 5, 6, 31, 32], .early 4 [5, 6, 31, 32], .early 5 [6, 31, 32], .early 6 [31, 32], .early 7 [8, 9, 13, 14, 31, 32], .early 8 [9, 13, 14, 31, 32], .early 9 [13, 14, 31, 32], .early 10 [11, 12, 13, 14, 31, 32], .early 11 [12, 13, 14, 31, 32], .early 12 [13, 14, 31, 32], .early 13 [14, 31, 32], .early 14 [31, 32], .early 15 [16, 17, 21, 25, 26, 31, 32], .early 16 [17, 21, 25, 26, 31, 32], .early 17 [21, 25, 26, 31, 32], .early 18 [19, 20, 21, 25, 26, 31, 32], .early 19 [20, 21, 25, 26, 31, 32], .early 20 [21, 25, 26, 31, 32], .early 21 [25, 26, 31, 32], .early 22 [23, 24, 25, 26, 31, 32], .early 23 [24, 25, 26, 31, 32], .early 24 [25, 26, 31, 32], .early 25 [26, 31, 32], .early 26 [31, 32], .early 27 [28, 29, 30, 31, 32], .early 28 [29, 30, 31, 32], .early 29 [30, 31, 32], .early 30 [31, 32], .early 33 [], .big 31, .early 32 []] 34 (Facts _) (by kernel_rfl) (by kernel_rfl) (fun _ _ _ d _ h => by cases d <;> exact h) (FactsB.facts HG5.out) ?_
        generalize w5.drew = w6 at *
        iterate 32
          apply plan5_early
          case hi => rfl
          case h =>
            intro w9 hf
            simp only [Facts] at hf
            obtain ⟨z0, z1, z2, _⟩ := hf
            still_step
            exact wpStill_nil rfl
        refine plan5_big rfl ?_
        go_wp2_with fail
        refine ⟨fun _ => FactsB.facts (FactsB.below ((Below.refl _ _).alloc (Nat.le_refl _) _) HG5.out), ?_⟩
        apply plan5_early
        case hi => rfl
        case h =>
          intro w9 hf
          clear hf
          still_step
          exact wpStill_nil rfl
        refine plan5_nil ?_
        have hbw := Blk.new (own := fun _ => 0) (k := 0) w6 (.cells #[.int .i64 (na + nb), .int .i64 (na + nb + 2), .int .i64 (na + nb + nc + 5), .int .i64 (na + 5)] 3) rfl
        have hd6 : Below w6.heap.size w6 (w6.alloc (.cells #[.int .i64 (na + nb), .int .i64 (na + nb + 2), .int .i64 (na + nb + nc + 5), .int .i64 (na + 5)] 3)) := (Below.refl _ _).alloc (Nat.le_refl _) _
        have HBW7 := Lib.hid hbw
        have HB7 := Lib.hid (HB6.out.trans (hd6.mono HB6.out.size))
        have HBH7 := Lib.hid (Blk_same HBH6.out hd6)
        have HTH7 := Lib.hid (TmV.below HTH6.out hd6)
        have HBD7 := Lib.hid (TmV.below HBD6.out hd6)
        clear HB6 HBH6 HTH6 HBD6 HG5 hbw hd6
        go_wp2_with fail
        generalize (w6.alloc (.cells #[.int .i64 (na + nb), .int .i64 (na + nb + 2), .int .i64 (na + nb + nc + 5), .int .i64 (na + 5)] 3)) = w7 at *
        go_loopg [113] 4 (fun g iv wr => CoInv w7 4 g iv wr)
        case atStart => exact ⟨0, rfl, rfl, Below.refl _ _⟩
        case round =>
          obtain ⟨i, rfl, hi, hBr⟩ := hrel
          by_cases hlt : i < 4
          · have hlt2 : (i : Int) < 4 := by omega
            have HBR := Lib.hid (HB7.out.trans (hBr.mono HB7.out.size))
            have hbw := Blk_same HBW7.out hBr
            have hbl := hbw.lt
            have HBHR := Lib.hid (Blk_same HBH7.out hBr)
            have HTHR := Lib.hid (TmV.below HTH7.out hBr)
            obtain ⟨xw, hxw, hcw, zw, zw2⟩ := want_at hbw za zb zc za2 zb2 zc2 hlt
            have HXW := Lib.hid hxw
            have HBDR := Lib.hid (TmV.below HBD7.out hBr)
            have HBR7 := Lib.hid hBr
            clear hBr hxw
            go_wp2_with fail
            have hbh := HBHR.out
            obtain ⟨hw, hxv⟩ := HXW.out
            obtain ⟨g3, off, a4, l4, c4, he, hg3, hal⟩ := args_of (ts := bodiesOf ta tb tc) (i := i) HBDR.out hlt
            injection he with he
            injection he with he0 he1
            subst he0
            subst he1
            obtain ⟨x0, x1, x2, x3, ht⟩ := hal wr (Below.refl _ _)
            simp only [Nat.zero_add] at x0 x1 x2 x3
            have HBLN := Lib.hid (fun hd : Tm.dp (bodiesOf ta tb tc)[i] ≤ 100 => (HWN2.out i hlt hw hd).trans hxv)
            have hd : Below wr.heap.size wr wr.drew := (Below.refl _ _).drew
            have HCP := Lib.hid (fun w9 (hB : Below wr.drew.heap.size wr.drew w9) => Compile_any (headOf args) (bodiesOf ta tb tc)[i] w9 _ _ _ _ _ _ _ _ _ _ _ _ _ (TmV.below (w := wr.drew) (TmV.below HTHR.out hd) hB) (TmV.below (w := wr.drew) (TmV.below ht hd) hB))
            have HF : Hid (FactsB [(⟨w3.heap.size, 0, none⟩, .int .i64 hk), (⟨w3.heap.size, 1, none⟩, .string sH), (⟨w3.heap.size, 2, none⟩, .int .i64 0), (⟨w3.heap.size, 3, none⟩, .slice hha hhl hhc), (⟨gb, i * 4, none⟩, .int .i64 (Tm.k (bodiesOf ta tb tc)[i])), (⟨gb, i * 4 + 1, none⟩, .string (Tm.s (bodiesOf ta tb tc)[i])), (⟨gb, i * 4 + 2, none⟩, .int .i64 (Tm.x (bodiesOf ta tb tc)[i])), (⟨gb, i * 4 + 3, none⟩, .slice a4 l4 c4)] wr.drew) := Lib.hid ⟨⟨hbh.cell 0, hbh.lt⟩, ⟨hbh.cell 1, hbh.lt⟩, ⟨hbh.cell 2, hbh.lt⟩, ⟨hbh.cell 3, hbh.lt⟩, ⟨x0, hg3⟩, ⟨x1, hg3⟩, ⟨x2, hg3⟩, ⟨x3, hg3⟩, trivial⟩
            have HRD := Lib.hid HBR.out.drew
            have HRD7 := Lib.hid HBR7.out.drew
            generalize (bodiesOf ta tb tc)[i] = bt at *
            generalize Tm.k bt = bk at *
            generalize Tm.s bt = bs at *
            generalize Tm.x bt = bx at *
            generalize hcm : (bif compOk (headOf args) bt then compM (headOf args) bt else zeroCd) = cm at *
            generalize her : (bif compOk (headOf args) bt then (0 : Int) else 160) = er at *
            have HCM : Hid ((compOk (headOf args) bt = true ∧ cm = compM (headOf args) bt ∧ er = 0) ∨ (cm = zeroCd ∧ er = 160)) := Lib.hid (by
              rw [← hcm, ← her]
              cases compOk (headOf args) bt
              · exact .inr ⟨rfl, rfl⟩
              · exact .inl ⟨rfl, rfl, rfl⟩)
            clear hbh hw hxv hal x0 x1 x2 x3 ht hd hcm her hbw hcw hbl HXW HBR
            refine wp_region_plan5 [.early 0 [5, 6, 7, 8, 9, 11, 12], .early 1 [3, 4, 5, 6, 7, 8, 9, 11, 12], .early 2 [3, 4, 5, 6, 7, 8, 9, 11, 12], .early 3 [4, 5, 6, 7, 8, 9, 11, 12], .early 4 [5, 6, 7, 8, 9, 11, 12], .early 5 [6, 7, 8, 9, 11, 12], .block [6, 7, 8, 9, 10, 11], .early 12 []] 13 (Facts _) (by kernel_rfl) (by kernel_rfl) (fun _ _ _ d _ h => by cases d <;> exact h) (FactsB.facts HF.out) ?_
            generalize wr.drew = wd at *
            iterate 6
              apply plan5_early
              case hi => rfl
              case h =>
                intro w9 hf
                simp only [Facts] at hf
                obtain ⟨z0, z1, z2, z3, z4, z5, z6, z7, _⟩ := hf
                still_step
                exact wpStill_nil rfl
            refine plan5_blockN (R := RBox) NBox (g0 := (⟨none, false⟩ : BG)) [(6, PbC cm er), (7, PbC cm er), (8, PbV cm), (9, PbI er), (10, PbB wd.heap.size), (11, PbS cm)] rfl (fun _ => ⟨fun _ => rfl, fun _ => rfl⟩) (RBox.refl _ _) RBox.trans (fun w9 g9 hR => FactsB.facts (FactsB.below (hR.below (.inl rfl)) HF.out)) ⟨PbC.stable _ _, PbC.stable _ _, PbV.stable _, PbI.stable _, PbB.stable _, PbS.stable _, trivial⟩ ?_ ?_
            · refine obl_consN [] rfl (by kernel_rfl) (fun vs w9 g9 hR hN hP => ?_) (obl_consN [(6, 125)] rfl (by kernel_rfl) (fun vs w9 g9 hR hN hP => ?_) (obl_consN [(7, 118)] rfl (by kernel_rfl) (fun vs w9 g9 hR hN hP => ?_) (obl_consN [(7, 118)] rfl (by kernel_rfl) (fun vs w9 g9 hR hN hP => ?_) (obl_consN [] rfl (by kernel_rfl) (fun vs w9 g9 hR hN hP => ?_) (obl_consN [(8, 126), (10, 18)] rfl (by kernel_rfl) (fun vs w9 g9 hR hN hP => ?_) obl_nil)))))
              · simp only [putD]
                go_wp2_with fail
                refine (HCP.out w9 (hR.below (.inl rfl))).mono ?_
                rintro e w10 ⟨own, x, rfl, hcv, hB⟩
                go_wp2_with fail
                refine ⟨_, ?_, g9, RBox.of g9 hB, fun _ _ h => h, ⟨own, x, rfl, hcv⟩⟩
                kernel_rfl
              · obtain ⟨own, x, e7, hcv⟩ := hP.1 (by kernel_rfl)
                simp only [putD, e7]
                go_wp2_with fail
                exact ⟨g9, RBox.refl _ _, fun _ _ h => h, ⟨own, x, rfl, hcv⟩⟩
              · obtain ⟨own, x, e7, hcv⟩ := hP.2.1 (by kernel_rfl)
                simp only [putD, e7]
                go_wp2_with fail
                exact ⟨g9, RBox.refl _ _, fun _ _ h => h, ⟨own, hcv⟩⟩
              · obtain ⟨own, x, e7, hcv⟩ := hP.2.1 (by kernel_rfl)
                simp only [putD, e7]
                go_wp2_with fail
                exact ⟨g9, RBox.refl _ _, fun _ _ h => h, (rfl : PbI er (.int .i64 er) w9 g9)⟩
              · have HN0 := Lib.hid (hN.1 rfl)
                simp only [putD]
                go_wp2_with fail
                exact PbB.made HN0.out hR.2.2.2.1
              · obtain ⟨own, hcv⟩ := hP.2.2.1 (by kernel_rfl)
                obtain ⟨b, g1, e10, hb0, hb1, hca⟩ := hP.2.2.2.2.1 (by kernel_rfl)
                have hn := hN.2 rfl
                obtain ⟨rv, e8, hir⟩ := id hcv
                obtain ⟨ra, rc, rfl⟩ := hir.shape
                have HPUT := Lib.hid (RBox.put g1 hn hca cm.p.1 cm.p.2 cm.vs cm.slots ra cm.is.length rc)
                obtain ⟨s, x, y, z, a, l, k, hob⟩ := hca
                have hq : Blk w9 (fun _ => 0) 0 b (.cells #[.string s, .int .i64 x, .int .i64 y, .int .i64 z, .slice a l k] 32 (0, 0)) := ⟨hob, rfl⟩
                have f0 := hq.free 0
                have f1 := hq.free 1
                have f2 := hq.free 2
                have f3 := hq.free 3
                have f4 := hq.free 4
                have lb' := hq.lt
                have d0 : w9.cell? ⟨b, 0, none⟩ = some (.string s) := hq.cell 0
                have d1 : w9.cell? ⟨b, 1, none⟩ = some (.int .i64 x) := hq.cell 1
                have d2 : w9.cell? ⟨b, 2, none⟩ = some (.int .i64 y) := hq.cell 2
                have d3 : w9.cell? ⟨b, 3, none⟩ = some (.int .i64 z) := hq.cell 3
                have d4 : w9.cell? ⟨b, 4, none⟩ = some (.slice a l k) := hq.cell 4
                have HCV := Lib.hid (show CdV w9 own (.agg #[.string cm.p.1, .int .i64 cm.p.2, .int .i64 cm.vs, .int .i64 cm.slots, .slice ra cm.is.length rc]) cm by rw [← e8]; exact hcv)
                simp only [putD, e8, e10]
                clear hcv hir hq hob e8 e10 hP hR HCP HF HRD HRD7 HBR7 HBLN HCM HBHR HTHR HBDR HBW3 HBW7 HB7 HBH7 HTH7 HBD7 HWN2 HRV
                simp only [putCells, Nat.reduceAdd] at HPUT
                go_wp2_with fail
                exact ⟨.int .i64 0, ⟨g9.1, true⟩, HPUT.out.1, fun i hi h => ⟨h.1, fun e => absurd e hi⟩, ⟨rfl, b, own, ra, rc, g1, HPUT.out.2, CdV.box HCV.out HPUT.out.1⟩⟩
            intro vs w10 g10 hR hP
            obtain ⟨-, -, -, h9, ⟨b, g1, e10, hb0, hb1, -⟩, ⟨hst, b2, own, ra, rc, g2, hob, hcv⟩, -⟩ := hP
            obtain rfl : b2 = b := Option.some.inj (g2.symm.trans g1)
            have h9 : vs 9 = .int .i64 er := h9
            refine plan5_after [(6, 125), (7, 118), (8, 126), (9, 127), (10, 18)] [] (by kernel_rfl) ?_
            simp only [putD, e10, h9]
            generalize vs 6 = y6
            generalize vs 7 = y7
            generalize vs 8 = y8
            have hBd : Below wd.heap.size wd w10 := hR.below (.inl rfl)
            have HBC := Lib.hid (HRD.out.trans (hBd.mono HRD.out.size))
            have HBC7 := Lib.hid (HRD7.out.trans (hBd.mono HRD7.out.size))
            have hqb : Blk w10 (fun _ => 0) 0 b2 (.cells #[.string cm.p.1, .int .i64 cm.p.2, .int .i64 cm.vs, .int .i64 cm.slots, .slice ra cm.is.length rc] 32 (0, 0)) := ⟨hob, rfl⟩
            have HQB := Lib.hid hqb
            have HCV := Lib.hid hcv
            have hi4 : i + gk = 4 := hi
            clear hi hR hBd hqb hob hcv h9 e10 g1 g2 hst hb0 hb1 HCP HF HRD HRD7 HBR7
            apply plan5_early
            case hi => rfl
            case h =>
              intro w9 hf
              clear hf
              still_step
              exact wpStill_nil rfl
            refine plan5_nil ?_
            rcases HCM.out with ⟨hok, hcm, her⟩ | ⟨hcm, her⟩
            · subst her
              have hlen := compM_len _ _ hok
              rw [← hcm, head_predN] at hlen
              have HRT := Lib.hid ((congrArg rightC hcm).trans (comp_right _ _ hok))
              have ha8 : args.length ≤ 8 := head_len8 hok
              have hdp : Tm.dp bt ≤ 100 := compOk_dp hok
              have hbl := HBLN.out hdp
              have hL : (cm.is.length : Int) = xw + (args.length : Int) + 1 := by rw [hlen]; omega
              have HGT := Lib.hid (fun (k : Nat) (hk : k < args.length) (hl : k < cm.is.length) => (show cm.is[k].op = 1 ∧ cm.is[k].a = (k : Int) + 1 from by
                subst hcm
                exact compM_gets _ _ k (by rw [head_predN]; exact hk) hl))
              have hq : ((cm.is.length : Int) != xw + (args.length : Int) + 1) = false := by rw [hL]; simp
              have HL := Lib.hid hL
              clear hlen hdp hbl hL hok hcm HCM HBLN
              have d0 := HQB.out.cell 0
              have d1 := HQB.out.cell 1
              have d2 := HQB.out.cell 2
              have d3 := HQB.out.cell 3
              have d4 := HQB.out.cell 4
              have lb' := HQB.out.lt
              simp only [List.getElem?_toArray, List.getElem?_cons_zero, List.getElem?_cons_succ] at d0 d1 d2 d3 d4
              go_wp2_with fail
              refine (Right_code cm _ own _ HCV.out (by have := HL.out; omega)).mono ?_
              rintro e w11 ⟨rfl, hB11⟩
              rw [HRT.out]
              have HB11 := Lib.hid (HBC7.out.trans (hB11.mono HBC7.out.size))
              have HQB11 := Lib.hid (Blk_same HQB.out hB11)
              have HCV11 := Lib.hid (CdV.below HCV.out hB11)
              clear hB11 d0 d1 d2 d3 d4 lb' hq HQB HCV HBC HBC7 HRT
              have hir : IRow w11 own (.slice ra cm.is.length rc) cm.is := by
                obtain ⟨rv, e, h⟩ := HCV11.out
                simp at e
                subst e
                exact h
              have HIR := Lib.hid hir
              clear hir HCV11
              go_wp2_with fail
              go_loopg [148] args.length (fun g kv wx => CoInv w11 args.length g kv wx)
              case atStart => exact ⟨0, rfl, by omega, Below.refl _ _⟩
              case round =>
                obtain ⟨k, rfl, hk9, hBx⟩ := hrel
                by_cases hkl : k < args.length
                · have hkl2 : (k : Int) < args.length := by omega
                  have hkn : k < cm.is.length := by have := HL.out; omega
                  have hqx := Blk_same HQB11.out hBx
                  obtain ⟨g, hra, hg, q0, q1, q3⟩ := (IRow.still HIR.out hBx).get2 hkn
                  subst hra
                  obtain ⟨o1, o2⟩ := HGT.out k hkl hkn
                  rw [o1] at q0
                  rw [o2] at q1
                  have d4 := hqx.cell 4
                  simp only [List.getElem?_toArray, List.getElem?_cons_zero, List.getElem?_cons_succ] at d4
                  have lb' := hqx.lt
                  have hkn2 : (k : Int) < (cm.is.length : Int) := by omega
                  have HBX := Lib.hid hBx
                  clear hqx q3 o1 o2 hBx
                  go_wp2_with fail
                  go_roundg (args.length - (k + 1))
                  case measure => omega
                  case rel => exact ⟨k + 1, by go_num, by omega, HBX.out⟩
                · obtain rfl : k = args.length := by omega
                  have HBX := Lib.hid hBx
                  clear hBx
                  go_wp2_with fail
                  go_roundg (4 - (i + 1))
                  case measure => omega
                  case rel => exact ⟨i + 1, by go_num, by omega, HB11.out.trans (HBX.out.mono HB11.out.size)⟩
            · subst her
              clear HCM HBLN HQB HCV hcm
              go_wp2_with fail
              go_ret
              exact ⟨rfl, HBW3.out.trans (HBC.out.mono HBW3.out.size)⟩
          · obtain rfl : i = 4 := by omega
            have HBR := Lib.hid (HB7.out.trans (hBr.mono HB7.out.size))
            clear hBr
            go_wp2_with fail
            go_ret
            exact ⟨rfl, HBW3.out.trans (HBR.out.mono HBW3.out.size)⟩
end Go.Proofs.Ytamiidklcadkmaa
