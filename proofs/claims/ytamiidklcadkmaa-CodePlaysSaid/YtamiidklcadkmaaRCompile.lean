/- The document's Compile. -/
import Derived.Test.YtamiidklcadkmaaRSettle
set_option maxRecDepth 20000
set_option linter.unusedVariables false
set_option linter.unusedSimpArgs false
namespace Go.Proofs.Ytamiidklcadkmaa
open Go.RowKit Go.PM
theorem TmV.lt {w : World} {C : Nat → Prop} {t : Tm} {v : Value} (h : TmV w C t v) : TmV w (fun g => g < w.heap.size) t v := h.carry (Nat.le_refl _) fun g hg _ => ⟨rfl, hg⟩
theorem RCdV.all {w : World} {C : Nat → Prop} {v : Value} {c : Cd} (h : RCdV w C v c) : RCdV w (fun _ => True) v c := by
  obtain ⟨rv, h1, h2⟩ := h
  exact ⟨rv, h1, h2.carry (Nat.le_refl _) (fun _ _ _ => rfl) fun _ _ _ => ⟨rfl, trivial⟩⟩
/-- The arguments of a term, as a slice of terms. -/
theorem args_at {w : World} {C : Nat → Prop} {t : Tm} {k : Int} {s : ByteArray} {x : Int} {sl : Value} (h : TmV w C t (.agg #[.int .i64 k, .string s, .int .i64 x, sl])) : TmV w C (.mk 0 noStr 0 t.ls) (.agg #[.int .i64 0, .string noStr, .int .i64 0, sl]) := by
  obtain ⟨_, _, _, _, _, _, h⟩ := TmV_at h
  match t, h with
  | .mk k s x ls, h =>
    refine ⟨sl, rfl, ?_, ?_, ?_, ?_⟩
    · unfold rng64; show -9223372036854775808 ≤ (0 : Int) ∧ (0 : Int) ≤ 9223372036854775807; decide
    · show noStr.size ≤ _; decide
    · unfold rng64; show -9223372036854775808 ≤ (0 : Int) ∧ (0 : Int) ≤ 9223372036854775807; decide
    · unfold Tm.At at h ⊢
      exact h
theorem no_args (w : World) (C : Nat → Prop) (a : Option Addr) (c : Nat) : TmV w C (.mk 0 noStr 0 []) (.agg #[.int .i64 0, .string noStr, .int .i64 0, .slice a 0 c]) := by
  refine ⟨_, rfl, ?_, ?_, ?_, ?_⟩
  · unfold rng64; show -9223372036854775808 ≤ (0 : Int) ∧ (0 : Int) ≤ 9223372036854775807; decide
  · show noStr.size ≤ _; decide
  · unfold rng64; show -9223372036854775808 ≤ (0 : Int) ∧ (0 : Int) ≤ 9223372036854775807; decide
  · unfold Tm.At
    exact .inl ⟨rfl, _, _, rfl⟩
/-- A block in which no int stands ahead of a string holds no term's arguments. -/
theorem at_ne {w : World} {C : Nat → Prop} {b : Nat} (hb : ∀ o k s, w.cell? ⟨b, o, none⟩ = some (.int .i64 k) → w.cell? ⟨b, o + 1, none⟩ = some (.string s) → False) : ∀ (t : Tm) (sl : Value), Tm.At w C t sl → Tm.At w (fun g => C g ∧ g ≠ b) t sl := by
  refine Tm.ind fun k s x ls ih sl ha => ?_
  unfold Tm.At at ha ⊢
  rcases ha with ha | ⟨hl, g, off, c, e, hg, hc, ht⟩
  · exact .inl ha
  · cases ls with
    | nil => exact .inl ⟨rfl, _, _, e⟩
    | cons u us =>
      refine .inr ⟨hl, g, off, c, e, hg, ⟨hc, fun e2 => ?_⟩, Tms.of_get fun i hi => ?_⟩
      · subst e2
        obtain ⟨h1, h2, _⟩ := Tms.at_get ht (i := 0) (by simp)
        exact hb _ _ _ h1 h2
      · obtain ⟨h1, h2, h3, h4, h5, h6, sl', h7, h8⟩ := Tms.at_get ht hi
        exact ⟨h1, h2, h3, h4, h5, h6, sl', h7, ih _ (List.getElem_mem hi) _ h8⟩
theorem ICells.ne {w : World} {C : Nat → Prop} {b : Nat} (hb : ∀ o k s, w.cell? ⟨b, o, none⟩ = some (.int .i64 k) → w.cell? ⟨b, o + 1, none⟩ = some (.string s) → False) : ∀ {is : List In} {xs : List Value}, ICells w C is xs → ICells w (fun g => C g ∧ g ≠ b) is xs
  | [], _, h => h
  | t :: ts, _, h => by
    unfold ICells at h ⊢
    obtain ⟨sl, xs', rfl, ⟨h1, h2, h3, h4⟩, h⟩ := h
    exact ⟨sl, xs', rfl, ⟨h1, h2, h3, at_ne hb t.t sl h4⟩, ICells.ne hb h⟩
theorem RV.ne {w : World} {C : Nat → Prop} {v : Value} {is : List In} {b : Nat} {own : Nat → Nat} {J : Nat} {T : TypeId} {s : ByteArray} {x y z : Int} {sl : Value} (hq : Blk w own J b (.cells #[.string s, .int .i64 x, .int .i64 y, .int .i64 z, sl] T (0, 0))) (hs : ∀ s, sl ≠ .string s) (h : RV w C v is) : RV w (fun g => C g ∧ g ≠ b) v is := by
  obtain ⟨a, c, rfl, h⟩ := h
  refine ⟨a, c, rfl, fun h0 => ?_⟩
  obtain ⟨g, cur, xs, h1, h2, h4, h5⟩ := h h0
  refine ⟨g, cur, xs, h1, h2, h4, ICells.ne (fun o k st e1 e2 => ?_) h5⟩
  rw [hq.cell] at e1 e2
  match o, e1, e2 with
  | 0, e1, _ => simp at e1
  | 1, _, e2 => simp at e2
  | 2, _, e2 => simp at e2
  | 3, _, e2 => simp at e2; exact hs _ e2
  | 4, _, e2 => simp at e2
  | o + 5, e1, _ => simp at e1
theorem FactsB.put {w : World} {b : Nat} (vs : List Value) : ∀ {L : List (Addr × Value)}, FactsB L w → (∀ p ∈ L, p.1.block ≠ b) → FactsB L (putCells w b 0 vs)
  | [], _, _ => trivial
  | p :: L, h, hn => by
    refine ⟨⟨?_, by rw [put_size]; exact h.1.2⟩, FactsB.put vs h.2 fun q hq => hn q (List.mem_cons_of_mem _ hq)⟩
    rw [← h.1.1]
    unfold World.cell?
    rw [put_block (hn p (List.mem_cons_self ..)) vs 0]
def RkPost (w : World) (c : Cd) (ok : Bool) (e : Ending) (w' : World) : Prop := ∃ v, e = .returned (.tuple #[v, .bool ok]) ∧ RCdV w' (fun _ => True) v c ∧ Below w.heap.size w w'
theorem rCdV_zero (w : World) : RCdV w (fun _ => True) (.agg #[.string noStr, .int .i64 0, .int .i64 0, .int .i64 0, .slice none 0 0]) zeroCd := ⟨_, rfl, RV.nil _ _⟩
set_option maxHeartbeats 8000000 in
theorem rCompile_any (h b : Tm) (w : World) (C : Nat → Prop) (k1 : Int) (s1 : ByteArray) (x1 : Int) (a1 : Option Addr) (l1 c1 : Nat) (k2 : Int) (s2 : ByteArray) (x2 : Int) (a2 : Option Addr) (l2 c2 : Nat)
    (hh : TmV w C h (.agg #[.int .i64 k1, .string s1, .int .i64 x1, .slice a1 l1 c1])) (hb : TmV w C b (.agg #[.int .i64 k2, .string s2, .int .i64 x2, .slice a2 l2 c2])) :
    Calls Try.prog 9 #[.agg #[.int .i64 k1, .string s1, .int .i64 x1, .slice a1 l1 c1, .int .i64 k2, .string s2, .int .i64 x2, .slice a2 l2 c2]] w (RkPost w (bif compOk h b then compM h b else zeroCd) (compOk h b)) := by
  obtain ⟨hb0, hb1, hB0, hz0⟩ := two_new w (.cells #[.int .i64 k1, .string s1, .int .i64 x1, .slice a1 l1 c1, .int .i64 k2, .string s2, .int .i64 x2, .slice a2 l2 c2] 26) (.cells #[.string ⟨#[]⟩, .int .i64 0, .int .i64 0, .int .i64 0, .slice none 0 0] 38)
  have H0 := Lib.hid hb0
  have H1 := Lib.hid hb1
  have HB0 := Lib.hid hB0
  have HS := Lib.hid (fun w2 (hB : Below w.heap.size w w2) => (show Calls Try.prog 29 #[.agg #[.int .i64 k1, .string s1, .int .i64 x1, .slice a1 l1 c1, .int .i64 k2, .string s2, .int .i64 x2, .slice a2 l2 c2]] w2 (fun e w' => e = .returned (.bool (compOk h b)) ∧ Below w2.heap.size w2 w') by
    have := Sound_any h b w2 C _ _ _ _ _ _ _ _ _ _ _ _ (TmV.below hh hB) (TmV.below hb hB)
    rwa [soundM_eq] at this))
  have HOF := Lib.hid (fun w2 (hB : Below w.heap.size w w2) => rOf_any h w2 C _ (TmV.below hh hB))
  have HWH := Lib.hid (fun w2 (hB : Below w.heap.size w w2) => Whole_any h b w2 C _ _ _ _ _ _ _ _ _ _ _ _ (TmV.below hh hB) (TmV.below hb hB))
  clear hb0 hb1 hB0 hh hb
  cases hok : compOk h b
  · rw [hok] at HS
    clear HOF HWH hok hz0
    go_enter Try.func9, Try.ntmps9
    go_wp2_with fail
    refine (HS.out _ HB0.out).mono ?_
    rintro e w2 ⟨rfl, hB2⟩
    have hb1 := Blk_same H1.out hB2
    have H12 := Lib.hid hb1
    have HB2 := Lib.hid (HB0.out.trans (hB2.mono HB0.out.size))
    have f0 := hb1.free 0
    have f1 := hb1.free 1
    have f2 := hb1.free 2
    have f3 := hb1.free 3
    have f4 := hb1.free 4
    have l1' := hb1.lt
    have d0 : w2.cell? ⟨w.heap.size + 1, 0, none⟩ = some (.string noStr) := hb1.cell 0
    have d1 : w2.cell? ⟨w.heap.size + 1, 1, none⟩ = some (.int .i64 0) := hb1.cell 1
    have d2 : w2.cell? ⟨w.heap.size + 1, 2, none⟩ = some (.int .i64 0) := hb1.cell 2
    have d3 : w2.cell? ⟨w.heap.size + 1, 3, none⟩ = some (.int .i64 0) := hb1.cell 3
    have d4 : w2.cell? ⟨w.heap.size + 1, 4, none⟩ = some (.slice none 0 0) := hb1.cell 4
    clear hb1 hB2 H1 H0 HB0 HS
    go_wp2_with fail
    have hend := Blk.putCells (cs := [.string ⟨#[]⟩, .int .i64 0, .int .i64 0, .int .i64 0, .slice none 0 0]) (vs := [.string ⟨#[]⟩, .int .i64 0, .int .i64 0, .int .i64 0, .slice none 0 0]) H12.out rfl
    have hbel := below_put HB2.out (b := w.heap.size + 1) (by omega) [.string ⟨#[]⟩, .int .i64 0, .int .i64 0, .int .i64 0, .slice none 0 0]
    simp only [putCells, Nat.reduceAdd] at hend hbel
    ((try simp only [Exit.inBlock, Exit.then]); refine bodyPost_ret (results_ct rfl _ _ ((w.heap.size + 1)) 38 _ _ _ rfl (hend.at_) Try.underlying38 rfl (by kernel_rfl)) rfl ?_)
    exact ⟨_, rfl, rCdV_zero _, hbel⟩
  · have hok0 := hok
    have hwr : Tm.rightN (whole h b) = true := by
      unfold compOk at hok
      rw [Bool.and_eq_true] at hok
      exact hok.1
    rw [hok] at HS
    have HRN := Lib.hid (fun w2 v2 (hv : TmV w2 (fun _ => True) (whole h b) v2) => (show Calls Try.prog 22 #[v2, .int .i64 1] w2 (TmRet w2 (whole (Tm.ren (clM h b) h) (Tm.ren (clM h b) b)) [.int .i64 (1 + (Tm.vars (whole h b) []).length)]) from rRename_right (whole h b) w2 _ v2 1 hv hwr (by decide) (by decide)))
    have HCM := Lib.hid (show compM h b = codeOf (Tm.ren (clM h b) h).ls (Tm.ren (clM h b) b) (Tm.predS h, (Tm.predN h : Int)) ((Tm.vars (whole h b) []).length : Nat) from rfl)
    obtain ⟨q1, q2, q3, q4⟩ := (rightN_whole h b).1 hwr
    have hsz : Tm.sz (Tm.ren (clM h b) b) ≤ 2000 := by rw [ren_sz]; have := sz_pos h; omega
    have hdp : Tm.dp (Tm.ren (clM h b) b) ≤ 100 := by rw [ren_dp]; have := dp_pos h; omega
    have hvl : (Tm.vars (whole h b) []).length ≤ 100000 := by
      have h1 := vars_len (whole h b) []
      have h2 := sz_right hwr
      simp only [List.length_nil] at h1
      omega
    have hll : (Tm.ren (clM h b) h).ls.length ≤ 10000 := by have := ren_len8 (clM h b) h q3; omega
    have HLS := Lib.hid (fun (hk : ¬ (Tm.ren (clM h b) h).k = 4) => (show (Tm.ren (clM h b) h).ls = [] by
      rw [ren_ls]
      rw [ren_k] at hk
      rw [if_neg hk]))
    clear hok hok0 hwr q1 q2 q3 q4 hz0
    simp only [cond_true]
    generalize compM h b = cm at *
    generalize whole h b = wh at *
    generalize Tm.ren (clM h b) h = h' at *
    generalize Tm.ren (clM h b) b = b' at *
    generalize (Tm.vars wh []).length = vn at *
    generalize Tm.predS h = ps at *
    generalize Tm.predN h = pn at *
    generalize Tm.isHead h = ih at *
    go_enter Try.func9, Try.ntmps9
    go_wp2_with fail
    refine (HS.out _ HB0.out).mono ?_
    rintro e w2 ⟨rfl, hB2⟩
    have h0 := Blk_same H0.out hB2
    have H02 := Lib.hid h0
    have H12 := Lib.hid (Blk_same H1.out hB2)
    have HB2 := Lib.hid (HB0.out.trans (hB2.mono HB0.out.size))
    have z0 : w2.cell? ⟨w.heap.size, 0, none⟩ = some (.int .i64 k1) := h0.cell 0
    have z1 : w2.cell? ⟨w.heap.size, 1, none⟩ = some (.string s1) := h0.cell 1
    have z2 : w2.cell? ⟨w.heap.size, 2, none⟩ = some (.int .i64 x1) := h0.cell 2
    have z3 : w2.cell? ⟨w.heap.size, 3, none⟩ = some (.slice a1 l1 c1) := h0.cell 3
    have lz := h0.lt
    clear h0 hB2 H0 H1 HB0 HS
    go_wp2_with fail
    refine (HOF.out _ HB2.out).mono ?_
    rintro e w3 ⟨rfl, hB3⟩
    have hal : Below w3.heap.size w3 (w3.alloc (.cells #[.string ps, .int .i64 pn] 29)) := (Below.refl _ _).alloc (Nat.le_refl _) _
    have HRES := Lib.hid (Blk_same H12.out hB3).lt
    have hB13 := HB2.out.trans (hB3.mono HB2.out.size)
    have h0 := Blk_same H02.out hB3
    have H03 := Lib.hid (Blk_same h0 hal)
    have H13 := Lib.hid (Blk_same (Blk_same H12.out hB3) hal)
    have HB3 := Lib.hid (hB13.trans (hal.mono hB13.size))
    have HP3 := Lib.hid (Blk.new (own := fun _ => 0) (k := 0) w3 (.cells #[.string ps, .int .i64 pn] 29) rfl)
    clear z0 z1 z2 z3 lz
    have z0 : w3.cell? ⟨w.heap.size, 0, none⟩ = some (.int .i64 k1) := h0.cell 0
    have z1 : w3.cell? ⟨w.heap.size, 1, none⟩ = some (.string s1) := h0.cell 1
    have z2 : w3.cell? ⟨w.heap.size, 2, none⟩ = some (.int .i64 x1) := h0.cell 2
    have z3 : w3.cell? ⟨w.heap.size, 3, none⟩ = some (.slice a1 l1 c1) := h0.cell 3
    have z4 : w3.cell? ⟨w.heap.size, 4, none⟩ = some (.int .i64 k2) := h0.cell 4
    have z5 : w3.cell? ⟨w.heap.size, 5, none⟩ = some (.string s2) := h0.cell 5
    have z6 : w3.cell? ⟨w.heap.size, 6, none⟩ = some (.int .i64 x2) := h0.cell 6
    have z7 : w3.cell? ⟨w.heap.size, 7, none⟩ = some (.slice a2 l2 c2) := h0.cell 7
    have lz := h0.lt
    clear h0 hal hB13 hB3 H02 H12 HB2 HOF
    go_wp2_with fail
    have hbp : w.heap.size + 1 < w3.heap.size := by
      have h1 := H13.out.lt
      rw [World.size_alloc] at h1
      have h2 := HP3.out.lt
      have h3 := HRES.out
      omega
    generalize w3.heap.size = bp at *
    refine (HWH.out _ HB3.out).mono ?_
    rintro e w4 ⟨v4, rfl, hv4, hB4⟩
    have H14 := Lib.hid (Blk_same H13.out hB4)
    have HP4 := Lib.hid (Blk_same HP3.out hB4)
    have HB4 := Lib.hid (HB3.out.trans (hB4.mono HB3.out.size))
    have HRN4 := Lib.hid (HRN.out w4 v4 hv4)
    clear z0 z1 z2 z3 z4 z5 z6 z7 lz hv4 hB4 H03 H13 HP3 HB3 HWH HRN
    go_wp2_with fail
    refine HRN4.out.mono ?_
    rintro e w5 ⟨v5, rfl, hv5, hB5⟩
    obtain ⟨a3, l3, c3, rfl, -, -, -, hat3⟩ := TmV_open hv5
    obtain rfl : l3 = 2 := (at_len hat3).1
    have hkw : Tm.k (whole h' b') = 4 := rfl
    have hsw : Tm.s (whole h' b') = colonS := rfl
    have hxw : Tm.x (whole h' b') = 0 := rfl
    rw [hkw, hsw, hxw]
    have hgx := arg_cells hv5 (by show 0 < 2; omega)
    obtain ⟨g, off, rfl, hg, hargs⟩ := args_all hv5 (by show 0 < 2; omega)
    obtain ⟨a5, l5, c5, hA0⟩ := hargs 0 (by show 0 < 2; omega)
    obtain ⟨a6, l6, c6, hA1⟩ := hargs 1 (by show 1 < 2; omega)
    obtain ⟨g0, off0, he0, -, hgc, -⟩ := hgx
    injection he0 with he0
    injection he0 with he0 he1
    subst he0
    subst he1
    have hgc : w4.heap.size ≤ g := hgc
    have hgne : g ≠ w.heap.size + 1 := by have := H14.out.lt; omega
    have e0 : targ (whole h' b') 0 = h' := rfl
    have e1 : targ (whole h' b') 1 = b' := rfl
    rw [e0] at hA0
    rw [e1] at hA1
    simp only [Nat.zero_mul, Nat.one_mul, Nat.add_zero] at hA0 hA1
    have HA0 := Lib.hid hA0
    have HA1 := Lib.hid hA1
    have H15 := Lib.hid (Blk_same H14.out hB5)
    have HP5 := Lib.hid (Blk_same HP4.out hB5)
    have HB5 := Lib.hid (HB4.out.trans (hB5.mono HB4.out.size))
    have hsub : (1 : Int) + (vn : Int) - 1 = vn := by omega
    obtain ⟨x0, x1', x2', x3, -⟩ := hA0 w5 (Below.refl _ _)
    clear hv5 hB5 hat3 hkw hsw hxw hargs hA0 hA1 e0 e1 H14 HP4 HB4 HRN4
    have hgz : g < w5.heap.size + 1 := by omega
    by_cases hk4 : h'.k = 4
    · have hk4b : (h'.k == 4) = true := by simp [hk4]
      have HCMM := HCM
      clear HLS hk4 HCM
      go_wp2_with fail
      have hal : Below w5.heap.size w5 (w5.alloc (.cells #[.int .i64 4, .string colonS, .int .i64 0, .slice (some ⟨g, off, none⟩) 2 c3] 24)) := (Below.refl _ _).alloc (Nat.le_refl _) _
      have hal2 : Below w5.heap.size w5 ((w5.alloc (.cells #[.int .i64 4, .string colonS, .int .i64 0, .slice (some ⟨g, off, none⟩) 2 c3] 24)).alloc (.cells #[] 24)) := hal.alloc hal.size _
      have HT5 := Lib.hid (Blk_same (Blk.new (own := fun _ => 0) (k := 0) w5 (.cells #[.int .i64 4, .string colonS, .int .i64 0, .slice (some ⟨g, off, none⟩) 2 c3] 24) rfl) ((Below.refl _ _).alloc (Nat.le_refl _) (.cells #[] 24)))
      have H16 := Lib.hid (Blk_same H15.out hal2)
      have HP6 := Lib.hid (Blk_same HP5.out hal2)
      have HB6 := Lib.hid (HB5.out.trans (hal2.mono HB5.out.size))
      have ha0 := HA0.out _ hal2
      have ha1 := HA1.out _ hal2
      have hg6 : g < ((w5.alloc (.cells #[.int .i64 4, .string colonS, .int .i64 0, .slice (some ⟨g, off, none⟩) 2 c3] 24)).alloc (.cells #[] 24)).heap.size := by rw [World.size_alloc, World.size_alloc]; omega
      have hbt : w.heap.size + 1 < w5.heap.size := H15.out.lt
      clear hal hal2 H15 HP5 HB5 HA0 HA1 x0 x1' x2' x3 hgz hg
      generalize ((w5.alloc (.cells #[.int .i64 4, .string colonS, .int .i64 0, .slice (some ⟨g, off, none⟩) 2 c3] 24)).alloc (.cells #[] 24)) = w6 at *
      generalize w5.heap.size = bt at *
      obtain ⟨y0, y1, y2, y3, hty⟩ := ha1
      have hp := HP6.out
      have ht := HT5.out
      have HF : Hid (FactsB [(⟨bp, 0, none⟩, .string ps), (⟨bp, 1, none⟩, .int .i64 pn), (⟨bt, 3, none⟩, .slice (some ⟨g, off, none⟩) 2 c3), (⟨g, off + 4, none⟩, .int .i64 b'.k), (⟨g, off + 4 + 1, none⟩, .string b'.s), (⟨g, off + 4 + 2, none⟩, .int .i64 b'.x), (⟨g, off + 4 + 3, none⟩, .slice a6 l6 c6)] w6.drew) := Lib.hid ⟨⟨hp.cell 0, hp.lt⟩, ⟨hp.cell 1, hp.lt⟩, ⟨ht.cell 3, ht.lt⟩, ⟨y0, hg6⟩, ⟨y1, hg6⟩, ⟨y2, hg6⟩, ⟨y3, hg6⟩, trivial⟩
      have HNE := Lib.hid (show ∀ p ∈ [((⟨bp, 0, none⟩ : Addr), Value.string ps), (⟨bp, 1, none⟩, .int .i64 pn), (⟨bt, 3, none⟩, .slice (some ⟨g, off, none⟩) 2 c3), (⟨g, off + 4, none⟩, .int .i64 b'.k), (⟨g, off + 4 + 1, none⟩, .string b'.s), (⟨g, off + 4 + 2, none⟩, .int .i64 b'.x), (⟨g, off + 4 + 3, none⟩, .slice a6 l6 c6)], p.1.block ≠ w.heap.size + 1 from fun p hp => by
        simp only [List.mem_cons, List.not_mem_nil, or_false] at hp
        rcases hp with rfl | rfl | rfl | rfl | rfl | rfl | rfl <;> first | exact hgne | (show _ ≠ _; intro e; dsimp only at e; omega))
      have HTB := Lib.hid (hty.carry (w' := w6.drew) (C' := fun g => g < w6.drew.heap.size) (Nat.le_refl _) fun g hg _ => ⟨rfl, hg⟩)
      have HTH := Lib.hid ((args_at ha0.2.2.2.2).carry (w' := w6.drew) (C' := fun g => g < w6.drew.heap.size) (Nat.le_refl _) fun g hg _ => ⟨rfl, hg⟩)
      have HST := Lib.hid (settle_any h'.ls b' (ps, (pn : Int)) vn w6.drew.heap.size w6.drew _ _ _ _ _ _ _ _ _ (Nat.le_refl _) HTH.out HTB.out (by exact hll) hsz hdp)
      have HBD := Lib.hid HB6.out.drew
      have H1D := Lib.hid H16.out.drew
      clear y0 y1 y2 y3 hp ht hty ha0 HTH HTB HB6 H16 HT5 HP6 hg6 hbp hgne hbt hgc
      refine wp_region_plan5 [.early 0 [8, 9, 10], .early 1 [2, 8, 9, 10], .early 2 [8, 9, 10], .early 3 [8, 9, 10], .early 4 [5, 6, 7, 8, 9, 10], .early 5 [6, 7, 8, 9, 10], .early 6 [7, 8, 9, 10], .early 7 [8, 9, 10], .big 8, .big 9, .early 10 []] 11 (Facts _) (by kernel_rfl) (by kernel_rfl) (fun _ _ _ d _ h => by cases d <;> exact h) (FactsB.facts HF.out) ?_
      generalize w6.drew = wd at *
      iterate 8
        apply plan5_early
        case hi => rfl
        case h =>
          intro w9 hf
          simp only [Facts] at hf
          obtain ⟨z0, z1, z2, z3, z4, z5, z6, _⟩ := hf
          still_step
          exact wpStill_nil rfl
      refine plan5_big rfl ?_
      go_wp2_with fail
      refine HST.out.mono ?_
      rintro e w7 ⟨v7, rfl, hcv, hB⟩
      rw [← HCMM.out] at hcv
      have HF7 := Lib.hid (FactsB.below hB HF.out)
      have hb1 := Blk_same H1D.out hB
      have H17 := Lib.hid hb1
      have HB7 := Lib.hid (HBD.out.trans (hB.mono HBD.out.size))
      have hbn : ¬ w.heap.size + 1 < 0 := by omega
      obtain ⟨rv, rfl, hrv⟩ := hcv
      have HRV := Lib.hid (RV.ne hb1 (fun s e => by cases e) hrv)
      obtain ⟨ra, rc, rfl⟩ := hrv.shape
      have f0 := hb1.free 0
      have f1 := hb1.free 1
      have f2 := hb1.free 2
      have f3 := hb1.free 3
      have f4 := hb1.free 4
      have l1' := hb1.lt
      have d0 : w7.cell? ⟨w.heap.size + 1, 0, none⟩ = some (.string noStr) := hb1.cell 0
      have d1 : w7.cell? ⟨w.heap.size + 1, 1, none⟩ = some (.int .i64 0) := hb1.cell 1
      have d2 : w7.cell? ⟨w.heap.size + 1, 2, none⟩ = some (.int .i64 0) := hb1.cell 2
      have d3 : w7.cell? ⟨w.heap.size + 1, 3, none⟩ = some (.int .i64 0) := hb1.cell 3
      have d4 : w7.cell? ⟨w.heap.size + 1, 4, none⟩ = some (.slice none 0 0) := hb1.cell 4
      clear hb1 hB hrv H1D HBD HF HST
      go_wp2_with fail
      refine ⟨fun _ => FactsB.facts HF7.out, ?_⟩
      generalize hcl : cm.is.length = cl at *
      clear hcl
      have HF8 := Lib.hid (FactsB.put [.string cm.p.1, .int .i64 cm.p.2, .int .i64 cm.vs, .int .i64 cm.slots, .slice ra cl rc] HF7.out HNE.out)
      have HEND := Lib.hid (Blk.putCells (cs := [.string ⟨#[]⟩, .int .i64 0, .int .i64 0, .int .i64 0, .slice none 0 0]) (vs := [.string cm.p.1, .int .i64 cm.p.2, .int .i64 cm.vs, .int .i64 cm.slots, .slice ra cl rc]) H17.out rfl)
      have HBEL := Lib.hid (below_put HB7.out (b := w.heap.size + 1) (by omega) [.string cm.p.1, .int .i64 cm.p.2, .int .i64 cm.vs, .int .i64 cm.slots, .slice ra cl rc])
      have HRV8 := Lib.hid (HRV.out.put (b := w.heap.size + 1) H17.out (by decide) (fun h => h.2 rfl) [.string cm.p.1, .int .i64 cm.p.2, .int .i64 cm.vs, .int .i64 cm.slots, .slice ra cl rc])
      simp only [putCells, Nat.reduceAdd] at HF8 HEND HBEL HRV8
      refine plan5_big rfl ?_
      go_wp2_with fail
      refine ⟨fun _ => FactsB.facts HF8.out, ?_⟩
      apply plan5_early
      case hi => rfl
      case h =>
        intro w9 hf
        clear hf
        still_step
        exact wpStill_nil rfl
      refine plan5_nil ?_
      go_wp2_with fail
      ((try simp only [Exit.inBlock, Exit.then]); refine bodyPost_ret (results_ct rfl _ _ ((w.heap.size + 1)) 38 _ _ _ rfl (HEND.out.at_) Try.underlying38 rfl (by kernel_rfl)) rfl ?_)
      exact ⟨_, rfl, RCdV.all ⟨_, rfl, HRV8.out⟩, HBEL.out⟩
    · have hk4b : (h'.k == 4) = false := by simp [hk4]
      have hls := HLS.out hk4
      have HCMM := Lib.hid (show cm = codeOf [] b' (ps, (pn : Int)) (vn : Int) by rw [HCM.out, hls])
      clear HLS hk4 hls HCM hll
      go_wp2_with fail
      have hal : Below w5.heap.size w5 (w5.alloc (.cells #[.int .i64 4, .string colonS, .int .i64 0, .slice (some ⟨g, off, none⟩) 2 c3] 24)) := (Below.refl _ _).alloc (Nat.le_refl _) _
      have hal2 : Below w5.heap.size w5 ((w5.alloc (.cells #[.int .i64 4, .string colonS, .int .i64 0, .slice (some ⟨g, off, none⟩) 2 c3] 24)).alloc (.cells #[] 24)) := hal.alloc hal.size _
      have HT5 := Lib.hid (Blk_same (Blk.new (own := fun _ => 0) (k := 0) w5 (.cells #[.int .i64 4, .string colonS, .int .i64 0, .slice (some ⟨g, off, none⟩) 2 c3] 24) rfl) ((Below.refl _ _).alloc (Nat.le_refl _) (.cells #[] 24)))
      have H16 := Lib.hid (Blk_same H15.out hal2)
      have HP6 := Lib.hid (Blk_same HP5.out hal2)
      have HB6 := Lib.hid (HB5.out.trans (hal2.mono HB5.out.size))
      have ha0 := HA0.out _ hal2
      have ha1 := HA1.out _ hal2
      have hg6 : g < ((w5.alloc (.cells #[.int .i64 4, .string colonS, .int .i64 0, .slice (some ⟨g, off, none⟩) 2 c3] 24)).alloc (.cells #[] 24)).heap.size := by rw [World.size_alloc, World.size_alloc]; omega
      have hbt : w.heap.size + 1 < w5.heap.size := H15.out.lt
      clear hal hal2 H15 HP5 HB5 HA0 HA1 x0 x1' x2' x3 hgz hg
      generalize ((w5.alloc (.cells #[.int .i64 4, .string colonS, .int .i64 0, .slice (some ⟨g, off, none⟩) 2 c3] 24)).alloc (.cells #[] 24)) = w6 at *
      generalize w5.heap.size = bt at *
      obtain ⟨y0, y1, y2, y3, hty⟩ := ha1
      have hp := HP6.out
      have ht := HT5.out
      have HF : Hid (FactsB [(⟨bp, 0, none⟩, .string ps), (⟨bp, 1, none⟩, .int .i64 pn), (⟨bt, 3, none⟩, .slice (some ⟨g, off, none⟩) 2 c3), (⟨g, off + 4, none⟩, .int .i64 b'.k), (⟨g, off + 4 + 1, none⟩, .string b'.s), (⟨g, off + 4 + 2, none⟩, .int .i64 b'.x), (⟨g, off + 4 + 3, none⟩, .slice a6 l6 c6)] w6.drew) := Lib.hid ⟨⟨hp.cell 0, hp.lt⟩, ⟨hp.cell 1, hp.lt⟩, ⟨ht.cell 3, ht.lt⟩, ⟨y0, hg6⟩, ⟨y1, hg6⟩, ⟨y2, hg6⟩, ⟨y3, hg6⟩, trivial⟩
      have HNE := Lib.hid (show ∀ p ∈ [((⟨bp, 0, none⟩ : Addr), Value.string ps), (⟨bp, 1, none⟩, .int .i64 pn), (⟨bt, 3, none⟩, .slice (some ⟨g, off, none⟩) 2 c3), (⟨g, off + 4, none⟩, .int .i64 b'.k), (⟨g, off + 4 + 1, none⟩, .string b'.s), (⟨g, off + 4 + 2, none⟩, .int .i64 b'.x), (⟨g, off + 4 + 3, none⟩, .slice a6 l6 c6)], p.1.block ≠ w.heap.size + 1 from fun p hp => by
        simp only [List.mem_cons, List.not_mem_nil, or_false] at hp
        rcases hp with rfl | rfl | rfl | rfl | rfl | rfl | rfl <;> first | exact hgne | (show _ ≠ _; intro e; dsimp only at e; omega))
      have HTB := Lib.hid (hty.carry (w' := w6.drew) (C' := fun g => g < w6.drew.heap.size) (Nat.le_refl _) fun g hg _ => ⟨rfl, hg⟩)
      have HTH := Lib.hid (no_args w6.drew (fun g => g < w6.drew.heap.size) (some ⟨bt + 1, 0, none⟩) 0)
      have HST := Lib.hid (settle_any [] b' (ps, (pn : Int)) vn w6.drew.heap.size w6.drew _ _ _ _ _ _ _ _ _ (Nat.le_refl _) HTH.out HTB.out (by decide) hsz hdp)
      have HBD := Lib.hid HB6.out.drew
      have H1D := Lib.hid H16.out.drew
      clear y0 y1 y2 y3 hp ht hty ha0 HTH HTB HB6 H16 HT5 HP6 hg6 hbp hgne hbt hgc
      refine wp_region_plan5 [.early 0 [8, 9, 10], .early 1 [2, 8, 9, 10], .early 2 [8, 9, 10], .early 3 [8, 9, 10], .early 4 [5, 6, 7, 8, 9, 10], .early 5 [6, 7, 8, 9, 10], .early 6 [7, 8, 9, 10], .early 7 [8, 9, 10], .big 8, .big 9, .early 10 []] 11 (Facts _) (by kernel_rfl) (by kernel_rfl) (fun _ _ _ d _ h => by cases d <;> exact h) (FactsB.facts HF.out) ?_
      generalize w6.drew = wd at *
      iterate 8
        apply plan5_early
        case hi => rfl
        case h =>
          intro w9 hf
          simp only [Facts] at hf
          obtain ⟨z0, z1, z2, z3, z4, z5, z6, _⟩ := hf
          still_step
          exact wpStill_nil rfl
      refine plan5_big rfl ?_
      go_wp2_with fail
      refine HST.out.mono ?_
      rintro e w7 ⟨v7, rfl, hcv, hB⟩
      rw [← HCMM.out] at hcv
      have HF7 := Lib.hid (FactsB.below hB HF.out)
      have hb1 := Blk_same H1D.out hB
      have H17 := Lib.hid hb1
      have HB7 := Lib.hid (HBD.out.trans (hB.mono HBD.out.size))
      have hbn : ¬ w.heap.size + 1 < 0 := by omega
      obtain ⟨rv, rfl, hrv⟩ := hcv
      have HRV := Lib.hid (RV.ne hb1 (fun s e => by cases e) hrv)
      obtain ⟨ra, rc, rfl⟩ := hrv.shape
      have f0 := hb1.free 0
      have f1 := hb1.free 1
      have f2 := hb1.free 2
      have f3 := hb1.free 3
      have f4 := hb1.free 4
      have l1' := hb1.lt
      have d0 : w7.cell? ⟨w.heap.size + 1, 0, none⟩ = some (.string noStr) := hb1.cell 0
      have d1 : w7.cell? ⟨w.heap.size + 1, 1, none⟩ = some (.int .i64 0) := hb1.cell 1
      have d2 : w7.cell? ⟨w.heap.size + 1, 2, none⟩ = some (.int .i64 0) := hb1.cell 2
      have d3 : w7.cell? ⟨w.heap.size + 1, 3, none⟩ = some (.int .i64 0) := hb1.cell 3
      have d4 : w7.cell? ⟨w.heap.size + 1, 4, none⟩ = some (.slice none 0 0) := hb1.cell 4
      clear hb1 hB hrv H1D HBD HF HST
      go_wp2_with fail
      refine ⟨fun _ => FactsB.facts HF7.out, ?_⟩
      generalize hcl : cm.is.length = cl at *
      clear hcl
      have HF8 := Lib.hid (FactsB.put [.string cm.p.1, .int .i64 cm.p.2, .int .i64 cm.vs, .int .i64 cm.slots, .slice ra cl rc] HF7.out HNE.out)
      have HEND := Lib.hid (Blk.putCells (cs := [.string ⟨#[]⟩, .int .i64 0, .int .i64 0, .int .i64 0, .slice none 0 0]) (vs := [.string cm.p.1, .int .i64 cm.p.2, .int .i64 cm.vs, .int .i64 cm.slots, .slice ra cl rc]) H17.out rfl)
      have HBEL := Lib.hid (below_put HB7.out (b := w.heap.size + 1) (by omega) [.string cm.p.1, .int .i64 cm.p.2, .int .i64 cm.vs, .int .i64 cm.slots, .slice ra cl rc])
      have HRV8 := Lib.hid (HRV.out.put (b := w.heap.size + 1) H17.out (by decide) (fun h => h.2 rfl) [.string cm.p.1, .int .i64 cm.p.2, .int .i64 cm.vs, .int .i64 cm.slots, .slice ra cl rc])
      simp only [putCells, Nat.reduceAdd] at HF8 HEND HBEL HRV8
      refine plan5_big rfl ?_
      go_wp2_with fail
      refine ⟨fun _ => FactsB.facts HF8.out, ?_⟩
      apply plan5_early
      case hi => rfl
      case h =>
        intro w9 hf
        clear hf
        still_step
        exact wpStill_nil rfl
      refine plan5_nil ?_
      go_wp2_with fail
      ((try simp only [Exit.inBlock, Exit.then]); refine bodyPost_ret (results_ct rfl _ _ ((w.heap.size + 1)) 38 _ _ _ rfl (HEND.out.at_) Try.underlying38 rfl (by kernel_rfl)) rfl ?_)
      exact ⟨_, rfl, RCdV.all ⟨_, rfl, HRV8.out⟩, HBEL.out⟩
end Go.Proofs.Ytamiidklcadkmaa
