/- The document's settle: a head's instructions, a body's, and Done. -/
import Derived.Test.YtamiidklcadkmaaRBodyAll
set_option maxRecDepth 20000
set_option linter.unusedVariables false
set_option linter.unusedSimpArgs false
namespace Go.Proofs.Ytamiidklcadkmaa
open Go.RowKit Go.PM
/-- v is this code, as the document has it. -/
def RCdV (w : World) (C : Nat → Prop) (v : Value) (c : Cd) : Prop := ∃ rv, v = .agg #[.string c.p.1, .int .i64 c.p.2, .int .i64 c.vs, .int .i64 c.slots, rv] ∧ RV w C rv c.is
theorem RCdV.below {w w' : World} {C : Nat → Prop} {v : Value} {c : Cd} (h : RCdV w C v c) (e : Below w.heap.size w w') : RCdV w' C v c := by
  obtain ⟨rv, h1, h2⟩ := h
  exact ⟨rv, h1, h2.below e⟩
def RcRet (n0 : Nat) (w : World) (c : Cd) (e : Ending) (w' : World) : Prop := ∃ v, e = .returned v ∧ RCdV w' (fun g => g < n0) v c ∧ Below w.heap.size w w'
theorem place_snoc (xs : List In) (x : In) (n : Nat) : place n (xs ++ [x]) = place n xs ++ [if x.op = 4 ∨ x.op = 5 then { x with a := x.a + ((n + xs.length : Nat) : Int) } else x] := by
  rw [place_append]
  rfl
theorem place_gets : ∀ (ts : List Tm) (m : Int) (n : Nat), place n (getsOf ts m) = getsOf ts m
  | [], _, _ => rfl
  | t :: ts, m, n => by
    rw [getsOf, place, place_gets ts (m + 1) (n + 1)]
    rfl
theorem place_all (hs : List Tm) (q : List In) : place 0 (getsOf hs 1 ++ (q ++ [In0 9 0])) = getsOf hs 1 ++ place hs.length q ++ [In0 9 0] := by
  rw [place_append, place_append, place_gets, getsOf_len, Nat.zero_add, List.append_assoc]
  rfl
theorem RRow.same {w w' : World} {own own' : Nat → Nat} {C : Nat → Prop} {v : Value} {is : List In} (h : RRow w own C v is) (e : Ext (fun _ => False) w w' own own') : RRow w' own' C v is := by
  obtain ⟨xs, h1, h2⟩ := h
  refine ⟨xs, h1.ext e id, h2.carry e.size fun g hg hc => ⟨e.same g hg id, ?_⟩⟩
  show own' g ≠ 2 ∧ C g
  rw [e.col g hg]; exact hc
def S1Inv (C : Nat → Prop) (w1 : World) (own1 : Nat → Nat) (hs : List Tm) (g : Nat) (ov iv : Value) (w : World) : Prop :=
  ∃ (own : Nat → Nat) (i : Nat), iv = .int .i64 i ∧ i + g = hs.length ∧ RRow w own C ov (getsOf (hs.take i) 1) ∧ Ext (fun c => c = 2) w1 w own1 own
def S2Inv (C : Nat → Prop) (w1 : World) (own1 : Nat → Nat) (all : List In) (g : Nat) (ov iv : Value) (w : World) : Prop :=
  ∃ (own : Nat → Nat) (i : Nat), iv = .int .i64 i ∧ i + g = all.length ∧ RRow w own C ov (place 0 (all.take i)) ∧ Ext (fun c => c = 2) w1 w own1 own
theorem gets_op : ∀ (ts : List Tm) (m : Int), ∀ x ∈ getsOf ts m, x.op = 1
  | [], _, x, h => by cases h
  | t :: ts, m, x, h => by
    rw [getsOf] at h
    rcases List.mem_cons.1 h with rfl | h
    · rfl
    · exact gets_op ts (m + 1) x h
theorem either_jmp {x y z : List In} {free B : Int} (hx : ∀ i ∈ x, i.op = 4 ∨ i.op = 5 → 0 ≤ i.a ∧ i.a ≤ B) (hy : ∀ i ∈ y, i.op = 4 ∨ i.op = 5 → 0 ≤ i.a ∧ i.a ≤ B) (hz : ∀ i ∈ z, i.op = 4 ∨ i.op = 5 → 0 ≤ i.a ∧ i.a ≤ B) (h1 : (x.length : Int) + y.length + 4 ≤ B) (h2 : (z.length : Int) + 1 ≤ B) :
    ∀ i ∈ eitherP x y z free, i.op = 4 ∨ i.op = 5 → 0 ≤ i.a ∧ i.a ≤ B := by
  intro i hi ho
  unfold eitherP at hi
  simp only [List.mem_append, List.mem_cons, List.not_mem_nil, or_false] at hi
  rcases hi with (rfl | rfl | rfl) | hi | rfl | hi | rfl | hi
  · exact absurd ho (by show ¬ ((6 : Int) = 4 ∨ (6 : Int) = 5); decide)
  · show 0 ≤ (x.length : Int) + y.length + 4 ∧ (x.length : Int) + y.length + 4 ≤ B; omega
  · exact absurd ho (by show ¬ ((6 : Int) = 4 ∨ (6 : Int) = 5); decide)
  · exact hx i hi ho
  · exact absurd ho (by show ¬ ((7 : Int) = 4 ∨ (7 : Int) = 5); decide)
  · exact hy i hi ho
  · show 0 ≤ (z.length : Int) + 1 ∧ (z.length : Int) + 1 ≤ B; omega
  · exact hz i hi ho
theorem jmp_mono {x : List In} {A B : Int} (h : ∀ i ∈ x, i.op = 4 ∨ i.op = 5 → 0 ≤ i.a ∧ i.a ≤ A) (hAB : A ≤ B) : ∀ i ∈ x, i.op = 4 ∨ i.op = 5 → 0 ≤ i.a ∧ i.a ≤ B := fun i hi ho => by
  have := h i hi ho
  omega
theorem bd_jmp : ∀ (n : Nat) (t : Tm) (cut : In) (free : Int), ¬ (cut.op = 4 ∨ cut.op = 5) → ∀ i ∈ (bd n t cut free).1, i.op = 4 ∨ i.op = 5 → 0 ≤ i.a ∧ i.a ≤ 6 * Tm.sz t
  | 0, t, cut, free, _ => by rw [bd]; intro i hi; cases hi
  | n + 1, t, cut, free, hc => by
    have hp := sz_pos t
    have h7 : ∀ a, ¬ ((In0 7 a).op = 4 ∨ (In0 7 a).op = 5) := fun a => by show ¬ ((7 : Int) = 4 ∨ (7 : Int) = 5); decide
    have h8 : ¬ ((In0 8 0).op = 4 ∨ (In0 8 0).op = 5) := by show ¬ ((8 : Int) = 4 ∨ (8 : Int) = 5); decide
    have hfail : ∀ free, ∀ i ∈ (bd n failT cut free).1, i.op = 4 ∨ i.op = 5 → 0 ≤ i.a ∧ i.a ≤ 0 := fun free i hi ho => by
      cases n with
      | zero => rw [bd] at hi; cases hi
      | succ n =>
        rw [bd_fail] at hi
        simp only [List.mem_cons, List.not_mem_nil, or_false] at hi
        subst hi
        exact absurd ho h8
    rw [bd]
    split
    · intro i hi; cases hi
    split
    · intro i hi ho
      simp only [List.mem_cons, List.not_mem_nil, or_false] at hi
      subst hi
      exact absurd ho h8
    split
    · intro i hi ho
      simp only [List.mem_cons, List.not_mem_nil, or_false] at hi
      subst hi
      exact absurd ho hc
    split
    · rename_i h
      obtain ⟨_, _, h3⟩ := two_sz h
      have p0 := sz_pos (targ t 0)
      have p1 := sz_pos (targ t 1)
      intro i hi ho
      rcases List.mem_append.1 hi with hi | hi
      · exact jmp_mono (bd_jmp n (targ t 0) cut free hc) (by omega) i hi ho
      · exact jmp_mono (bd_jmp n (targ t 1) cut _ hc) (by omega) i hi ho
    split
    · rename_i h
      unfold Tm.ite at h
      rw [Bool.and_eq_true] at h
      obtain ⟨_, _, h3⟩ := two_sz h.1
      obtain ⟨_, _, h4⟩ := two_sz h.2
      have p0 := sz_pos (targ (targ t 0) 0)
      have p1 := sz_pos (targ (targ t 0) 1)
      have p2 := sz_pos (targ t 1)
      have e1 := bd_le n (targ (targ t 0) 0) (In0 7 (free + 1)) (free + 2)
      have e2 := bd_le n (targ (targ t 0) 1) cut (bd n (targ (targ t 0) 0) (In0 7 (free + 1)) (free + 2)).2
      have e3 := bd_le n (targ t 1) cut (bd n (targ (targ t 0) 1) cut (bd n (targ (targ t 0) 0) (In0 7 (free + 1)) (free + 2)).2).2
      exact either_jmp (jmp_mono (bd_jmp n _ _ _ (h7 _)) (by omega)) (jmp_mono (bd_jmp n _ _ _ hc) (by omega)) (jmp_mono (bd_jmp n _ _ _ hc) (by omega)) (by omega) (by omega)
    split
    · rename_i h
      obtain ⟨_, _, h3⟩ := two_sz h
      have p0 := sz_pos (targ t 0)
      have p1 := sz_pos (targ t 1)
      have e1 := bd_le n (targ t 0) (In0 7 (free + 1)) (free + 2)
      have e2 := bd_le n (targ t 1) cut (bd n (targ t 0) (In0 7 (free + 1)) (free + 2)).2
      have e3 := bd_fail_le n cut (bd n (targ t 1) cut (bd n (targ t 0) (In0 7 (free + 1)) (free + 2)).2).2
      exact either_jmp (jmp_mono (bd_jmp n _ _ _ (h7 _)) (by omega)) (jmp_mono (bd_jmp n _ _ _ hc) (by omega)) (jmp_mono (hfail _) (by omega)) (by omega) (by omega)
    split
    · rename_i h
      obtain ⟨_, _, h3⟩ := two_sz h
      have p0 := sz_pos (targ t 0)
      have p1 := sz_pos (targ t 1)
      have e1 := bd_le n (targ t 0) cut free
      have e2 := bd_le n (targ t 1) cut (bd n (targ t 0) cut free).2
      intro i hi ho
      simp only [List.mem_append, List.mem_cons, List.not_mem_nil, or_false] at hi
      rcases hi with rfl | hi | rfl | hi
      · show 0 ≤ ((bd n (targ t 0) cut free).1.length : Int) + 2 ∧ ((bd n (targ t 0) cut free).1.length : Int) + 2 ≤ 6 * Tm.sz t; omega
      · exact jmp_mono (bd_jmp n _ _ _ hc) (by omega) i hi ho
      · show 0 ≤ ((bd n (targ t 1) cut (bd n (targ t 0) cut free).2).1.length : Int) + 1 ∧ ((bd n (targ t 1) cut (bd n (targ t 0) cut free).2).1.length : Int) + 1 ≤ 6 * Tm.sz t; omega
      · exact jmp_mono (bd_jmp n _ _ _ hc) (by omega) i hi ho
    split
    · rename_i h
      obtain ⟨_, _, h3⟩ := one_sz h
      have p0 := sz_pos (targ t 0)
      have e1 := bd_le n (targ t 0) (In0 7 (free + 1)) (free + 2)
      intro i hi ho
      simp only [List.mem_append, List.mem_cons, List.not_mem_nil, or_false] at hi
      rcases hi with (rfl | rfl | rfl) | hi | rfl | rfl
      · exact absurd ho (by show ¬ ((6 : Int) = 4 ∨ (6 : Int) = 5); decide)
      · show 0 ≤ ((bd n (targ t 0) (In0 7 (free + 1)) (free + 2)).1.length : Int) + 4 ∧ ((bd n (targ t 0) (In0 7 (free + 1)) (free + 2)).1.length : Int) + 4 ≤ 6 * Tm.sz t; omega
      · exact absurd ho (by show ¬ ((6 : Int) = 4 ∨ (6 : Int) = 5); decide)
      · exact jmp_mono (bd_jmp n _ _ _ (h7 _)) (by omega) i hi ho
      · exact absurd ho (h7 free)
      · exact absurd ho h8
    · intro i hi ho
      simp only [List.mem_cons, List.not_mem_nil, or_false] at hi
      subst hi
      exact absurd ho (by show ¬ ((2 : Int) = 4 ∨ (2 : Int) = 5); decide)
set_option maxHeartbeats 8000000 in
theorem settle_any (hs : List Tm) (b : Tm) (p : ByteArray × Int) (vs : Int) (n0 : Nat) (w : World) (ah : Option Addr) (lh ch : Nat) (k : Int) (s : ByteArray) (x : Int) (a : Option Addr) (l c : Nat) (hn0 : n0 ≤ w.heap.size)
    (hh : TmV w (fun g => g < n0) (.mk 0 noStr 0 hs) (.agg #[.int .i64 0, .string noStr, .int .i64 0, .slice ah lh ch])) (hv : TmV w (fun g => g < n0) b (.agg #[.int .i64 k, .string s, .int .i64 x, .slice a l c])) (hhl : hs.length ≤ 10000) (hsz : Tm.sz b ≤ 2000) (hdp : Tm.dp b ≤ 100) :
    Calls Try.prog 32 #[.agg #[.string p.1, .int .i64 p.2], .int .i64 vs, .slice ah lh ch, .agg #[.int .i64 k, .string s, .int .i64 x, .slice a l c]] w (RcRet n0 w (codeOf hs b p vs)) := by
  obtain ⟨hb0, hb1, hb2, hB0, hz0⟩ := three_new w (.cells #[.string p.1, .int .i64 p.2] 29) (.cells #[.int .i64 k, .string s, .int .i64 x, .slice a l c] 24) (.cells #[.string ⟨#[]⟩, .int .i64 0, .int .i64 0, .int .i64 0, .slice none 0 0] 38)
  have hlh : lh = hs.length := (at_len (TmV_at hh).2.2.2.2.2.2).1
  have HAG := Lib.hid (fun (i : Nat) (hi : i < hs.length) => (show ∃ g off a2 l2 c2, ah = some ⟨g, off, none⟩ ∧ g < w.heap.size ∧ ∀ w2, Below w.heap.size w w2 → w2.cell? ⟨g, off + i * 4, none⟩ = some (.int .i64 hs[i].k) ∧ w2.cell? ⟨g, off + i * 4 + 1, none⟩ = some (.string hs[i].s) ∧ w2.cell? ⟨g, off + i * 4 + 2, none⟩ = some (.int .i64 hs[i].x) ∧ w2.cell? ⟨g, off + i * 4 + 3, none⟩ = some (.slice a2 l2 c2) ∧
      TmV w2 (fun g => g < n0) hs[i] (.agg #[.int .i64 hs[i].k, .string hs[i].s, .int .i64 hs[i].x, .slice a2 l2 c2]) by
    obtain ⟨g, off, h1, h2, h3⟩ := args_all hh (by show 0 < hs.length; omega)
    obtain ⟨a2, l2, c2, h4⟩ := h3 i hi
    have e : targ (.mk 0 noStr 0 hs) i = hs[i] := by
      have := targ_get (t := .mk 0 noStr 0 hs) (i := i) hi
      exact this
    rw [e] at h4
    exact ⟨g, off, a2, l2, c2, h1, h2, h4⟩))
  have HVB := Lib.hid (fun w2 (hB : Below w.heap.size w w2) => rbody_all 100 (by decide) b n0 w2 k s x a l c 3 0 0 (by have := hB.size; omega) (TmV.below hv hB) (by decide) (by omega) (by omega) hdp)
  have bX := bd_le 100 b (In0 3 0) 0
  have HJM := Lib.hid (bd_jmp 100 b (In0 3 0) 0 (by show ¬ ((3 : Int) = 4 ∨ (3 : Int) = 5); decide))
  have HCO := Lib.hid (show codeOf hs b p vs = ⟨p, vs, (bd 100 b (In0 3 0) 0).2, place 0 (getsOf hs 1 ++ ((bd 100 b (In0 3 0) 0).1 ++ [In0 9 0]))⟩ by rw [place_all]; rfl)
  generalize codeOf hs b p vs = co at *
  generalize bd 100 b (In0 3 0) 0 = X at *
  obtain ⟨hX1, hX2, hX3⟩ := bX
  have H0 := Lib.hid hb0
  have H1 := Lib.hid hb1
  have H2 := Lib.hid hb2
  have HB0 := Lib.hid hB0
  have hz0' := hz0
  clear hz0
  have hE0 := Ext_same (M := fun c => c = 2) (fun _ => 0) hB0
  have hE1 := hE0.trans ((Ext.refl.ow 2).alloc (.cells #[] 75))
  rw [hz0'] at hE1
  have hX0 : Ext (fun c => c = 2) (((w.alloc (.cells #[.string p.1, .int .i64 p.2] 29)).alloc (.cells #[.int .i64 k, .string s, .int .i64 x, .slice a l c] 24)).alloc (.cells #[.string ⟨#[]⟩, .int .i64 0, .int .i64 0, .int .i64 0, .slice none 0 0] 38)) ((((w.alloc (.cells #[.string p.1, .int .i64 p.2] 29)).alloc (.cells #[.int .i64 k, .string s, .int .i64 x, .slice a l c] 24)).alloc (.cells #[.string ⟨#[]⟩, .int .i64 0, .int .i64 0, .int .i64 0, .slice none 0 0] 38)).alloc (.cells #[] 75)) (fun _ => 0) (ow (fun _ => 0) (w.heap.size + 1 + 1 + 1) 2) := by
    have := ((Ext.refl (M := fun c => c = 2) (w := ((w.alloc (.cells #[.string p.1, .int .i64 p.2] 29)).alloc (.cells #[.int .i64 k, .string s, .int .i64 x, .slice a l c] 24)).alloc (.cells #[.string ⟨#[]⟩, .int .i64 0, .int .i64 0, .int .i64 0, .slice none 0 0] 38)) (own := fun _ => 0)).ow 2).alloc (.cells #[] 75)
    rwa [hz0'] at this
  have HE1 := Lib.hid hE1
  have H0 := Lib.hid (hb0.ext hX0 (by decide))
  have H1 := Lib.hid (hb1.ext hX0 (by decide))
  have H2 := Lib.hid (hb2.ext hX0 (by decide))
  have HROW1 : Hid (RRow ((((w.alloc (.cells #[.string p.1, .int .i64 p.2] 29)).alloc (.cells #[.int .i64 k, .string s, .int .i64 x, .slice a l c] 24)).alloc (.cells #[.string ⟨#[]⟩, .int .i64 0, .int .i64 0, .int .i64 0, .slice none 0 0] 38)).alloc (.cells #[] 75)) (ow (fun _ => 0) (w.heap.size + 1 + 1 + 1) 2) (fun g => g < n0) (.slice (some ⟨w.heap.size + 1 + 1 + 1, 0, none⟩) 0 0) []) := Lib.hid ⟨[], Row.start (by
    have := Blk.new (own := ow (fun _ => 0) (w.heap.size + 1 + 1 + 1) 2) (k := 2) (((w.alloc (.cells #[.string p.1, .int .i64 p.2] 29)).alloc (.cells #[.int .i64 k, .string s, .int .i64 x, .slice a l c] 24)).alloc (.cells #[.string ⟨#[]⟩, .int .i64 0, .int .i64 0, .int .i64 0, .slice none 0 0] 38)) (.cells #[] 75) (by rw [hz0']; exact ow_ge (Nat.le_refl _))
    rwa [hz0'] at this), rfl⟩
  clear hb0 hb1 hb2 hB0 hh hv hE0 hE1 hX0 hz0'
  subst hlh
  generalize hps : p.1 = ps at *
  generalize hpn : p.2 = pn at *
  have HPS := Lib.hid hps
  have HPN := Lib.hid hpn
  clear hps hpn
  go_enter Try.func32, Try.ntmps32
  go_wp2_with fail
  generalize ((((w.alloc (.cells #[.string ps, .int .i64 pn] 29)).alloc (.cells #[.int .i64 k, .string s, .int .i64 x, .slice a l c] 24)).alloc (.cells #[.string ⟨#[]⟩, .int .i64 0, .int .i64 0, .int .i64 0, .slice none 0 0] 38)).alloc (.cells #[] 75)) = w1 at *
  generalize hq2 : (Value.slice (some ⟨w.heap.size + 1 + 1 + 1, 0, none⟩) 0 0) = bv2 at *
  generalize (ow (fun _ => 0) (w.heap.size + 1 + 1 + 1) 2) = own1 at *
  clear hq2
  go_loopg [9, 10] hs.length (fun g ov iv wr => S1Inv (fun g => g < n0) w1 own1 hs g ov iv wr)
  case atStart => exact ⟨own1, 0, rfl, by omega, HROW1.out, Ext.refl⟩
  case round =>
    obtain ⟨ownr, i, rfl, hi, hrow, hEr⟩ := hrel
    have HER := Lib.hid hEr
    have HROW := Lib.hid hrow
    have hEw := HE1.out.trans hEr
    have hB := hEw.below fun b hb => by decide
    have HB := Lib.hid hB
    have h0 := H0.out.ext hEr (by decide)
    have h1 := H1.out.ext hEr (by decide)
    have h2 := H2.out.ext hEr (by decide)
    obtain ⟨oa, oc, rfl⟩ := hrow.shape
    by_cases hlt : i < hs.length
    · have hlt2 : (i : Int) < hs.length := by omega
      obtain ⟨gt, off, a2, l2, c2, rfl, hgt, hal⟩ := HAG.out i hlt
      obtain ⟨x0, x1, x2, x3, ht⟩ := hal wr hB
      have hgt2 : gt < wr.heap.size := by have := hB.size; omega
      have HT := Lib.hid (ht.carry (w' := wr) (C' := fun g => ownr g ≠ 2 ∧ g < n0) (Nat.le_refl _) fun g hg hc => ⟨rfl, by
        have hc : g < n0 := hc
        show ownr g ≠ 2 ∧ g < n0
        rw [hEw.col g (by omega)]; exact ⟨by decide, hc⟩⟩)
      have HNX := Lib.hid (show getsOf (hs.take (i + 1)) 1 = getsOf (hs.take i) 1 ++ [⟨1, (i : Int) + 1, hs[i]⟩] by
        rw [List.take_succ_eq_append_getElem hlt, getsOf_snoc, List.length_take, Nat.min_eq_left (by omega), Int.add_comm])
      have hlk : (getsOf (hs.take i) 1).length ≤ 1000000000000 := by rw [getsOf_len, List.length_take]; omega
      clear hrow hEr hEw hB h0 h1 h2 hal ht
      generalize getsOf (hs.take i) 1 = rs at *
      generalize hs[i] = u at *
      go_wp2_with (at_builtin; refine wpList_append_rins (i := ⟨1, (i : Int) + 1, u⟩) (v := .slice oa rs.length oc) rfl _ _ rfl HT.out rfl HROW.out hlk rfl rfl ?_; intro v8 w8 hr8 hE8; obtain ⟨a8, c8, rfl⟩ := hr8.shape)
      have HR8 := Lib.hid hr8
      have HE8 := Lib.hid (HER.out.trans hE8)
      clear hr8 hE8
      go_wp2_with fail
      go_roundg (hs.length - (i + 1))
      case measure => omega
      case rel => exact ⟨_, i + 1, by go_num, by omega, by rw [HNX.out]; simpa only [List.length_append, List.length_singleton] using HR8.out, HE8.out⟩
    · obtain rfl : i = hs.length := by omega
      simp only [List.take_length] at HROW ⊢
      have z0 : wr.cell? ⟨w.heap.size + 1, 0, none⟩ = some (.int .i64 k) := h1.cell 0
      have z1 : wr.cell? ⟨w.heap.size + 1, 1, none⟩ = some (.string s) := h1.cell 1
      have z2 : wr.cell? ⟨w.heap.size + 1, 2, none⟩ = some (.int .i64 x) := h1.cell 2
      have z3 : wr.cell? ⟨w.heap.size + 1, 3, none⟩ = some (.slice a l c) := h1.cell 3
      have lz := h1.lt
      have HG0 := Lib.hid (h0.recol (own' := fun _ => 0) (k := 0) rfl)
      have HG2 := Lib.hid (h2.recol (own' := fun _ => 0) (k := 0) rfl)
      have HRA := Lib.hid (HROW.out.view)
      have HGL := Lib.hid (getsOf_len hs 1)
      clear hrow hEr hEw hB h0 h1 h2 HROW
      generalize hgs : getsOf hs 1 = gs at *
      have HGS := Lib.hid hgs
      clear hgs
      go_wp2_with fail
      refine (HVB.out _ HB.out).mono ?_
      rintro e w4 ⟨pv, rfl, hr, hB⟩
      have hal : Below w4.heap.size w4 (w4.alloc (.cells #[pv, .int .i64 X.2] 95)) := (Below.refl _ _).alloc (Nat.le_refl _) _
      have hB4 := HB.out.trans (hB.mono HB.out.size)
      have HB5 := Lib.hid (hB4.trans (hal.mono hB4.size))
      have HG05 := Lib.hid (Blk_same (Blk_same HG0.out hB) hal)
      have HG25 := Lib.hid (Blk_same (Blk_same HG2.out hB) hal)
      have HRA5 := Lib.hid ((HRA.out.below hB).below hal)
      have HRX5 := Lib.hid (hr.below hal)
      have HXb := Lib.hid (Blk.new (own := fun _ => 0) (k := 0) w4 (.cells #[pv, .int .i64 X.2] 95) rfl)
      obtain ⟨pa, pc, rfl⟩ := hr.shape
      clear z0 z1 z2 z3 lz hB hal hB4 hr HG0 HG2 HRA HB HVB HER
      go_wp2_with fail
      generalize w4.heap.size = bq at *
      generalize (w4.alloc (.cells #[.slice pa X.1.length pc, .int .i64 X.2] 95)) = w5 at *
      have HF : Hid (FactsB [(⟨bq, 0, none⟩, .slice pa X.1.length pc), (⟨bq, 1, none⟩, .int .i64 X.2)] w5.drew) := Lib.hid ⟨⟨HXb.out.cell 0, HXb.out.lt⟩, ⟨HXb.out.cell 1, HXb.out.lt⟩, trivial⟩
      refine wp_region_plan5 [.early 0 [4, 5, 6], .early 1 [2, 4, 5, 6], .early 2 [4, 5, 6], .big 3, .big 4, .big 5, .early 6 []] 7 (Facts _) (by kernel_rfl) (by kernel_rfl) (fun _ _ _ d _ h => by cases d <;> exact h) (FactsB.facts HF.out) ?_
      have HBD := Lib.hid HB5.out.drew
      have HG0D := Lib.hid HG05.out.drew
      have HG2D := Lib.hid HG25.out.drew
      have HXD := Lib.hid HXb.out.drew
      have HRAD := Lib.hid (HRA5.out.carry (w' := w5.drew) (Nat.le_refl _) (fun _ _ _ => rfl) fun _ _ hc => ⟨rfl, hc⟩)
      have HRXD := Lib.hid (HRX5.out.carry (w' := w5.drew) (Nat.le_refl _) (fun _ _ _ => rfl) fun _ _ hc => ⟨rfl, hc⟩)
      clear HB5 HG05 HG25 HXb HRA5 HRX5
      generalize w5.drew = wd at *
      iterate 3
        apply plan5_early
        case hi => rfl
        case h =>
          intro w9 hf
          simp only [Facts] at hf
          obtain ⟨z0, z1, _⟩ := hf
          still_step
          exact wpStill_nil rfl
      refine plan5_big rfl ?_
      go_wp2_with fail
      refine (one_any (fun g => g < n0) 9 0 _).mono ?_
      rintro e w6 ⟨vo, rfl, hr, hB⟩
      have HRO := Lib.hid hr
      have HF6 := Lib.hid (FactsB.below hB HF.out)
      have HB6 := Lib.hid (HBD.out.trans (hB.mono HBD.out.size))
      have HG06 := Lib.hid (Blk_same HG0D.out hB)
      have HG26 := Lib.hid (Blk_same HG2D.out hB)
      have HX6 := Lib.hid (Blk_same HXD.out hB)
      have HRA6 := Lib.hid (HRAD.out.below hB)
      have HRX6 := Lib.hid (HRXD.out.below hB)
      obtain ⟨ao, co', rfl⟩ := hr.shape
      clear hr hB HF HBD HG0D HG2D HXD HRAD HRXD
      go_wp2_with fail
      refine ⟨fun _ => FactsB.facts HF6.out, ?_⟩
      have HPC := Lib.hid (pcs_new (n := 3) (c := 3) (T := 36) (vs := [.slice oa gs.length oc, .slice pa X.1.length pc, .slice ao [In0 9 0].length co']) (ps := [gs, X.1, [In0 9 0]]) ⟨HRA6.out, HRX6.out, HRO.out, trivial⟩ rfl)
      have hfl : [gs, X.1, [In0 9 0]].flatten = gs ++ (X.1 ++ [In0 9 0]) := by simp
      have hlenf : [gs, X.1, [In0 9 0]].flatten.length ≤ 1000000 := by rw [hfl]; simp only [List.length_append, List.length_cons, List.length_nil]; have := HGL.out; omega
      refine plan5_big rfl ?_
      go_wp2_with fail
      have hBq : Below w6.heap.size w6 (w6.alloc (.cells #[.slice oa gs.length oc, .slice pa X.1.length pc, .slice ao [In0 9 0].length co'] 36)) := (Below.refl _ _).alloc (Nat.le_refl _) _
      have HF7 := Lib.hid (FactsB.below hBq HF6.out)
      refine ⟨fun _ => FactsB.facts HF7.out, ?_⟩
      refine plan5_big rfl ?_
      go_wp2_with fail
      refine (join_any [gs, X.1, [In0 9 0]] _ _ _ HPC.out hlenf (by show 3 ≤ 1000; decide)).mono ?_
      rintro e wj ⟨vj, rfl, hrj, hB⟩
      rw [hfl] at hrj
      have hB67 := hBq.trans (hB.mono hBq.size)
      have HFJ := Lib.hid (FactsB.below hB HF7.out)
      have HRJ := Lib.hid hrj
      have HBJ := Lib.hid (HB6.out.trans (hB67.mono HB6.out.size))
      have HG0J := Lib.hid (Blk_same HG06.out hB67)
      have HG2J := Lib.hid (Blk_same HG26.out hB67)
      have HXJ := Lib.hid (Blk_same HX6.out hB67)
      have HALL := Lib.hid (show gs ++ (X.1 ++ [In0 9 0]) = gs ++ (X.1 ++ [In0 9 0]) from rfl)
      have hall : (gs ++ (X.1 ++ [In0 9 0])).length ≤ 1000000 := by rw [← hfl]; exact hlenf
      obtain ⟨aj, cj, rfl⟩ := hrj.shape
      clear hB hBq hB67 hrj HF7 HF6 HB6 HG06 HG26 HX6 HRA6 HRX6 HRO HPC hfl hlenf HALL
      have HAI := Lib.hid (show ∀ i (h : i < (gs ++ (X.1 ++ [In0 9 0])).length), (gs ++ (X.1 ++ [In0 9 0]))[i].op = 4 ∨ (gs ++ (X.1 ++ [In0 9 0]))[i].op = 5 → 0 ≤ (gs ++ (X.1 ++ [In0 9 0]))[i].a ∧ (gs ++ (X.1 ++ [In0 9 0]))[i].a ≤ 1000000 from fun i h ho => by
        have hm := List.getElem_mem h
        rcases List.mem_append.1 hm with hm | hm
        · have hop : ∀ x ∈ gs, x.op = 1 := HGS.out ▸ gets_op hs 1
          have := hop _ hm
          omega
        · rcases List.mem_append.1 hm with hm | hm
          · have := HJM.out _ hm ho
            omega
          · have hm := List.mem_singleton.1 hm
            rw [hm] at ho
            exact absurd ho (by show ¬ ((9 : Int) = 4 ∨ (9 : Int) = 5); decide))
      generalize hal : gs ++ (X.1 ++ [In0 9 0]) = all at *
      have HAL := Lib.hid hal
      clear hal
      go_wp2_with fail
      refine ⟨fun _ => FactsB.facts HFJ.out, ?_⟩
      iterate 1
        apply plan5_early
        case hi => rfl
        case h =>
          intro w9 hf
          simp only [Facts] at hf
          obtain ⟨z0, z1, _⟩ := hf
          still_step
          exact wpStill_nil rfl
      refine plan5_nil ?_
      go_wp2_with fail
      have hE1 : Ext (fun c => c = 2) wj (wj.alloc (.cells #[] 75)) (fun _ => 0) (ow (fun _ => 0) wj.heap.size 2) := (Ext.refl.ow 2).alloc _
      have HE2 := Lib.hid hE1
      have HROW2 : Hid (RRow (wj.alloc (.cells #[] 75)) (ow (fun _ => 0) wj.heap.size 2) (fun g => g < n0) (.slice (some ⟨wj.heap.size, 0, none⟩) 0 0) []) := Lib.hid ⟨[], Row.start (Blk.new wj _ (ow_ge (Nat.le_refl _))), rfl⟩
      clear hE1 HE1 HFJ HROW1 H0 H1 H2 HAG hi
      generalize (wj.alloc (.cells #[] 75)) = w2 at *
      generalize hq2 : (Value.slice (some ⟨wj.heap.size, 0, none⟩) 0 0) = bv3 at *
      generalize (ow (fun _ => 0) wj.heap.size 2) = own2 at *
      clear hq2
      go_loopg [12, 13] all.length (fun g ov iv wr => S2Inv (fun g => g < n0) w2 own2 all g ov iv wr)
      case atStart => exact ⟨own2, 0, rfl, by omega, HROW2.out, Ext.refl⟩
      case round =>
        obtain ⟨ownq, i, rfl, hi, hrow, hEq⟩ := hrel
        have hEw := HE2.out.trans hEq
        have hBj : Below wj.heap.size wj wr := hEw.below fun b hb => by decide
        have HEQ := Lib.hid hEq
        have HROWQ := Lib.hid hrow
        obtain ⟨oa2, oc2, rfl⟩ := hrow.shape
        by_cases hlt : i < all.length
        · have hlt2 : (i : Int) < all.length := by omega
          obtain ⟨g6, a6, l6, c6, rfl, hg6, x0, x1, x2, x3, x4, x5, ht⟩ := HRJ.out.get hlt
          have y0 : wr.cell? ⟨g6, i * 6, none⟩ = some (.int .i64 all[i].op) := by rw [hBj.cell (p := ⟨g6, i * 6, none⟩) hg6]; exact x0
          have y1 : wr.cell? ⟨g6, i * 6 + 1, none⟩ = some (.int .i64 all[i].a) := by rw [hBj.cell (p := ⟨g6, i * 6 + 1, none⟩) hg6]; exact x1
          have y2 : wr.cell? ⟨g6, i * 6 + 2, none⟩ = some (.int .i64 all[i].t.k) := by rw [hBj.cell (p := ⟨g6, i * 6 + 2, none⟩) hg6]; exact x2
          have y3 : wr.cell? ⟨g6, i * 6 + 3, none⟩ = some (.string all[i].t.s) := by rw [hBj.cell (p := ⟨g6, i * 6 + 3, none⟩) hg6]; exact x3
          have y4 : wr.cell? ⟨g6, i * 6 + 4, none⟩ = some (.int .i64 all[i].t.x) := by rw [hBj.cell (p := ⟨g6, i * 6 + 4, none⟩) hg6]; exact x4
          have y5 : wr.cell? ⟨g6, i * 6 + 5, none⟩ = some (.slice a6 l6 c6) := by rw [hBj.cell (p := ⟨g6, i * 6 + 5, none⟩) hg6]; exact x5
          have hg62 : g6 < wr.heap.size := by have := hBj.size; omega
          have HT := Lib.hid (fun (o : Obj) => ht.carry (w' := wr.alloc o) (C' := fun g => ow ownq wr.heap.size 0 g ≠ 2 ∧ g < n0) (by rw [World.size_alloc]; have := hBj.size; omega) fun g hg hc => ⟨by rw [heap_alloc_old _ _ (by have := hBj.size; omega)]; exact hBj.block g hg, by
            have hc : g < n0 := hc
            show ow ownq wr.heap.size 0 g ≠ 2 ∧ g < n0
            rw [ow_lt (by have := hBj.size; omega), hEw.col g hg]; exact ⟨by decide, hc⟩⟩)
          have HNX := Lib.hid (show place 0 (all.take (i + 1)) = place 0 (all.take i) ++ [if all[i].op = 4 ∨ all[i].op = 5 then { all[i] with a := all[i].a + (i : Int) } else all[i]] by
            rw [List.take_succ_eq_append_getElem hlt, place_snoc, List.length_take, Nat.min_eq_left (by omega), Nat.zero_add])
          have hlk : (place 0 (all.take i)).length ≤ 1000000000000 := by rw [place_len, List.length_take]; omega
          have hai := HAI.out i hlt
          clear hEw hBj hEq hrow x0 x1 x2 x3 x4 x5 ht hg6
          generalize place 0 (all.take i) = rs at *
          generalize all[i] = q at *
          obtain ⟨io, ia, u⟩ := q
          simp only at y0 y1 y2 y3 y4 HNX HT hai
          by_cases o4 : io = 4
          · subst o4
            rw [if_pos (.inl rfl)] at HNX
            obtain ⟨q1, q2⟩ := hai (.inl rfl)
            clear hai
            have HT := Lib.hid (HT.out (.cells #[.int .i64 4, .int .i64 (ia + (i : Int)), .int .i64 (Tm.k u), .string (Tm.s u), .int .i64 (Tm.x u), .slice a6 l6 c6] 75))
            go_wp2_with (at_builtin; refine wpList_append_rins (w0 := wr.alloc (.cells #[.int .i64 4, .int .i64 (ia + (i : Int)), .int .i64 (Tm.k u), .string (Tm.s u), .int .i64 (Tm.x u), .slice a6 l6 c6] 75)) (i := ⟨4, ia + (i : Int), u⟩) (v := .slice oa2 rs.length oc2) rfl _ _ rfl HT.out rfl (RRow.same HROWQ.out (ext_box 0 _)) hlk rfl (by rw [World.size_alloc]) ?_; intro v8 w8 hr8 hE8; obtain ⟨a8, c8, rfl⟩ := hr8.shape)
            have HR8 := Lib.hid hr8
            have HE8 := Lib.hid ((HEQ.out.trans (ext_box 0 _)).trans hE8)
            clear hr8 hE8
            go_wp2_with fail
            go_roundg (all.length - (i + 1))
            case measure => omega
            case rel => exact ⟨_, i + 1, by go_num, by omega, by rw [HNX.out]; simpa only [List.length_append, List.length_singleton] using HR8.out, HE8.out⟩
          by_cases o5 : io = 5
          · subst o5
            rw [if_pos (.inr rfl)] at HNX
            obtain ⟨q1, q2⟩ := hai (.inr rfl)
            clear hai
            have HT := Lib.hid (HT.out (.cells #[.int .i64 5, .int .i64 (ia + (i : Int)), .int .i64 (Tm.k u), .string (Tm.s u), .int .i64 (Tm.x u), .slice a6 l6 c6] 75))
            go_wp2_with (at_builtin; refine wpList_append_rins (w0 := wr.alloc (.cells #[.int .i64 5, .int .i64 (ia + (i : Int)), .int .i64 (Tm.k u), .string (Tm.s u), .int .i64 (Tm.x u), .slice a6 l6 c6] 75)) (i := ⟨5, ia + (i : Int), u⟩) (v := .slice oa2 rs.length oc2) rfl _ _ rfl HT.out rfl (RRow.same HROWQ.out (ext_box 0 _)) hlk rfl (by rw [World.size_alloc]) ?_; intro v8 w8 hr8 hE8; obtain ⟨a8, c8, rfl⟩ := hr8.shape)
            have HR8 := Lib.hid hr8
            have HE8 := Lib.hid ((HEQ.out.trans (ext_box 0 _)).trans hE8)
            clear hr8 hE8
            go_wp2_with fail
            go_roundg (all.length - (i + 1))
            case measure => omega
            case rel => exact ⟨_, i + 1, by go_num, by omega, by rw [HNX.out]; simpa only [List.length_append, List.length_singleton] using HR8.out, HE8.out⟩
          · rw [if_neg (by omega)] at HNX
            have b4 : (io == 4) = false := by simp [o4]
            have b5 : (io == 5) = false := by simp [o5]
            have HT := Lib.hid (HT.out (.cells #[.int .i64 io, .int .i64 ia, .int .i64 (Tm.k u), .string (Tm.s u), .int .i64 (Tm.x u), .slice a6 l6 c6] 75))
            clear o4 o5 hai
            go_wp2_with (at_builtin; refine wpList_append_rins (w0 := wr.alloc (.cells #[.int .i64 io, .int .i64 (ia), .int .i64 (Tm.k u), .string (Tm.s u), .int .i64 (Tm.x u), .slice a6 l6 c6] 75)) (i := ⟨io, ia, u⟩) (v := .slice oa2 rs.length oc2) rfl _ _ rfl HT.out rfl (RRow.same HROWQ.out (ext_box 0 _)) hlk rfl (by rw [World.size_alloc]) ?_; intro v8 w8 hr8 hE8; obtain ⟨a8, c8, rfl⟩ := hr8.shape)
            have HR8 := Lib.hid hr8
            have HE8 := Lib.hid ((HEQ.out.trans (ext_box 0 _)).trans hE8)
            clear hr8 hE8
            go_wp2_with fail
            go_roundg (all.length - (i + 1))
            case measure => omega
            case rel => exact ⟨_, i + 1, by go_num, by omega, by rw [HNX.out]; simpa only [List.length_append, List.length_singleton] using HR8.out, HE8.out⟩
        · obtain rfl : i = all.length := by omega
          simp only [List.take_length] at HROWQ ⊢
          have h0 := Blk_same HG0J.out hBj
          have h2 := Blk_same HG2J.out hBj
          have hx := Blk_same HXJ.out hBj
          have z0 : wr.cell? ⟨w.heap.size, 0, none⟩ = some (.string ps) := h0.cell 0
          have z1 : wr.cell? ⟨w.heap.size, 1, none⟩ = some (.int .i64 pn) := h0.cell 1
          have lz := h0.lt
          have y1 : wr.cell? ⟨bq, 1, none⟩ = some (.int .i64 X.2) := hx.cell 1
          have ly := hx.lt
          have f0 := h2.free 0
          have f1 := h2.free 1
          have f2 := h2.free 2
          have f3 := h2.free 3
          have f4 := h2.free 4
          have l2 := h2.lt
          have d0 : wr.cell? ⟨w.heap.size + 1 + 1, 0, none⟩ = some (.string noStr) := h2.cell 0
          have d1 : wr.cell? ⟨w.heap.size + 1 + 1, 1, none⟩ = some (.int .i64 0) := h2.cell 1
          have d2 : wr.cell? ⟨w.heap.size + 1 + 1, 2, none⟩ = some (.int .i64 0) := h2.cell 2
          have d3 : wr.cell? ⟨w.heap.size + 1 + 1, 3, none⟩ = some (.int .i64 0) := h2.cell 3
          have d4 : wr.cell? ⟨w.heap.size + 1 + 1, 4, none⟩ = some (.slice none 0 0) := h2.cell 4
          have H2R := Lib.hid h2
          have HBR := Lib.hid (HBJ.out.trans (hBj.mono HBJ.out.size))
          have HRV := Lib.hid (HROWQ.out.view)
          clear hEw hBj hEq hrow h0 h2 hx HROWQ HEQ
          generalize hpl : (place 0 all).length = pl at *
          clear hpl
          go_wp2_with fail
          have hend := Blk.putCells (cs := [.string ⟨#[]⟩, .int .i64 0, .int .i64 0, .int .i64 0, .slice none 0 0]) (vs := [.string ps, .int .i64 pn, .int .i64 vs, .int .i64 X.2, .slice oa2 pl oc2]) H2R.out rfl
          have hrv := HRV.out.put (b := w.heap.size + 1 + 1) H2R.out (by decide) (by omega) [.string ps, .int .i64 pn, .int .i64 vs, .int .i64 X.2, .slice oa2 pl oc2]
          have hbel := below_put HBR.out (b := w.heap.size + 1 + 1) (by omega) [.string ps, .int .i64 pn, .int .i64 vs, .int .i64 X.2, .slice oa2 pl oc2]
          simp only [putCells, Nat.reduceAdd] at hend hrv hbel
          refine bodyPost_ret (results_cell_row rfl _ _ (w.heap.size + 1 + 1) 38 _ _ _ rfl hend.at_ Try.underlying38 rfl (by kernel_rfl)) rfl ?_
          refine ⟨_, rfl, ?_, hbel⟩
          rw [HCO.out]
          have e1 := HPS.out
          have e2 := HPN.out
          subst e1
          subst e2
          exact ⟨_, rfl, hrv⟩
end Go.Proofs.Ytamiidklcadkmaa
