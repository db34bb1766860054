/- The document's answer for layer 5: bases of plain lists. -/
import Derived.Test.YtefhngbeodnldaaChainRef
import Derived.Test.YtefhngbeodnldaaEpochRetire
set_option maxRecDepth 20000
set_option linter.unusedVariables false
set_option linter.unusedSimpArgs false
namespace Go.Proofs.Ytefhngbeodnldaa
open Go.RowKit Go.PM
abbrev RB := List (List Int × Int)
/-- A slice of int64 that is only looked at, in blocks that are C. -/
def VwC (w : World) (C : Nat → Prop) (v : Value) (xs : List Int) : Prop :=
  xs.length ≤ 1000 ∧ ((v = .slice none 0 0 ∧ xs = []) ∨
    ∃ g off c, v = .slice (some ⟨g, off, none⟩) xs.length c ∧ xs.length ≤ c ∧ c ≤ maxLen ∧ g < w.heap.size ∧ C g ∧ ∀ j x, xs[j]? = some x → w.cell? ⟨g, off + j, none⟩ = some (.int .i64 x))
theorem VwC.vw {w : World} {C : Nat → Prop} {v : Value} {xs : List Int} (h : VwC w C v xs) : Vw w v xs := by
  obtain ⟨h1, h | ⟨g, off, c, h2, h3, h4, h5, _, h6⟩⟩ := h
  · exact ⟨h1, .inl h⟩
  · exact ⟨h1, .inr ⟨g, off, c, h2, h3, h4, h5, h6⟩⟩
theorem VwC.carry {w w' : World} {C C' : Nat → Prop} {v : Value} {xs : List Int} (h : VwC w C v xs) (hs : w.heap.size ≤ w'.heap.size) (hc : ∀ g, g < w.heap.size → C g → w'.heap[g]? = w.heap[g]? ∧ C' g) : VwC w' C' v xs := by
  obtain ⟨h1, h | ⟨g, off, c, h2, h3, h4, h5, h7, h6⟩⟩ := h
  · exact ⟨h1, .inl h⟩
  · refine ⟨h1, .inr ⟨g, off, c, h2, h3, h4, Nat.lt_of_lt_of_le h5 hs, (hc g h5 h7).2, fun j x hj => ?_⟩⟩
    have := h6 j x hj
    unfold World.cell? at this ⊢
    rw [show (w'.heap[(⟨g, off + j, none⟩ : Addr).block]?) = w.heap[(⟨g, off + j, none⟩ : Addr).block]? from (hc g h5 h7).1]
    exact this
theorem VwC.one {w : World} {C : Nat → Prop} {v : Value} {xs : List Int} (h : VwC w C v xs) : v.oneCell' = true := by
  obtain ⟨_, ⟨rfl, _⟩ | ⟨g, off, c, rfl, _⟩⟩ := h <;> rfl
theorem VwC.shape {w : World} {C : Nat → Prop} {v : Value} {xs : List Int} (h : VwC w C v xs) : ∃ a c, v = .slice a xs.length c := by
  obtain ⟨_, ⟨rfl, rfl⟩ | ⟨g, off, c, rfl, _⟩⟩ := h
  · exact ⟨_, _, rfl⟩
  · exact ⟨_, _, rfl⟩
theorem Row.vwc {w : World} {own : Nat → Nat} {k : Nat} {v : Value} {n : Nat} {xs : List Int} {C : Nat → Prop} (h : Row w own k 2 1 v n (irow xs)) (hn : n = xs.length) (hl : n ≤ 1000) (hC : ∀ g, g < w.heap.size → own g = k → C g) : VwC w C v xs := by
  by_cases h0 : 0 < n
  · obtain ⟨a, c, rfl⟩ := h.shape
    obtain ⟨g, rfl, hg, hnc, hcm, hog, h1, h2⟩ := Row.vw h hn hl 0 (Nat.zero_le _) h0
    refine ⟨by omega, .inr ⟨g, 0, c, by rw [hn], by omega, hcm, hg, hC g hg hog, ?_⟩⟩
    rcases h2 with h2 | ⟨g2, off2, c2, h3, _, _, _, h4⟩
    · have := h2.1; injection this with e; cases e
    · injection h3 with e1 _ e3
      injection e1 with e1
      injection e1 with e1 e2
      subst e1; subst e2
      intro j x hj
      exact h4 j x (by rw [List.drop_zero]; exact hj)
  · obtain rfl : n = 0 := by omega
    obtain rfl : xs = [] := List.length_eq_zero_iff.1 hn.symm
    obtain ⟨h1, h | ⟨g, cap, cur, hv, hb, hc, hm, hs, ht⟩⟩ := h
    · exact ⟨by simp, .inl ⟨h.1, rfl⟩⟩
    · exact ⟨by simp, .inr ⟨g, 0, cap, hv, by simp, hm, hb.lt, hC g hb.lt hb.col, fun j x hj => by simp at hj⟩⟩
/-- The cells of chains. -/
def RCs (w : World) (C : Nat → Prop) : RB → List Value → Prop
  | [], xs => xs = []
  | p :: R, xs => ∃ lv xs', xs = lv :: .int .i64 p.2 :: xs' ∧ VwC w C lv p.1 ∧ RCs w C R xs'
theorem RCs.len {w : World} {C : Nat → Prop} : ∀ {R : RB} {xs : List Value}, RCs w C R xs → xs.length = R.length * 2
  | [], _, h => by unfold RCs at h; subst h; rfl
  | p :: R, _, h => by
    unfold RCs at h
    obtain ⟨lv, xs', rfl, _, h⟩ := h
    have := RCs.len h
    simp only [List.length_cons]
    omega
theorem RCs.carry {w w' : World} {C C' : Nat → Prop} (hs : w.heap.size ≤ w'.heap.size) (hc : ∀ g, g < w.heap.size → C g → w'.heap[g]? = w.heap[g]? ∧ C' g) : ∀ {R : RB} {xs : List Value}, RCs w C R xs → RCs w' C' R xs
  | [], _, h => h
  | p :: R, _, h => by
    unfold RCs at h ⊢
    obtain ⟨lv, xs', rfl, h1, h⟩ := h
    exact ⟨lv, xs', rfl, h1.carry hs hc, RCs.carry hs hc h⟩
theorem RCs.snoc {w : World} {C : Nat → Prop} {lv : Value} {p : List Int × Int} (hp : VwC w C lv p.1) : ∀ {R : RB} {xs : List Value}, RCs w C R xs → RCs w C (R ++ [p]) (xs ++ [lv, .int .i64 p.2])
  | [], _, h => by
    unfold RCs at h
    subst h
    exact ⟨lv, [], rfl, hp, rfl⟩
  | r :: R, _, h => by
    unfold RCs at h
    obtain ⟨lv', xs', rfl, h1, h⟩ := h
    exact ⟨lv', xs' ++ [lv, .int .i64 p.2], rfl, h1, RCs.snoc hp h⟩
theorem RCs.get {w : World} {C : Nat → Prop} : ∀ {R : RB} {xs : List Value}, RCs w C R xs → ∀ (i : Nat) (hi : i < R.length), ∃ lv, xs[i * 2]? = some lv ∧ xs[i * 2 + 1]? = some (.int .i64 R[i].2) ∧ VwC w C lv R[i].1
  | p :: R, _, h, 0, _ => by
    unfold RCs at h
    obtain ⟨lv, xs', rfl, h1, h⟩ := h
    exact ⟨lv, rfl, rfl, h1⟩
  | p :: R, _, h, i + 1, hi => by
    unfold RCs at h
    obtain ⟨lv, xs', rfl, h1, h⟩ := h
    obtain ⟨lv', h2, h3, h4⟩ := RCs.get h i (Nat.lt_of_succ_lt_succ hi)
    refine ⟨lv', ?_, ?_, h4⟩
    · rw [show (i + 1) * 2 = i * 2 + 1 + 1 by omega]
      simpa using h2
    · rw [show (i + 1) * 2 + 1 = i * 2 + 1 + 1 + 1 by omega]
      simpa using h3
/-- v is this base. -/
def RBAt (w : World) (C : Nat → Prop) (v : Value) (R : RB) : Prop :=
  R.length ≤ 100 ∧ ∃ a c, v = .slice a R.length c ∧ (R = [] ∨ ∃ g xs, a = some ⟨g, 0, none⟩ ∧ g < w.heap.size ∧ C g ∧ RCs w C R xs ∧ ∀ j u, xs[j]? = some u → w.cell? ⟨g, j, none⟩ = some u)
theorem RBAt.carry {w w' : World} {C C' : Nat → Prop} {v : Value} {R : RB} (h : RBAt w C v R) (hs : w.heap.size ≤ w'.heap.size) (hc : ∀ g, g < w.heap.size → C g → w'.heap[g]? = w.heap[g]? ∧ C' g) : RBAt w' C' v R := by
  obtain ⟨h1, a, c, h2, h | ⟨g, xs, h3, h4, h5, h6, h7⟩⟩ := h
  · exact ⟨h1, a, c, h2, .inl h⟩
  · refine ⟨h1, a, c, h2, .inr ⟨g, xs, h3, Nat.lt_of_lt_of_le h4 hs, (hc g h4 h5).2, h6.carry hs hc, fun j u hj => ?_⟩⟩
    have := h7 j u hj
    unfold World.cell? at this ⊢
    rw [show (w'.heap[(⟨g, j, none⟩ : Addr).block]?) = w.heap[(⟨g, j, none⟩ : Addr).block]? from (hc g h4 h5).1]
    exact this
theorem RBAt.get {w : World} {C : Nat → Prop} {a : Option Addr} {n c : Nat} {R : RB} (h : RBAt w C (.slice a n c) R) {i : Nat} (hi : i < R.length) : ∃ g lv, a = some ⟨g, 0, none⟩ ∧ g < w.heap.size ∧ C g ∧ w.cell? ⟨g, i * 2, none⟩ = some lv ∧ w.cell? ⟨g, i * 2 + 1, none⟩ = some (.int .i64 R[i].2) ∧ VwC w C lv R[i].1 := by
  obtain ⟨h1, a', c', h2, h | ⟨g, xs, h3, h4, h5, h6, h7⟩⟩ := h
  · subst h; simp at hi
  · injection h2 with e1 _ _
    obtain ⟨lv, q1, q2, q3⟩ := h6.get i hi
    exact ⟨g, lv, by rw [e1, h3], h4, h5, h7 _ _ q1, h7 _ _ q2, q3⟩
theorem RBAt.shape {w : World} {C : Nat → Prop} {v : Value} {R : RB} (h : RBAt w C v R) : ∃ a c, v = .slice a R.length c := by
  obtain ⟨_, a, c, h, _⟩ := h
  exact ⟨a, c, h⟩
/-- A row of chains is a base. -/
theorem RBAt.of_row {w : World} {own : Nat → Nat} {k n : Nat} {v : Value} {xs : List Value} {R : RB} {C : Nat → Prop} (h : Row w own k 48 2 v n xs) (hn : n = R.length) (hR : RCs w C R xs) (hl : R.length ≤ 100) (hC : ∀ g, g < w.heap.size → own g = k → C g) : RBAt w C v R := by
  subst hn
  obtain ⟨h1, h | ⟨g, cap, cur, hv, hb, hc, hm, hs, ht⟩⟩ := h
  · have h2 := h.1
    subst h2
    exact ⟨hl, none, 0, by rw [h.2], .inl (List.length_eq_zero_iff.1 h.2)⟩
  · refine ⟨hl, _, cap, hv, .inr ⟨g, xs, rfl, hb.lt, hC g hb.lt hb.col, hR, fun j u hj => ?_⟩⟩
    rw [hb.cell]
    rw [← ht, List.getElem?_take] at hj
    split at hj
    · simpa using hj
    · cases hj
theorem info_ch : (Try.prog.info? 48).map (fun i => (i.zero, i.size, i.bytes)) = some (some (.agg #[.slice none 0 0, .int .i64 0]), 2, 32) := by kernel_rfl
theorem parts_ch : ∃ i, Try.prog.info? 48 = some i ∧ i.zero = some (.agg #[.slice none 0 0, .int .i64 0]) ∧ i.size = 2 ∧ i.bytes = 32 := by
  have h := info_ch
  cases hx : Try.prog.info? 48 with
  | none => rw [hx] at h; cases h
  | some i =>
    rw [hx] at h
    simp only [Option.map_some, Option.some.injEq, Prod.mk.injEq] at h
    exact ⟨i, rfl, h.1, h.2.1, h.2.2⟩
theorem wpList_append_ch {ops : Array Oper} {rest : List Oper} {o : Oper} {a : Act} {Q : Exit → Act → World → Prop} {w0 : World} {own : Nat → Nat} {k n : Nat} {v : Value} {xs : List Value} (hgd : o.guard = none) (s y : Operand)
    (ho : o.op = .call { callee := .builtin .append, args := #[s, y], argTypes := #[34, 34] })
    (lv : Value) (st : Int) (h1 : lv.oneCell' = true) (hs : a.eval s = v) (hrow : Row w0 own k 48 2 v n xs) (hn : n ≤ 100000)
    {q : Nat} (hx : a.eval y = .slice (some ⟨q, 0, none⟩) 1 1) (hq : q = w0.heap.size)
    (h : ∀ v' w' own', Row w' own' k 48 2 v' (n + 1) (xs ++ [lv, .int .i64 st]) → Ext (fun c => c = k) w0 w' own own' → wpList Try.prog ops Q rest (a.put o.dst v') w') :
    wpList Try.prog ops Q (o :: rest) a (w0.alloc (.cells #[lv, .int .i64 st] 48)) := by
  subst hq
  obtain ⟨i0, hi0, hz0, hz1, hz2⟩ := parts_ch
  have hb1 : n + 1 ≤ maxLen := by unfold maxLen; omega
  have hb2 : (n + 1) * 32 ≤ 140737488355328 := by omega
  have hnb := Blk.new (own := fun _ => 0) (k := 0) w0 (.cells #[lv, .int .i64 st] 48) rfl
  refine wpList_append_row hgd s y 34 ho i0 (.agg #[.slice none 0 0, .int .i64 0]) 32 Try.underlying34 hi0 hz0 hz1 hz2 rfl (by decide) hs (hrow.alloc _) ⟨w0.heap.size, 0, none⟩ 1 1 [lv, .int .i64 st] hx rfl ?_ ?_ hb1 hb2 ?_
  · intro j u hj
    rw [Addr.add_lit, Nat.zero_add, hnb.cell]
    simpa using hj
  · intro u hu
    simp only [List.mem_cons, List.not_mem_nil, or_false] at hu
    rcases hu with rfl | rfl
    · exact h1
    · rfl
  intro v' w' h1 h2 _
  exact h v' w' _ h1 ((Ext.refl.alloc _).trans h2)
def RefPost (w : World) (C : Nat → Prop) (R : RB) (v : Value) (w' : World) : Prop := RBAt w' (fun g => C g ∨ w.heap.size ≤ g) v R ∧ Below w.heap.size w w'
/-- Rows that grow in new memory leave what there was. -/
theorem keep_old {w w1 w' : World} {own' : Nat → Nat} {C : Nat → Prop} (hB : Below w.heap.size w w1) (hE : Ext (fun c => c = 1) w1 w' (fresh w.heap.size) own') : ∀ g, g < w.heap.size → C g → w'.heap[g]? = w.heap[g]? ∧ (C g ∨ w.heap.size ≤ g) := fun g hg hc =>
  ⟨((hE.freshBelow hB.size).block g hg).trans (hB.block g hg), .inl hc⟩
section
variable {w : World}
theorem row_new {w1 w' : World} {own' : Nat → Nat} {n g : Nat} (hE : Ext (fun c => c = 1) w1 w' (fresh n) own') (hn : n ≤ w1.heap.size) (ho : own' g = 1) : n ≤ g := by
  by_cases h : g < n
  · have := hE.col g (by omega)
    rw [ho] at this
    unfold fresh at this
    rw [ow_lt h] at this
    cases this
  · omega
def NwInv (w0 w1 : World) (N : Nat) (g : Nat) (ov iv : Value) (w : World) : Prop :=
  ∃ (own : Nat → Nat) (i : Nat) (xs : List Value), iv = .int .i64 i ∧ i + g = N ∧ Row w own 1 48 2 ov i xs ∧ RCs w0 (fun _ => False) (List.replicate i ([], 0)) xs ∧ Ext (fun c => c = 1) w1 w (fresh w0.heap.size) own
set_option maxHeartbeats 2000000 in
theorem RefNew_any (n : Nat) (hn : n ≤ 64) : Calls Try.prog 23 #[.int .i64 n] w fun e w' => ∃ v, e = .returned v ∧ RefPost w (fun _ => False) (List.replicate n ([], 0)) v w' := by
  have hB0 : Below w.heap.size w (w.alloc (.cells #[] 48)) := (Below.refl _ _).alloc (Nat.le_refl _) _
  have hb := Blk.new (own := fresh w.heap.size) (k := 1) w (.cells #[] 48) (ow_ge (Nat.le_refl _))
  have HB0 := Lib.hid hB0
  have HROW := Lib.hid (Row.start hb : Row _ _ _ _ 2 _ _ _)
  clear hB0 hb
  go_enter Try.func23, Try.ntmps23
  go_wp2_with fail
  generalize hw1 : w.alloc (.cells #[] 48) = w1 at *
  go_loopg [3, 4] n (fun g ov iv wr => NwInv w w1 n g ov iv wr)
  case atStart => exact ⟨fresh w.heap.size, 0, [], rfl, by omega, HROW.out, rfl, Ext.refl⟩
  case round =>
    obtain ⟨own1, i, xs, rfl, hi, hrow, hR, hE⟩ := hrel
    obtain ⟨oa, oc, rfl⟩ := hrow.shape
    have HR := Lib.hid hR
    have HE := Lib.hid hE
    have HW := Lib.hid hrow
    by_cases hlt : i < n
    · have hlt2 : (i : Int) < (n : Int) := by omega
      clear hrow hR hE
      go_wp2_with (at_builtin; refine wpList_append_ch (w0 := wr) (n := i) rfl _ _ rfl (.slice none 0 0) 0 rfl rfl HW.out (by omega) rfl rfl ?_; intro v8 w8 own8 hr8 hE8; obtain ⟨a8, c8, rfl⟩ := hr8.shape)
      have HR8 := Lib.hid hr8
      have HE8 := Lib.hid (HE.out.trans hE8)
      have HRC := Lib.hid (show RCs w (fun _ => False) (List.replicate (i + 1) ([], 0)) (xs ++ [.slice none 0 0, .int .i64 0]) from by
        rw [List.replicate_succ']
        exact RCs.snoc (p := ([], 0)) ⟨by simp, .inl ⟨rfl, rfl⟩⟩ HR.out)
      clear hr8 hE8
      go_wp2_with fail
      go_roundg (n - (i + 1))
      case measure => omega
      case rel => exact ⟨_, i + 1, _, by go_num, by omega, HR8.out, HRC.out, HE8.out⟩
    · obtain rfl : i = n := by omega
      have HBW := Lib.hid (HB0.out.trans ((hE.freshBelow HB0.out.size).mono (Nat.le_refl _)))
      clear hrow hR hE
      go_wp2_with fail
      go_ret
      exact ⟨_, rfl, RBAt.of_row HW.out (by rw [List.length_replicate]) (HR.out.carry HBW.out.size (fun _ _ h => h.elim)) (by rw [List.length_replicate]; omega) (fun g hg ho => .inr (row_new HE.out HB0.out.size ho)), HBW.out⟩
def PtInv (w0 w2 : World) (n1 : Nat) (C : Nat → Prop) (R : RB) (g : Nat) (ov iv : Value) (w : World) : Prop :=
  ∃ (own : Nat → Nat) (i : Nat) (xs : List Value), iv = .int .i64 i ∧ i + g = R.length ∧ Row w own 1 48 2 ov i xs ∧ RCs w0 C (R.take i) xs ∧ Ext (fun c => c = 1) w2 w (fresh n1) own
set_option maxHeartbeats 4000000 in
theorem RefPut_any {C : Nat → Prop} {v lv : Value} {R : RB} {l : List Int} {st : Int} (m : Nat) (hv : RBAt w C v R) (hl : VwC w C lv l) (hm : m ≤ 1000) :
    Calls Try.prog 30 #[v, .int .i64 ((m : Int) + 1), .agg #[lv, .int .i64 st]] w fun e w' => ∃ v', e = .returned v' ∧ RefPost w C (R.set m (l, st)) v' w' := by
  have hRl : R.length ≤ 100 := hv.1
  obtain ⟨ba, bc, rfl⟩ := hv.shape
  have HV := Lib.hid hv
  have HL := Lib.hid hl
  have hone := hl.one
  obtain ⟨la, lc, rfl⟩ := hl.shape
  clear hv hl hone
  have hb0 := Blk.new (own := fun _ => 0) (k := 0) w (.cells #[.slice la l.length lc, .int .i64 st] 48) rfl
  have hB0 : Below w.heap.size w (w.alloc (.cells #[.slice la l.length lc, .int .i64 st] 48)) := (Below.refl _ _).alloc (Nat.le_refl _) _
  have hs0 := World.size_alloc w (.cells #[.slice la l.length lc, .int .i64 st] 48)
  have HSZ := Lib.hid hs0
  have HB0 := Lib.hid hB0
  have HBX := Lib.hid hb0
  clear hb0 hB0 hs0
  go_enter Try.func30, Try.ntmps30
  go_wp2_with fail
  generalize hw1 : w.alloc (.cells #[.slice la l.length lc, .int .i64 st] 48) = w1 at *
  have HB1 := Lib.hid ((Below.refl w1.heap.size w1).alloc (Nat.le_refl _) (.cells #[] 48))
  have HROW := Lib.hid (show Row (w1.alloc (.cells #[] 48)) (fresh w1.heap.size) 1 48 2 (.slice (some ⟨w1.heap.size, 0, none⟩) 0 0) 0 [] from Row.start (Blk.new w1 _ (ow_ge (Nat.le_refl _))))
  rw [HSZ.out] at HROW
  generalize hw2 : w1.alloc (.cells #[] 48) = w2 at *
  go_loopg [7, 8] R.length (fun g ov iv wr => PtInv w w2 w1.heap.size C (R.set m (l, st)) g ov iv wr)
  case atStart => exact ⟨_, 0, [], rfl, by rw [List.length_set]; omega, by rw [HSZ.out]; exact HROW.out, rfl, Ext.refl⟩
  case round =>
    obtain ⟨own1, i, xs, rfl, hi, hrow, hR, hE⟩ := hrel
    rw [List.length_set] at hi
    obtain ⟨oa, oc, rfl⟩ := hrow.shape
    have HR := Lib.hid hR
    have HE := Lib.hid hE
    have HW := Lib.hid hrow
    have hBr := HB1.out.trans ((hE.freshBelow HB1.out.size).mono (Nat.le_refl _))
    have hBw := HB0.out.trans (hBr.mono HB0.out.size)
    have HBR := Lib.hid hBw
    have hbx := (⟨by rw [hBr.block _ HBX.out.lt]; exact HBX.out.at_, rfl⟩ : Blk wr (fun _ => 0) 0 w.heap.size (.cells #[.slice la l.length lc, .int .i64 st] 48 (0, 0)))
    by_cases hlt : i < R.length
    · have hlt2 : (i : Int) < (R.length : Int) := by omega
      have htk : (R.set m (l, st)).take (i + 1) = (R.set m (l, st)).take i ++ [(R.set m (l, st))[i]'(by rw [List.length_set]; exact hlt)] := List.take_succ_eq_append_getElem (by rw [List.length_set]; exact hlt)
      by_cases him : i = m
      · have hb1 : ((i : Int) == (m : Int)) = true := by rw [him]; simp
        have HP := Lib.hid (show RCs w C ((R.set m (l, st)).take (i + 1)) (xs ++ [.slice la l.length lc, .int .i64 st]) from by
          rw [htk, List.getElem_set, if_pos him.symm]
          exact RCs.snoc (p := (l, st)) HL.out HR.out)
        have x0 : wr.cell? ⟨w.heap.size, 0, none⟩ = some (.slice la l.length lc) := hbx.cell 0
        have x1 : wr.cell? ⟨w.heap.size, 1, none⟩ = some (.int .i64 st) := hbx.cell 1
        have xl := hbx.lt
        clear hrow hR hE hBr hBw hbx htk him
        go_wp2_with (at_builtin; refine wpList_append_ch (w0 := wr) (n := i) rfl _ _ rfl (.slice la l.length lc) st rfl rfl HW.out (by omega) rfl rfl ?_; intro v8 w8 own8 hr8 hE8; obtain ⟨a8, c8, rfl⟩ := hr8.shape)
        have HR8 := Lib.hid hr8
        have HE8 := Lib.hid (HE.out.trans hE8)
        clear hr8 hE8
        go_wp2_with fail
        go_roundg (R.length - (i + 1))
        case measure => omega
        case rel => exact ⟨_, i + 1, _, by go_num, by rw [List.length_set]; omega, HR8.out, HP.out, HE8.out⟩
      · have hb1 : ((i : Int) == (m : Int)) = false := by rw [beq_eq_false_iff_ne]; omega
        obtain ⟨g, lv, rfl, hg, hCg, hq0, hq1, hvl⟩ := HV.out.get hlt
        have HP := Lib.hid (show RCs w C ((R.set m (l, st)).take (i + 1)) (xs ++ [lv, .int .i64 R[i].2]) from by
          rw [htk, List.getElem_set, if_neg (fun h => him h.symm)]
          exact RCs.snoc hvl HR.out)
        have x0 : wr.cell? ⟨g, i * 2, none⟩ = some lv := by rw [hBw.cell (p := ⟨g, i * 2, none⟩) hg]; exact hq0
        have x1 : wr.cell? ⟨g, i * 2 + 1, none⟩ = some (.int .i64 R[i].2) := by rw [hBw.cell (p := ⟨g, i * 2 + 1, none⟩) hg]; exact hq1
        obtain ⟨la2, lc2, rfl⟩ := hvl.shape
        clear hrow hR hE hBr hBw hbx htk him hq0 hq1 hvl
        generalize R[i].1.length = ln at *
        generalize R[i].2 = st2 at *
        go_wp2_with (at_builtin; refine wpList_append_ch (w0 := wr) (n := i) rfl _ _ rfl (.slice la2 ln lc2) st2 rfl rfl HW.out (by omega) rfl rfl ?_; intro v8 w8 own8 hr8 hE8; obtain ⟨a8, c8, rfl⟩ := hr8.shape)
        have HR8 := Lib.hid hr8
        have HE8 := Lib.hid (HE.out.trans hE8)
        clear hr8 hE8
        go_wp2_with fail
        go_roundg (R.length - (i + 1))
        case measure => omega
        case rel => exact ⟨_, i + 1, _, by go_num, by rw [List.length_set]; omega, HR8.out, HP.out, HE8.out⟩
    · obtain rfl : i = R.length := by omega
      have hRR : RCs w C (R.set m (l, st)) xs := by
        have := HR.out
        rwa [List.take_of_length_le (by rw [List.length_set]; omega)] at this
      have HRR := Lib.hid hRR
      clear hrow hR hE hBr hBw hbx hRR
      go_wp2_with fail
      go_ret
      refine ⟨_, rfl, RBAt.of_row HW.out (by rw [List.length_set]) (HRR.out.carry HBR.out.size (fun g hg hc => ⟨HBR.out.block g hg, .inl hc⟩)) (by rw [List.length_set]; exact hRl) (fun g hg ho => .inr ?_), HBR.out⟩
      have h1 := row_new HE.out HB1.out.size ho
      rw [HSZ.out] at h1
      omega
end
end Go.Proofs.Ytefhngbeodnldaa
