/- Layer 5: New and List. Printed by gen_chain.py from chainlist.in. -/
import Derived.Test.YtefhngbeodnldaaChain
set_option maxRecDepth 20000
set_option linter.unusedVariables false
set_option linter.unusedSimpArgs false
namespace Go.Proofs.Ytefhngbeodnldaa
open Go.RowKit Go.PM
theorem append_i64 {ops : Array Oper} {rest : List Oper} {o : Oper} {a : Act} {Q : Exit → Act → World → Prop} {w0 : World} {own : Nat → Nat} {k n : Nat} {v : Value} {xs : List Int} (hgd : o.guard = none) (s y : Operand)
    (ho : o.op = .call { callee := .builtin .append, args := #[s, y], argTypes := #[22, 22] })
    (x : Int) (hs : a.eval s = v) (hrow : Row w0 own k 2 1 v n (irow xs)) (hn : n ≤ 7000000000000)
    {q : Nat} (hx : a.eval y = .slice (some ⟨q, 0, none⟩) 1 1) (hq : q = w0.heap.size)
    (h : ∀ v' w' own', Row w' own' k 2 1 v' (n + 1) (irow (xs ++ [x])) → Ext (fun c => c = k) w0 w' own own' → wpList Try.prog ops Q rest (a.put o.dst v') w') :
    wpList Try.prog ops Q (o :: rest) a (w0.alloc (.cells #[.int .i64 x] 2)) := by
  subst hq
  obtain ⟨i0, hi0, hz0, hz1, hz2⟩ := parts_i64
  have hb1 : n + 1 ≤ maxLen := by unfold maxLen; omega
  have hb2 : (n + 1) * 8 ≤ 140737488355328 := by omega
  refine wpList_append_row hgd s y 22 ho i0 (.int .i64 0) 8 Try.underlying22 hi0 hz0 hz1 hz2 rfl (by decide) hs (hrow.alloc _) ⟨w0.heap.size, 0, none⟩ 1 1 [.int .i64 x] hx rfl (one_cell (new_cell rfl)) (one_ok rfl) hb1 hb2 ?_
  intro v' w' h1 h2 _
  refine h v' w' _ ?_ ((Ext.refl.alloc _).trans h2)
  simpa [irow] using h1
theorem BaseAt.mk {w : World} {own : Nat → Nat} {k b a y : Nat} {B : BV} (h : BaseAt w own k b a y B) : BaseAt w own k b a y B := h
theorem BaseAt.ext {M : Nat → Prop} {w w' : World} {own own' : Nat → Nat} {k b a y : Nat} {B : BV} (h : BaseAt w own k b a y B) (e : Ext M w w' own own') (hk : ¬ M k) : BaseAt w' own' k b a y B := Blk.ext h e hk
section
variable {w : World} {own : Nat → Nat} {q a y b : Nat} {V : AV} {B : BV}
def NewPost (q a y : Nat) (V : AV) (n : Int) (w : World) (own : Nat → Nat) (e : Ending) (w' : World) : Prop :=
  ∃ b own', e = .returned (.tuple #[.pointer (some ⟨b, 0, none⟩), .int .i64 0]) ∧ w.heap.size ≤ b ∧ Ext (fun c => c = q + 1) w w' own own' ∧ Arena w' own' (q + 1) a (V.alloc n) ∧ BaseAt w' own' (q + 3) b a y ⟨V.made + 1, n⟩
set_option maxHeartbeats 2000000 in
theorem CoNew_any (hA : Arena w own (q + 1) a V) (hm : V.made < 1000000000000000) (n : Int) (hn1 : 1 ≤ n) (hn2 : n ≤ 64) (he : V.allocErr n = 0) :
    Calls Try.prog 22 #[.pointer (some ⟨a, 0, none⟩), .pointer (some ⟨y, 0, none⟩), .int .i64 n] w (NewPost q a y V n w own) := by
  have HAL := Lib.hid (Alloc_any hA hm n)
  rw [he] at HAL
  clear hA
  go_enter Try.func22, Try.ntmps22
  go_wp2_with fail
  refine HAL.out.mono ?_
  rintro e w2 ⟨rfl, own2, hE2, hA2⟩
  have hX : Ext (fun _ => False) w2 (w2.alloc (.cells #[.pointer (some ⟨a, 0, none⟩), .pointer (some ⟨y, 0, none⟩), .int .i64 (V.made + 1), .int .i64 n] 70)) own2 (PM.ow own2 w2.heap.size (q + 3)) := (Ext.refl.ow (q + 3)).alloc _
  have HP := Lib.hid (show w.heap.size ≤ w2.heap.size ∧ Ext (fun c => c = q + 1) w _ own (PM.ow own2 w2.heap.size (q + 3)) ∧ Arena _ (PM.ow own2 w2.heap.size (q + 3)) (q + 1) a (V.alloc n) ∧ BaseAt _ (PM.ow own2 w2.heap.size (q + 3)) (q + 3) w2.heap.size a y ⟨V.made + 1, n⟩ from
    ⟨hE2.size, hE2.trans (hX.mono (fun _ h => h.elim)), hA2.ext hX (fun h => h), Blk.new w2 _ (ow_ge (Nat.le_refl _))⟩)
  clear hE2 hA2 hX HAL
  simp only [if_true]
  go_wp2_with fail
  go_ret2
  exact ⟨w2.heap.size, _, rfl, HP.out⟩
def LsInv (q a : Nat) (V : AV) (xs : List Int) (w0 : World) (own0 : Nat → Nat) (g : Nat) (ov iv : Value) (w : World) : Prop :=
  ∃ (own : Nat → Nat) (i : Nat), iv = .int .i64 i ∧ i + g = xs.length ∧ Row w own q 2 1 ov i (irow (xs.take i)) ∧ Arena w own (q + 1) a V ∧ Ext (fun c => c = q + 1 ∨ c = q) w0 w own0 own
/-- What a chain has: its list and its stamp. -/
def AV.chain (V : AV) (B : BV) (c : Int) : List Int × Int := match V.find (V.val B.block (c - 1)) with | none => ([], 0) | some xs => (xs.drop 1, hd0 xs)
def LsPost (q a : Nat) (V : AV) (p : List Int × Int) (w : World) (own : Nat → Nat) (e : Ending) (w' : World) : Prop :=
  ∃ v own', e = .returned (.tuple #[v, .int .i64 p.2]) ∧ Vw w' v p.1 ∧ Arena w' own' (q + 1) a V ∧ Ext (fun c => c = q + 1 ∨ c = q) w w' own own'
set_option maxHeartbeats 4000000 in
theorem CoList_any (hA : Arena w own (q + 1) a V) (hB : BaseAt w own (q + 3) b a y B) (hf : V.faults < 1000000000000000) (c : Int) (hc1 : 1 ≤ c) (hc2 : c ≤ B.chains) (hc3 : B.chains ≤ 64) (hb : V.freeErr B.block = 0)
    (hat : V.val B.block (c - 1) = 0 ∧ V.find 0 = none ∨ ∃ xs, 0 < V.val B.block (c - 1) ∧ V.find (V.val B.block (c - 1)) = some xs ∧ 0 < xs.length ∧ xs.length ≤ 300) :
    Calls Try.prog 15 #[.pointer (some ⟨b, 0, none⟩), .int .i64 c] w (LsPost q a V (V.chain B c) w own) := by
  obtain ⟨b0, b1, b2, b3⟩ := BaseAt.y hB
  have hbl := Blk.lt hB
  have hX0 : Ext (fun _ => False) w w.drew own own := Ext.refl.drew
  have HA := Lib.hid (hA.ext hX0 (fun h => h))
  have HBA := Lib.hid (BaseAt.mk hB)
  clear hA hB
  go_enter Try.func15, Try.ntmps15
  have h64 : c ≤ 64 := by omega
  go_wp2_with fail
  refine wp_region_plan2 [(true, 0, [1, 2, 3, 10, 11, 12, 13, 14, 15]), (true, 4, [5, 6, 7, 10, 11, 12, 13, 14, 15]), (true, 8, [9, 10, 11, 12, 13, 14, 15]), (true, 9, [10, 11, 12, 13, 14, 15]), (true, 1, [2, 3, 10, 11, 12, 13, 14, 15]), (true, 2, [3, 10, 11, 12, 13, 14, 15]), (true, 3, [10, 11, 12, 13, 14, 15]), (true, 5, [6, 7, 10, 11, 12, 13, 14, 15]), (true, 6, [7, 10, 11, 12, 13, 14, 15]), (true, 7, [10, 11, 12, 13, 14, 15]), (false, 10, []), (true, 11, [12, 13, 14, 15]), (true, 12, [14, 15]), (true, 13, [15]), (true, 14, [15]), (true, 15, [])] (by kernel_rfl) (by kernel_rfl) (fun _ _ _ d _ h => by cases d <;> exact h) ?_
  iterate 10 (refine plan_early rfl ?_; still_step; refine wpStill_nil ?_)
  refine plan_big rfl ?_
  go_wp2_with fail
  refine (Load_any HA.out hf B.block (c - 1)).mono ?_
  rintro e w2 ⟨rfl, own2, hE2, hA2⟩
  rw [touch_ok hb] at hA2
  have HE2 := Lib.hid ((hX0.mono (M' := fun c => c = q + 1 ∨ c = q) (fun _ h => h.elim)).trans (hE2.mono (fun c h => .inl h)))
  have HA2 := Lib.hid hA2
  have HB2 := Lib.hid (BaseAt.mk (BaseAt.ext (HBA.out) HE2.out (by omega)))
  clear hE2 hA2 hX0 HA b0 b1 b2 b3 hbl
  obtain ⟨b0, b1, b2, b3⟩ := BaseAt.y HB2.out
  have hbl := Blk.lt HB2.out
  go_wp2_with fail
  iterate 5 (refine plan_early rfl ?_; still_step; refine wpStill_nil ?_)
  refine plan_nil ?_
  have HCH := Lib.hid (show V.chain B c = (match V.find (V.val B.block (c - 1)) with | none => ([], 0) | some xs => (xs.drop 1, hd0 xs)) from rfl)
  generalize V.val B.block (c - 1) = at_ at *
  rcases hat with ⟨rfl, hfn⟩ | ⟨xs, h0, hfs, hx0, hx3⟩
  · have HC2 := Lib.hid (show V.chain B c = ([], 0) by rw [HCH.out, hfn])
    clear hfn HCH
    go_wp2_with fail
    go_loopg [9, 49] 0 (fun g ov iv wr => LsInv q a V [] w2 own2 g ov iv wr ∧ ov = .slice none 0 0 ∧ wr = w2)
    case atStart => exact ⟨⟨own2, 0, rfl, rfl, Row.nil _ _ _ _ _, HA2.out, Ext.refl⟩, rfl, rfl⟩
    case round =>
      obtain ⟨⟨own3, i, rfl, hi, hrow, hA3, hE3⟩, rfl, rfl⟩ := hrel
      have hi0 : i = 0 := by simp at hi; omega
      subst hi0
      clear hrow hA3 hE3
      go_wp2_with fail
      go_ret2
      exact ⟨_, own2, by rw [HC2.out]; rfl, by rw [HC2.out]; exact ⟨by simp, .inl ⟨rfl, rfl⟩⟩, HA2.out, HE2.out⟩
  · have HC2 := Lib.hid (show V.chain B c = (xs.drop 1, hd0 xs) by rw [HCH.out, hfs])
    have htk : V.touch at_ = V := touch_ok (by unfold AV.freeErr; rw [hfs])
    have hsz : V.size at_ = (xs.length : Nat) := by unfold AV.size; rw [hfs]
    have hvl : ∀ i (hi : i < xs.length), V.val at_ (i : Nat) = xs[i] := fun i hi => by unfold AV.val; rw [hfs]; simp [hi]
    have HTK := Lib.hid htk
    have HVL := Lib.hid hvl
    have HSZ := Lib.hid (Size_any HA2.out hf at_)
    rw [hsz, htk] at HSZ
    clear hfs HCH htk hvl hsz
    go_wp2_with fail
    refine HSZ.out.mono ?_
    rintro e w3 ⟨rfl, own3, hE3, hA3⟩
    have HE3 := Lib.hid (HE2.out.trans (hE3.mono (fun c h => .inl h)))
    have HA3 := Lib.hid hA3
    have HB3 := Lib.hid (BaseAt.mk (BaseAt.ext HB2.out hE3 (by omega)))
    clear hE3 hA3 HSZ HA2 HE2 HB2 b0 b1 b2 b3 hbl
    have hxn : ((xs.length : Nat) : Int) ≠ 0 := by omega
    go_wp2_with fail
    go_loopg [9, 49] xs.length (fun g ov iv wr => LsInv q a V xs w3 own3 g ov iv wr)
    case atStart => exact ⟨own3, 0, rfl, by omega, Row.nil _ _ _ _ _, HA3.out, Ext.refl⟩
    case round =>
      obtain ⟨own4, i, rfl, hi, hrow, hA4, hE4⟩ := hrel
      obtain ⟨oa, oc, rfl⟩ := hrow.shape
      have HW := Lib.hid hrow
      have HA4 := Lib.hid hA4
      have HE4 := Lib.hid hE4
      have hb4 := BaseAt.ext HB3.out hE4 (by omega)
      obtain ⟨b0, b1, b2, b3⟩ := BaseAt.y hb4
      have hbl := Blk.lt hb4
      by_cases hlt : i < xs.length
      · have hlt2 : (i : Int) < (xs.length : Int) := by omega
        have HLD := Lib.hid (Load_any HA4.out hf at_ (i : Nat))
        rw [HTK.out, HVL.out i hlt] at HLD
        have HT := Lib.hid (show xs.take (i + 1) = xs.take i ++ [xs[i]] from List.take_succ_eq_append_getElem hlt)
        clear hrow hA4 hE4 hb4
        generalize xs[i] = z at *
        go_wp2_with fail
        refine HLD.out.mono ?_
        rintro e w5 ⟨rfl, own5, hE5, hA5⟩
        have HW5 := Lib.hid (HW.out.ext hE5 (by omega))
        have HA5 := Lib.hid hA5
        have HE5 := Lib.hid (HE4.out.trans (hE5.mono (fun c h => .inl h)))
        clear hE5 hA5 HLD HW HA4 HE4 b0 b1 b2 b3 hbl
        go_wp2_with (at_builtin; refine append_i64 (w0 := w5) (n := i) rfl _ _ rfl z rfl HW5.out (by omega) rfl rfl ?_; intro v8 w8 own8 hr8 hE8; obtain ⟨a8, c8, rfl⟩ := hr8.shape)
        have HR8 := Lib.hid hr8
        have HE8 := Lib.hid (HE5.out.trans (hE8.mono (fun c h => .inr h)))
        have HA8 := Lib.hid (HA5.out.ext hE8 (by omega))
        clear hr8 hE8
        go_wp2_with fail
        go_roundg (xs.length - (i + 1))
        case measure => omega
        case rel => exact ⟨_, i + 1, by go_num, by omega, by rw [HT.out]; exact HR8.out, HA8.out, HE8.out⟩
      · obtain rfl : i = xs.length := by omega
        have hrow2 : Row wr own4 q 2 1 (.slice oa xs.length oc) xs.length (irow xs) := by have := hrow; rw [List.take_length] at this; exact this
        obtain ⟨g, rfl, hg, hnc, hcm, -, hvw⟩ := Row.vw hrow2 rfl (by omega) 1 (by omega) hx0
        obtain ⟨g', he, -, -, -, hx9, hc9⟩ := hrow2.irow_at (i := 0) hx0
        injection he with he
        injection he with he
        subst he
        rw [head_get xs hx0] at hc9
        have HVD := Lib.hid (fun n : Nat => (show Vw (wr.drewN n) (.slice (some ⟨g, 1, none⟩) (xs.length - 1) (oc - 1)) (xs.drop 1) from hvw))
        have HQ := Lib.hid (fun n => (HE3.out.trans HE4.out).drewN n)
        have HAQ := Lib.hid (fun n => HA4.out.ext (M := fun _ => False) (Ext.refl.drewN n) (fun h => h))
        have h1l : (1 : Int) ≤ (xs.length : Int) := by omega
        clear hrow hrow2 hA4 hE4 hb4 hx9 hvw HW
        by_cases hoc : oc = 1
        · have hl1 : xs.length = 1 := by omega
          have HC3 := Lib.hid (show xs.drop 1 = [] from List.length_eq_zero_iff.1 (by rw [List.length_drop]; omega))
          subst hoc
          generalize hd0 xs = st at *
          rw [hl1]
          clear hnc hcm hx0 hx3
          go_wp2_with fail
          go_quiet (fail)
          go_wp2_with fail
          go_ret2
          exact ⟨_, own4, by rw [HC2.out]; rfl, by rw [HC2.out, HC3.out]; exact ⟨by simp, .inr ⟨g, 0, 0, rfl, by simp, by unfold maxLen; omega, hg, fun j x hj => by simp at hj⟩⟩, HAQ.out _, HQ.out _⟩
        · generalize hd0 xs = st at *
          clear hnc hx0 hx3
          go_wp2_with fail
          go_quiet (fail)
          go_wp2_with fail
          go_ret2
          exact ⟨_, own4, by rw [HC2.out]; rfl, by rw [HC2.out]; exact HVD.out _, HAQ.out _, HQ.out _⟩
end
end Go.Proofs.Ytefhngbeodnldaa
