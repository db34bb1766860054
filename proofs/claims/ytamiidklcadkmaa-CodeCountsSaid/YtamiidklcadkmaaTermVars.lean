/- term.Check, slices.Contains, term.vars, term.Vars, and the document's HasLong, vars, Vars: what they answer, over plain terms. -/
import Derived.Test.YtamiidklcadkmaaTermRight
set_option maxRecDepth 20000
set_option linter.unusedVariables false
set_option linter.unusedSimpArgs false
namespace Go.Proofs.Ytamiidklcadkmaa
open Go.RowKit Go.PM
/-- A term's value, open. -/
theorem TmV_open {w : World} {C : Nat → Prop} {t : Tm} {v : Value} (h : TmV w C t v) : ∃ a n c, v = .agg #[.int .i64 t.k, .string t.s, .int .i64 t.x, .slice a n c] ∧ rng64 t.k ∧ t.s.size ≤ 9223372036854775807 ∧ rng64 t.x ∧ Tm.At w C t (.slice a n c) := by
  obtain ⟨sl, rfl, h1, h2, h3, h4⟩ := h
  obtain ⟨a, n, c, rfl⟩ := Tm.at_shape h4
  exact ⟨a, n, c, rfl, h1, h2, h3, h4⟩
theorem Check_any (t : Tm) (w : World) (C : Nat → Prop) (v : Value) (hv : TmV w C t v) :
    Calls Try.prog 51 #[v] w fun e w' => e = .returned (.int .i64 (bif Tm.rightN t then 0 else 70)) ∧ Below w.heap.size w w' := by
  have HV := Lib.hid hv
  obtain ⟨a2, l2, c2, rfl, -, -, -, -⟩ := TmV_open hv
  have HI := right_one t (w.alloc (.cells #[.int .i64 t.k, .string t.s, .int .i64 t.x, .slice a2 l2 c2] 24)) C _ _ _ a2 l2 c2 (TmV.below HV.out ((Below.refl _ _).alloc (Nat.le_refl _) _))
  simp only [World.size_alloc] at HI
  have HI := Lib.hid HI
  clear HV hv
  generalize Tm.k t = k1 at *
  generalize Tm.s t = s1 at *
  generalize Tm.x t = x1 at *
  generalize Tm.rightN t = b at *
  go_enter Try.func51, Try.ntmps51
  go_wp2_with fail
  refine HI.out.mono ?_
  rintro e w5 ⟨rfl, hB5⟩
  have HB := Lib.hid (Below.trans' (((Below.refl w.heap.size w).alloc (Nat.le_refl _) (.cells #[.int .i64 k1, .string s1, .int .i64 x1, .slice a2 l2 c2] 24))) hB5 (by omega))
  clear HI hB5
  cases b
  · go_wp2_with fail
    go_ret
    exact ⟨rfl, HB.out⟩
  · go_wp2_with fail
    go_ret
    exact ⟨rfl, HB.out⟩
/-! ### rows of int64 -/
theorem info_lng : (Try.prog.info? 2).map (fun i => (i.zero, i.size, i.bytes)) = some (some (.int .i64 0), 1, 8) := by kernel_rfl
theorem parts_lng : ∃ i, Try.prog.info? 2 = some i ∧ i.zero = some (.int .i64 0) ∧ i.size = 1 ∧ i.bytes = 8 := by
  have h := info_lng
  cases hx : Try.prog.info? 2 with
  | none => rw [hx] at h; cases h
  | some i =>
    rw [hx] at h
    have := Option.some.inj h
    injection this with h1 h2
    injection h2 with h2 h3
    exact ⟨i, rfl, h1, h2, h3⟩
theorem wpList_append_lrow {ops : Array Oper} {rest : List Oper} {o : Oper} {a : Act} {Q : Exit → Act → World → Prop} {w0 : World} {own : Nat → Nat} {k n : Nat} {v : Value} {xs : List Int} (hgd : o.guard = none) (s y : Operand)
    (ho : o.op = .call { callee := .builtin .append, args := #[s, y], argTypes := #[56, 56] })
    (x : Int) (hs : a.eval s = v) (hrow : Row w0 own k 2 1 v n (irow xs)) (hn : n ≤ 7000000000000)
    {q : Nat} (hx : a.eval y = .slice (some ⟨q, 0, none⟩) 1 1) (hq : q = w0.heap.size)
    (h : ∀ v' w' own', Row w' own' k 2 1 v' (n + 1) (irow (xs ++ [x])) → Ext (fun c => c = k) w0 w' own own' → wpList Try.prog ops Q rest (a.put o.dst v') w') :
    wpList Try.prog ops Q (o :: rest) a (w0.alloc (.cells #[.int .i64 x] 2)) := by
  subst hq
  obtain ⟨i0, hi0, hz0, hz1, hz2⟩ := parts_lng
  have hb1 : n + 1 ≤ maxLen := by unfold maxLen; omega
  have hb2 : (n + 1) * 8 ≤ 140737488355328 := by omega
  refine wpList_append_row hgd s y 56 ho i0 (.int .i64 0) 8 Try.underlying56 hi0 hz0 hz1 hz2 rfl (by decide) hs (hrow.alloc _) ⟨w0.heap.size, 0, none⟩ 1 1 [.int .i64 x] hx rfl (one_cell (new_cell rfl)) (one_ok rfl) hb1 hb2 ?_
  intro v' w' h1 h2 _
  refine h v' w' _ ?_ ((Ext.refl.alloc _).trans h2)
  simpa [irow] using h1
/-! ### does a row have a number? -/
/-- Where a number stands first, from i on; -1: nowhere. -/
def idxL : List Int → Int → Nat → Int
  | [], _, _ => -1
  | y :: ys, x, i => if x = y then i else idxL ys x (i + 1)
theorem idxL_lt (ys : List Int) (x : Int) : ∀ i : Nat, -1 ≤ idxL ys x i ∧ (x ∈ ys → 0 ≤ idxL ys x i) ∧ (x ∉ ys → idxL ys x i = -1) := by
  induction ys with
  | nil => intro i; simp [idxL]
  | cons y ys ih =>
    intro i
    unfold idxL
    by_cases h : x = y
    · subst h
      rw [if_pos rfl]
      exact ⟨by omega, fun _ => by omega, fun h => absurd (by simp) h⟩
    · rw [if_neg h]
      obtain ⟨h1, h2, h3⟩ := ih (i + 1)
      refine ⟨h1, fun hm => h2 ?_, fun hm => h3 ?_⟩
      · rcases List.mem_cons.1 hm with hm | hm
        · exact absurd hm h
        · exact hm
      · exact fun hc => hm (List.mem_cons_of_mem _ hc)
def IxInv (w0 : World) (xs : List Int) (x r : Int) (g : Nat) (iv : Value) (w : World) : Prop :=
  ∃ i : Nat, iv = .int .i64 i ∧ i + g = xs.length ∧ idxL (xs.drop i) x i = r ∧ w = w0
set_option maxHeartbeats 1000000 in
theorem Index_any (xs : List Int) (x : Int) (w : World) (own : Nat → Nat) (K : Nat) (v : Value) (hv : Row w own K 2 1 v xs.length (irow xs)) (hn : xs.length ≤ 7000000000000) :
    Calls Try.prog 66 #[v, .int .i64 x] w fun e w' => e = .returned (.int .i64 (idxL xs x 0)) ∧ w = w' := by
  generalize hr : idxL xs x 0 = r
  have HR := Lib.hid hr
  clear hr
  obtain ⟨a, cap, rfl⟩ := hv.shape
  have HV := Lib.hid hv
  clear hv
  go_enter Try.func66, Try.ntmps66
  go_wp2_with fail
  go_loopg [5, 8] xs.length (fun g u5 iv wr => IxInv w xs x r g iv wr)
  case atStart => exact ⟨0, rfl, by omega, HR.out, rfl⟩
  case round =>
    obtain ⟨i, rfl, hi, hr, rfl⟩ := hrel
    by_cases hlt : i < xs.length
    · have hlt2 : (i : Int) < xs.length := by omega
      obtain ⟨g, rfl, hg, _, _, hx, hc⟩ := HV.out.irow_at hlt
      rw [List.drop_eq_getElem_cons hlt] at hr
      unfold idxL at hr
      by_cases he : x = xs[i]
      · rw [if_pos he] at hr
        subst hr
        rw [← he] at hc
        clear he
        go_wp2_with fail
        go_ret
        exact ⟨rfl, rfl⟩
      · rw [if_neg he] at hr
        have HR2 := Lib.hid hr
        have hb : (x == xs[i]) = false := by simp [he]
        clear hr he
        generalize xs[i] = y at *
        go_wp2_with fail
        go_roundg (xs.length - (i + 1))
        case measure => omega
        case rel => exact ⟨i + 1, by go_num, by omega, HR2.out, rfl⟩
    · obtain rfl : i = xs.length := by omega
      rw [List.drop_length] at hr
      unfold idxL at hr
      subst hr
      go_wp2_with fail
      go_ret
      exact ⟨rfl, rfl⟩
theorem Contains_any (xs : List Int) (x : Int) (w : World) (own : Nat → Nat) (K : Nat) (v : Value) (hv : Row w own K 2 1 v xs.length (irow xs)) (hn : xs.length ≤ 7000000000000) :
    Calls Try.prog 59 #[v, .int .i64 x] w fun e w' => e = .returned (.bool (decide (x ∈ xs))) ∧ w = w' := by
  obtain ⟨h0, h1, h2⟩ := idxL_lt xs x 0
  have HI := Lib.hid (Index_any xs x w own K v hv hn)
  generalize idxL xs x 0 = r at *
  by_cases hm : x ∈ xs
  · rw [decide_eq_true hm]
    have h1 := h1 hm
    clear h2 hm h0
    go_enter Try.func59, Try.ntmps59
    go_wp2_with (refine HI.out.mono ?_; rintro e w' ⟨rfl, rfl⟩)
    go_ret
    exact ⟨rfl, rfl⟩
  · rw [decide_eq_false hm]
    have h1 := h2 hm
    subst h1
    clear h2 hm h0
    go_enter Try.func59, Try.ntmps59
    go_wp2_with (refine HI.out.mono ?_; rintro e w' ⟨rfl, rfl⟩)
    go_ret
    exact ⟨rfl, rfl⟩
def HlInv (w0 : World) (xs : List Int) (x : Int) (b : Bool) (g : Nat) (iv : Value) (w : World) : Prop :=
  ∃ i : Nat, iv = .int .i64 i ∧ i + g = xs.length ∧ decide (x ∈ xs.drop i) = b ∧ w = w0
set_option maxHeartbeats 1000000 in
theorem HasLong_any (xs : List Int) (x : Int) (w : World) (own : Nat → Nat) (K : Nat) (v : Value) (hv : Row w own K 2 1 v xs.length (irow xs)) (hn : xs.length ≤ 7000000000000) :
    Calls Try.prog 54 #[v, .int .i64 x] w fun e w' => e = .returned (.bool (decide (x ∈ xs))) ∧ w = w' := by
  generalize hr : decide (x ∈ xs) = r
  have HR := Lib.hid hr
  clear hr
  obtain ⟨a, cap, rfl⟩ := hv.shape
  have HV := Lib.hid hv
  clear hv
  go_enter Try.func54, Try.ntmps54
  go_wp2_with fail
  go_loopg [5] xs.length (fun g iv wr => HlInv w xs x r g iv wr)
  case atStart => exact ⟨0, rfl, by omega, HR.out, rfl⟩
  case round =>
    obtain ⟨i, rfl, hi, hr, rfl⟩ := hrel
    by_cases hlt : i < xs.length
    · have hlt2 : (i : Int) < xs.length := by omega
      obtain ⟨g, rfl, hg, _, _, hx, hc⟩ := HV.out.irow_at hlt
      rw [List.drop_eq_getElem_cons hlt] at hr
      by_cases he : x = xs[i]
      · have hr : r = true := by rw [← hr, decide_eq_true_iff]; exact List.mem_cons.2 (.inl he)
        subst hr
        rw [← he] at hc
        clear he
        go_wp2_with fail
        go_ret
        exact ⟨rfl, rfl⟩
      · have HR2 : Hid (decide (x ∈ xs.drop (i + 1)) = r) := Lib.hid (by rw [← hr]; exact decide_eq_decide.2 ⟨fun h => List.mem_cons_of_mem _ h, fun h => (List.mem_cons.1 h).resolve_left he⟩)
        have hb : (xs[i] == x) = false := by simp [Ne.symm he]
        clear hr he
        generalize xs[i] = y at *
        go_wp2_with fail
        go_roundg (xs.length - (i + 1))
        case measure => omega
        case rel => exact ⟨i + 1, by go_num, by omega, HR2.out, rfl⟩
    · obtain rfl : i = xs.length := by omega
      rw [List.drop_length] at hr
      have hr : r = false := by rw [← hr]; simp
      subst hr
      go_wp2_with fail
      go_ret
      exact ⟨rfl, rfl⟩
end Go.Proofs.Ytamiidklcadkmaa
