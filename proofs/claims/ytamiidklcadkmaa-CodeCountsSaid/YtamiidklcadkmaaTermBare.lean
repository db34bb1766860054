/- term.bare, the document's Bare; rows of terms: what they hold, what append does to them. -/
import Derived.Test.YtamiidklcadkmaaTermVars3
set_option maxRecDepth 20000
set_option linter.unusedVariables false
set_option linter.unusedSimpArgs false
namespace Go.Proofs.Ytamiidklcadkmaa
open Go.RowKit Go.PM
def noStr : ByteArray := ⟨#[]⟩
/-- What bare makes of kind, name, number. -/
def bareS (k : Int) (s : ByteArray) : ByteArray := if k ≤ 2 then noStr else s
def bareX (k : Int) (x : Int) : Int := if k ≤ 2 then x else 0
abbrev bareV (k : Int) (s : ByteArray) (x : Int) : Value := .agg #[.int .i64 k, .string (bareS k s), .int .i64 (bareX k x), .slice none 0 0]
theorem bare_any (k : Int) (s : ByteArray) (x : Int) (a : Option Addr) (n c : Nat) (w : World) (hk : 1 ≤ k) :
    Calls Try.prog 60 #[.agg #[.int .i64 k, .string s, .int .i64 x, .slice a n c]] w fun e w' => e = .returned (.agg #[.int .i64 k, .string (bareS k s), .int .i64 (bareX k x), .slice none 0 0]) ∧ Below w.heap.size w w' := by
  have hB1 : Below w.heap.size w (w.alloc (.cells #[.int .i64 k, .string s, .int .i64 x, .slice a n c] 24)) := (Below.refl _ _).alloc (Nat.le_refl _) _
  have HB := Lib.hid (fun o => hB1.alloc (by rw [World.size_alloc]; omega) o)
  clear hB1
  by_cases k1 : k = 1
  · subst k1
    have hs : (Value.agg #[.int .i64 1, .string (bareS 1 s), .int .i64 (bareX 1 x), .slice none 0 0]) = .agg #[.int .i64 1, .string noStr, .int .i64 x, .slice none 0 0] := rfl
    rw [hs]
    go_enter Try.func60, Try.ntmps60
    go_wp2_with fail
    exact bodyPost_ret (v := .agg #[.int .i64 1, .string noStr, .int .i64 x, .slice none 0 0]) (by simp [results, Try.results60, go_sem]; rfl) rfl ⟨rfl, HB.out _⟩
  by_cases k2 : k = 2
  · subst k2
    have hs : (Value.agg #[.int .i64 2, .string (bareS 2 s), .int .i64 (bareX 2 x), .slice none 0 0]) = .agg #[.int .i64 2, .string noStr, .int .i64 x, .slice none 0 0] := rfl
    rw [hs]
    go_enter Try.func60, Try.ntmps60
    go_wp2_with fail
    exact bodyPost_ret (v := .agg #[.int .i64 2, .string noStr, .int .i64 x, .slice none 0 0]) (by simp [results, Try.results60, go_sem]; rfl) rfl ⟨rfl, HB.out _⟩
  have b1 : (k == 1) = false := by simp [k1]
  have b2 : (k == 2) = false := by simp [k2]
  have hs : (Value.agg #[.int .i64 k, .string (bareS k s), .int .i64 (bareX k x), .slice none 0 0]) = .agg #[.int .i64 k, .string s, .int .i64 0, .slice none 0 0] := by
    unfold bareS bareX
    rw [if_neg (by omega), if_neg (by omega)]
  rw [hs]
  go_enter Try.func60, Try.ntmps60
  go_wp2_with fail
  exact bodyPost_ret (v := .agg #[.int .i64 k, .string s, .int .i64 0, .slice none 0 0]) (by simp [results, Try.results60, go_sem]) rfl ⟨rfl, HB.out _⟩
theorem rbare_any (k : Int) (s : ByteArray) (x : Int) (a : Option Addr) (n c : Nat) (w : World) :
    Calls Try.prog 56 #[.agg #[.int .i64 k, .string s, .int .i64 x, .slice a n c]] w fun e w' => e = .returned (.agg #[.int .i64 k, .string (bareS k s), .int .i64 (bareX k x), .slice none 0 0]) ∧ Below w.heap.size w w' := by
  have hB1 : Below w.heap.size w (w.alloc (.cells #[.int .i64 k, .string s, .int .i64 x, .slice a n c] 24)) := (Below.refl _ _).alloc (Nat.le_refl _) _
  have HB := Lib.hid (fun o => hB1.alloc (by rw [World.size_alloc]; omega) o)
  clear hB1
  by_cases k2 : k ≤ 2
  · have hs : (Value.agg #[.int .i64 k, .string (bareS k s), .int .i64 (bareX k x), .slice none 0 0]) = .agg #[.int .i64 k, .string noStr, .int .i64 x, .slice none 0 0] := by
      unfold bareS bareX
      rw [if_pos k2, if_pos k2]
    rw [hs]
    go_enter Try.func56, Try.ntmps56
    go_wp2_with fail
    exact bodyPost_ret (v := .agg #[.int .i64 k, .string noStr, .int .i64 x, .slice none 0 0]) (by simp [results, Try.results56, go_sem]; rfl) rfl ⟨rfl, HB.out _⟩
  · have hs : (Value.agg #[.int .i64 k, .string (bareS k s), .int .i64 (bareX k x), .slice none 0 0]) = .agg #[.int .i64 k, .string s, .int .i64 0, .slice none 0 0] := by
      unfold bareS bareX
      rw [if_neg k2, if_neg k2]
    rw [hs]
    go_enter Try.func56, Try.ntmps56
    go_wp2_with fail
    exact bodyPost_ret (v := .agg #[.int .i64 k, .string s, .int .i64 0, .slice none 0 0]) (by simp [results, Try.results56, go_sem]) rfl ⟨rfl, HB.out _⟩
/-! ### rows of terms -/
/-- Cells that are terms, one behind the other. -/
def TCells (w : World) (C : Nat → Prop) : List Tm → List Value → Prop
  | [], xs => xs = []
  | t :: ts, xs => ∃ sl xs', xs = .int .i64 t.k :: .string t.s :: .int .i64 t.x :: sl :: xs' ∧ (rng64 t.k ∧ t.s.size ≤ 9223372036854775807 ∧ rng64 t.x ∧ Tm.At w C t sl) ∧ TCells w C ts xs'
theorem TCells.len {w : World} {C : Nat → Prop} : ∀ {ts : List Tm} {xs : List Value}, TCells w C ts xs → xs.length = ts.length * 4
  | [], _, h => by unfold TCells at h; subst h; rfl
  | t :: ts, _, h => by
    unfold TCells at h
    obtain ⟨sl, xs', rfl, _, h⟩ := h
    have := TCells.len h
    simp [this]
    omega
theorem TCells.carry {w w' : World} {C C' : Nat → Prop} (hs : w.heap.size ≤ w'.heap.size) (hc : ∀ g, g < w.heap.size → C g → w'.heap[g]? = w.heap[g]? ∧ C' g) : ∀ {ts : List Tm} {xs : List Value}, TCells w C ts xs → TCells w' C' ts xs
  | [], _, h => h
  | t :: ts, _, h => by
    unfold TCells at h ⊢
    obtain ⟨sl, xs', rfl, ⟨h1, h2, h3, h4⟩, h⟩ := h
    exact ⟨sl, xs', rfl, ⟨h1, h2, h3, Tm.at_carry hs hc t sl h4⟩, TCells.carry hs hc h⟩
theorem TCells.snoc {w : World} {C : Nat → Prop} {t : Tm} {k : Int} {s : ByteArray} {x : Int} {sl : Value} (hv : TmV w C t (.agg #[.int .i64 k, .string s, .int .i64 x, sl])) : ∀ {ts : List Tm} {xs : List Value}, TCells w C ts xs → TCells w C (ts ++ [t]) (xs ++ [.int .i64 k, .string s, .int .i64 x, sl])
  | [], _, h => by
    unfold TCells at h
    subst h
    obtain ⟨sl', he, h1, h2, h3, h4⟩ := hv
    injection he with he
    have e0 := congrArg (fun a => a[0]?) he
    have e1 := congrArg (fun a => a[1]?) he
    have e2 := congrArg (fun a => a[2]?) he
    have e3 := congrArg (fun a => a[3]?) he
    simp at e0 e1 e2 e3
    subst e0
    subst e1
    subst e2
    subst e3
    exact ⟨_, [], rfl, ⟨h1, h2, h3, h4⟩, rfl⟩
  | t' :: ts, _, h => by
    unfold TCells at h
    obtain ⟨sl', xs', rfl, h1, h⟩ := h
    exact ⟨sl', _, rfl, h1, TCells.snoc hv h⟩
theorem TCells.get {w : World} {C : Nat → Prop} : ∀ {ts : List Tm} {xs : List Value}, TCells w C ts xs → ∀ {i : Nat} (h : i < ts.length),
    xs[i * 4]? = some (.int .i64 ts[i].k) ∧ xs[i * 4 + 1]? = some (.string ts[i].s) ∧ xs[i * 4 + 2]? = some (.int .i64 ts[i].x) ∧ rng64 ts[i].k ∧ ts[i].s.size ≤ 9223372036854775807 ∧ rng64 ts[i].x ∧ ∃ sl, xs[i * 4 + 3]? = some sl ∧ Tm.At w C ts[i] sl
  | t :: ts, _, h, 0, _ => by
    unfold TCells at h
    obtain ⟨sl, xs', rfl, ⟨h1, h2, h3, h4⟩, h⟩ := h
    exact ⟨rfl, rfl, rfl, h1, h2, h3, sl, rfl, h4⟩
  | t :: ts, _, h, i + 1, hi => by
    unfold TCells at h
    obtain ⟨sl, xs', rfl, _, h⟩ := h
    have := TCells.get h (i := i) (by simpa using hi)
    have key : ∀ (a b c d : Value) (j : Nat), (a :: b :: c :: d :: xs')[(i + 1) * 4 + j]? = xs'[i * 4 + j]? := fun a b c d j => by
      rw [show (i + 1) * 4 + j = i * 4 + j + 4 by omega]
      rfl
    have k0 := key (.int .i64 t.k) (.string t.s) (.int .i64 t.x) sl 0
    simp only [Nat.add_zero] at k0
    obtain ⟨q0, q1, q2, q3, q4, q5, sl2, q6, q7⟩ := this
    exact ⟨by rw [k0]; exact q0, by rw [key]; exact q1, by rw [key]; exact q2, q3, q4, q5, sl2, by rw [key]; exact q6, q7⟩
/-- v is a slice of terms of its own, of the colour K; their arguments lie in blocks of which C is true. -/
def TRow (w : World) (own : Nat → Nat) (K : Nat) (C : Nat → Prop) (v : Value) (ts : List Tm) : Prop := ∃ xs, Row w own K 24 4 v ts.length xs ∧ TCells w C ts xs
theorem TRow.nil (w : World) (own : Nat → Nat) (K : Nat) (C : Nat → Prop) : TRow w own K C (.slice none 0 0) [] := ⟨[], Row.nil _ _ _ _ _, rfl⟩
theorem TRow.ext {M : Nat → Prop} {w w' : World} {own own' : Nat → Nat} {K : Nat} {C C' : Nat → Prop} {v : Value} {ts : List Tm} (h : TRow w own K C v ts) (e : Ext M w w' own own') (hk : ¬ M K) (hc : ∀ g, g < w.heap.size → C g → ¬ M (own g) ∧ C' g) : TRow w' own' K C' v ts := by
  obtain ⟨xs, h1, h2⟩ := h
  exact ⟨xs, h1.ext e hk, h2.carry e.size fun g hg hcg => ⟨e.same g hg (hc g hg hcg).1, (hc g hg hcg).2⟩⟩
/-- A row of terms as a term's arguments. -/
theorem TRow.at {w : World} {own : Nat → Nat} {K : Nat} {C C' : Nat → Prop} {v : Value} {ts : List Tm} (h : TRow w own K C v ts) (k : Int) (s : ByteArray) (x : Int) (hC : ∀ g, g < w.heap.size → own g = K → C' g) (hC2 : ∀ g, g < w.heap.size → C g → C' g) (hl : ts.length ≤ 9223372036854775807) : Tm.At w C' (.mk k s x ts) v := by
  obtain ⟨xs, h1, h2⟩ := h
  unfold Tm.At
  cases hts : ts with
  | nil =>
    subst hts
    obtain ⟨a, c, rfl⟩ := h1.shape
    exact .inl ⟨rfl, a, c, rfl⟩
  | cons t us =>
    rw [← hts]
    have hn : 0 < ts.length := by rw [hts]; simp
    obtain ⟨g, cap, cur, rfl, hb, _, _, _, hcell⟩ := h1.cells hn
    refine .inr ⟨hl, g, 0, cap, rfl, hb.lt, hC g hb.lt hb.col, Tms.of_get fun i hi => ?_⟩
    obtain ⟨q0, q1, q2, q3, q4, q5, sl, q6, q7⟩ := TCells.get h2 hi
    rw [Nat.zero_add]
    exact ⟨by rw [hcell _ (by omega)]; exact q0, by rw [hcell _ (by omega)]; exact q1, by rw [hcell _ (by omega)]; exact q2, q3, q4, q5, sl, by rw [hcell _ (by omega)]; exact q6,
      Tm.at_carry (Nat.le_refl _) (fun g hg hc => ⟨rfl, hC2 g hg hc⟩) _ _ q7⟩
theorem info_tm : (Try.prog.info? 24).map (fun i => (i.zero, i.size, i.bytes)) = some (some (.agg #[.int .i64 0, .string noStr, .int .i64 0, .slice none 0 0]), 4, 56) := by kernel_rfl
theorem parts_tm : ∃ i, Try.prog.info? 24 = some i ∧ i.zero = some (.agg #[.int .i64 0, .string noStr, .int .i64 0, .slice none 0 0]) ∧ i.size = 4 ∧ i.bytes = 56 := by
  have h := info_tm
  cases hx : Try.prog.info? 24 with
  | none => rw [hx] at h; cases h
  | some i =>
    rw [hx] at h
    have := Option.some.inj h
    injection this with h1 h2
    injection h2 with h2 h3
    exact ⟨i, rfl, h1, h2, h3⟩
theorem wpList_append_trow {ops : Array Oper} {rest : List Oper} {o : Oper} {a : Act} {Q : Exit → Act → World → Prop} {w0 : World} {own : Nat → Nat} {K : Nat} {C : Nat → Prop} {v : Value} {ts : List Tm} (hgd : o.guard = none) (s y : Operand)
    (ho : o.op = .call { callee := .builtin .append, args := #[s, y], argTypes := #[22, 22] })
    {t : Tm} {k : Int} {st : ByteArray} {x : Int} {a2 : Option Addr} {l2 c2 : Nat} (hv : TmV w0 C t (.agg #[.int .i64 k, .string st, .int .i64 x, .slice a2 l2 c2]))
    (hs : a.eval s = v) (hrow : TRow w0 own K C v ts) (hn : ts.length ≤ 1000000000000) (hC : ∀ g, g < w0.heap.size → C g → own g ≠ K)
    {q : Nat} (hx : a.eval y = .slice (some ⟨q, 0, none⟩) 1 1) (hq : q = w0.heap.size)
    (h : ∀ v' w', TRow w' (ow own w0.heap.size K) K (fun g => C g ∧ g < w0.heap.size) v' (ts ++ [t]) → Ext (fun c => c = K) w0 w' own (ow own w0.heap.size K) → wpList Try.prog ops Q rest (a.put o.dst v') w') :
    wpList Try.prog ops Q (o :: rest) a (w0.alloc (.cells #[.int .i64 k, .string st, .int .i64 x, .slice a2 l2 c2] 24)) := by
  subst hq
  obtain ⟨xs, h1, h2⟩ := hrow
  obtain ⟨i0, hi0, hz0, hz1, hz2⟩ := parts_tm
  have hb1 : ts.length + 1 ≤ maxLen := by unfold maxLen; omega
  have hb2 : (ts.length + 1) * 56 ≤ 140737488355328 := by omega
  have hnew : (w0.alloc (.cells #[.int .i64 k, .string st, .int .i64 x, .slice a2 l2 c2] 24)).heap[w0.heap.size]? = some (.cells #[.int .i64 k, .string st, .int .i64 x, .slice a2 l2 c2] 24) := heap_alloc_new _ _
  have hrow0 : Row (w0.alloc (.cells #[.int .i64 k, .string st, .int .i64 x, .slice a2 l2 c2] 24)) (ow own w0.heap.size K) K 24 4 v ts.length xs := (Row_ow h1 K).alloc _
  refine wpList_append_row hgd s y 22 ho i0 _ 56 Try.underlying22 hi0 hz0 hz1 hz2 rfl (by decide) hs hrow0 ⟨w0.heap.size, 0, none⟩ 1 1 [.int .i64 k, .string st, .int .i64 x, .slice a2 l2 c2] hx rfl ?_ ?_ hb1 hb2 ?_
  · intro j u hu
    have hadd : ((⟨w0.heap.size, 0, none⟩ : Addr).add j) = ⟨w0.heap.size, j, none⟩ := by unfold Addr.add; split <;> simp_all
    rw [hadd, cell_of_row _ _ _ _ _ _ hnew]
    simpa using hu
  · intro u hu
    simp at hu
    rcases hu with rfl | rfl | rfl | rfl <;> rfl
  · intro v' w' hr hE _
    have hE2 : Ext (fun c => c = K) w0 w' own (ow (ow own w0.heap.size K) (w0.alloc (.cells #[.int .i64 k, .string st, .int .i64 x, .slice a2 l2 c2] 24)).heap.size K) := ((Ext.refl.ow K).alloc _).trans hE
    have he : ow (ow own w0.heap.size K) (w0.alloc (.cells #[.int .i64 k, .string st, .int .i64 x, .slice a2 l2 c2] 24)).heap.size K = ow own w0.heap.size K := by
      funext b
      rw [World.size_alloc]
      simp only [ow]
      split
      · rfl
      · rw [if_neg (by omega)]
    rw [he] at hr hE2
    refine h v' w' ⟨_, by rw [List.length_append]; exact hr, ?_⟩ hE2
    exact (TCells.snoc hv h2).carry hE2.size fun g hg hc => ⟨hE2.same g hg (hC g hg hc), hc, hg⟩
end Go.Proofs.Ytamiidklcadkmaa
