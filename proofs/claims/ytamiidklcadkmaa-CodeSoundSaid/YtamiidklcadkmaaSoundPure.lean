/- Plain facts for CodeSound: renamed clauses, saves, spoiled code. -/
import Derived.Test.YtamiidklcadkmaaGoalPure
set_option maxRecDepth 20000
set_option linter.unusedVariables false
set_option linter.unusedSimpArgs false
namespace Go.Proofs.Ytamiidklcadkmaa
open Go.RowKit Go.PM
theorem comp_ren (h b : Tm) (hk : compOk h b = true) : compOk (Tm.ren (clM h b) h) (Tm.ren (clM h b) b) = true ∧ compM (Tm.ren (clM h b) h) (Tm.ren (clM h b) b) = compM h b := by
  have hk0 := hk
  unfold compOk at hk
  rw [Bool.and_eq_true] at hk
  obtain ⟨hr, hk2⟩ := hk
  have hwr : whole (Tm.ren (clM h b) h) (Tm.ren (clM h b) b) = Tm.ren (clM h b) (whole h b) := (ren_whole (clM h b) h b).symm
  have hv : Tm.vars (Tm.ren (clM h b) (whole h b)) [] = (Tm.vars (whole h b) []).map (rnf (clM h b)) :=
    vars_map (clM h b) (Tm.vars (whole h b) []) (rnf_inj _ 1) (whole h b) [] (fun x hx => by cases hx) (fun x hx => hx)
  have hm : clM (Tm.ren (clM h b) h) (Tm.ren (clM h b) b) = renM ((Tm.vars (whole h b) []).map (rnf (clM h b))) 1 := by
    rw [show clM (Tm.ren (clM h b) h) (Tm.ren (clM h b) b) = renM (Tm.vars (whole (Tm.ren (clM h b) h) (Tm.ren (clM h b) b)) []) 1 from rfl, hwr, hv]
  have hc : ∀ t, (∀ x ∈ Tm.vars t [], x ∈ Tm.vars (whole h b) []) → Tm.ren (clM (Tm.ren (clM h b) h) (Tm.ren (clM h b) b)) (Tm.ren (clM h b) t) = Tm.ren (clM h b) t := fun t ht => by
    rw [hm]
    refine ren_comp _ _ _ t fun x hx => ?_
    obtain ⟨z, q1, _⟩ := renM_mem (Tm.vars (whole h b) []) 1 x (ht x hx)
    have q1 : mlk (clM h b) x = some z := q1
    have q2 : mlk (renM ((Tm.vars (whole h b) []).map (rnf (clM h b))) 1) (rnf (clM h b) x) = some z := (mlk_map _ (Tm.vars (whole h b) []) (rnf_inj _ 1) x (ht x hx) _ _ (fun y hy => hy)).trans q1
    show (mlk (renM ((Tm.vars (whole h b) []).map (rnf (clM h b))) 1) (rnf (clM h b) x)).getD _ = (mlk (clM h b) x).getD x
    rw [q1, q2]
    rfl
  have hh := hc h fun x hx => (clause_vars h b x).2 (.inl hx)
  have hb := hc b fun x hx => (clause_vars h b x).2 (.inr hx)
  have hih : Tm.isHead (Tm.ren (clM h b) h) = Tm.isHead h := by unfold Tm.isHead; rw [ren_k]
  have hps : Tm.predS (Tm.ren (clM h b) h) = Tm.predS h := by
    unfold Tm.predS
    rw [ren_k]
    split
    · rename_i hq; rw [ren_s _ _ hq]
    · rfl
  have hpn : Tm.predN (Tm.ren (clM h b) h) = Tm.predN h := by
    unfold Tm.predN
    rw [ren_k]
    split
    · rename_i hq; rw [ren_lslen _ _ hq]
    · rfl
  refine ⟨?_, ?_⟩
  · unfold compOk
    rw [hwr, rightN_ren (clM h b) (fun x y hq => mlk_renM (vs := Tm.vars (whole h b) []) (n := 1) (by decide) hq) _ hr, hih, ren_k]
    exact hk2
  · unfold compM
    rw [hh, hb, hps, hpn, hwr, hv, List.length_map]
/-! ### saves -/
def bump (f : Int → Int) (x : In) : Int → Int := fun a => if x.op = 6 ∧ x.a = a then f a + 1 else f a
def fin (f : Int → Int) (l : List In) : Int → Int := l.foldl bump f
def chk : (Int → Int) → List In → Prop
  | _, [] => True
  | f, x :: xs => (x.op = 7 → f x.a = 1) ∧ chk (bump f x) xs
theorem fin_append (f : Int → Int) (xs ys : List In) : fin f (xs ++ ys) = fin (fin f xs) ys := by unfold fin; rw [List.foldl_append]
theorem chk_append : ∀ (f : Int → Int) (xs ys : List In), chk f (xs ++ ys) ↔ chk f xs ∧ chk (fin f xs) ys
  | f, [], ys => by simp [chk, fin]
  | f, x :: xs, ys => by
    rw [List.cons_append, chk, chk_append (bump f x) xs ys, chk, and_assoc]
    rfl
theorem bump_no {f : Int → Int} {x : In} (h : x.op ≠ 6) : bump f x = f := by
  funext a
  unfold bump
  rw [if_neg fun e => h e.1]
theorem chk_place : ∀ (xs : List In) (n : Nat) (f : Int → Int), (chk f (place n xs) ↔ chk f xs) ∧ fin f (place n xs) = fin f xs
  | [], n, f => ⟨Iff.rfl, rfl⟩
  | x :: xs, n, f => by
    have hb : bump f (if x.op = 4 ∨ x.op = 5 then { x with a := x.a + n } else x) = bump f x := by
      by_cases h : x.op = 4 ∨ x.op = 5
      · rw [if_pos h, bump_no (by show x.op ≠ 6; omega), bump_no (by omega)]
      · rw [if_neg h]
    obtain ⟨h1, h2⟩ := chk_place xs (n + 1) (bump f x)
    rw [place]
    refine ⟨?_, ?_⟩
    · rw [chk, chk, hb, h1]
      by_cases h : x.op = 4 ∨ x.op = 5
      · rw [if_pos h]
        constructor
        · rintro ⟨_, h3⟩; exact ⟨fun e => by omega, h3⟩
        · rintro ⟨_, h3⟩
          refine ⟨fun (e : x.op = 7) => by omega, h3⟩
      · rw [if_neg h]
    · show fin (bump f _) (place (n + 1) xs) = fin (bump f x) xs
      rw [hb, h2]
theorem chk_gets : ∀ (ts : List Tm) (n : Int) (f : Int → Int), chk f (getsOf ts n) ∧ fin f (getsOf ts n) = f
  | [], n, f => ⟨trivial, rfl⟩
  | t :: ts, n, f => by
    have hb : bump f ⟨1, n, t⟩ = f := bump_no (by show (1 : Int) ≠ 6; decide)
    obtain ⟨h1, h2⟩ := chk_gets ts (n + 1) f
    rw [getsOf]
    refine ⟨⟨fun e => absurd e (by show (1 : Int) ≠ 7; decide), by rw [hb]; exact h1⟩, ?_⟩
    show fin (bump f _) _ = f
    rw [hb, h2]
/-- The slots from lo to hi are saved once more. -/
def more (f : Int → Int) (lo hi : Int) : Int → Int := fun a => if lo ≤ a ∧ a < hi then 1 else f a
theorem more_self (f : Int → Int) (lo : Int) : more f lo lo = f := by funext a; unfold more; rw [if_neg (by omega)]
theorem more_more {f : Int → Int} {lo mid hi : Int} (h1 : lo ≤ mid) (h2 : mid ≤ hi) : more (more f lo mid) mid hi = more f lo hi := by
  funext a
  unfold more
  by_cases h3 : mid ≤ a ∧ a < hi
  · rw [if_pos h3, if_pos (by omega)]
  · rw [if_neg h3]
    by_cases h4 : lo ≤ a ∧ a < mid
    · rw [if_pos h4, if_pos (by omega)]
    · rw [if_neg h4, if_neg (by omega)]
theorem bump_save {f : Int → Int} {lo : Int} (h : f lo = 0) : bump f (In0 6 lo) = more f lo (lo + 1) := by
  funext a
  unfold bump more
  by_cases e : lo = a
  · subst e
    rw [if_pos ⟨rfl, rfl⟩, if_pos (by omega), h]; rfl
  · rw [if_neg fun e2 => e e2.2, if_neg (by omega)]
def Sv (f : Int → Int) (lo : Int) (p : List In × Int) : Prop := chk f p.1 ∧ fin f p.1 = more f lo p.2
theorem Sv.one {f : Int → Int} {lo : Int} {x : In} (h6 : x.op ≠ 6) (h7 : x.op = 7 → f x.a = 1) : Sv f lo ([x], lo) := by
  refine ⟨⟨h7, trivial⟩, ?_⟩
  show bump f x = _
  rw [bump_no h6, more_self]
theorem Sv.app {f : Int → Int} {lo mid hi : Int} {xs ys : List In} (h1 : lo ≤ mid) (h2 : mid ≤ hi) (hx : Sv f lo (xs, mid)) (hy : Sv (more f lo mid) mid (ys, hi)) : Sv f lo (xs ++ ys, hi) := by
  refine ⟨(chk_append _ _ _).2 ⟨hx.1, ?_⟩, ?_⟩
  · rw [hx.2]; exact hy.1
  · rw [fin_append, hx.2, hy.2, more_more h1 h2]
theorem Sv.pre {f : Int → Int} {free A hi : Int} {ys : List In} (h0 : f free = 0) (h1 : f (free + 1) = 0) (h2 : free + 2 ≤ hi) (hy : Sv (more f free (free + 2)) (free + 2) (ys, hi)) : Sv f free ([In0 6 free, In0 4 A, In0 6 (free + 1)] ++ ys, hi) := by
  refine Sv.app (mid := free + 2) (by omega) h2 ⟨⟨fun e => absurd e (by show (6 : Int) ≠ 7; decide), ⟨fun e => absurd e (by show (4 : Int) ≠ 7; decide), ⟨fun e => absurd e (by show (6 : Int) ≠ 7; decide), trivial⟩⟩⟩, ?_⟩ hy
  show bump (bump (bump f (In0 6 free)) (In0 4 A)) (In0 6 (free + 1)) = _
  rw [bump_no (x := In0 4 A) (by show (4 : Int) ≠ 6; decide), bump_save h0]
  have : more f free (free + 1) (free + 1) = 0 := by unfold more; rw [if_neg (by omega)]; exact h1
  rw [bump_save this, more_more (by omega) (by omega), Int.add_assoc]
  rfl
theorem either_sv {f : Int → Int} {free x2 y2 z2 : Int} {x y z : List In} (h0 : f free = 0) (h1 : f (free + 1) = 0) (hx2 : free + 2 ≤ x2) (hy2 : x2 ≤ y2) (hz2 : y2 ≤ z2)
    (hx : Sv (more f free (free + 2)) (free + 2) (x, x2)) (hy : Sv (more f free x2) x2 (y, y2)) (hz : Sv (more f free y2) y2 (z, z2)) : Sv f free (eitherP x y z free, z2) := by
  unfold eitherP
  refine Sv.pre h0 h1 (by omega) (Sv.app (mid := x2) hx2 (by omega) hx ?_)
  rw [more_more (by omega) hx2]
  refine Sv.app (mid := x2) (Int.le_refl _) (by omega) (Sv.one (by show (7 : Int) ≠ 6; decide) fun _ => by show more f free x2 free = 1; unfold more; rw [if_pos (by omega)]) ?_
  rw [more_self]
  refine Sv.app (mid := y2) hy2 hz2 hy ?_
  rw [more_more (by omega) hy2]
  refine Sv.app (mid := y2) (Int.le_refl _) hz2 (Sv.one (by show (5 : Int) ≠ 6; decide) fun e => absurd e (by show (5 : Int) ≠ 7; decide)) ?_
  rw [more_self]
  exact hz
theorem Sv.nil (f : Int → Int) (lo : Int) : Sv f lo ([], lo) := ⟨trivial, (more_self f lo).symm⟩
theorem fail_sv (n : Nat) (cut : In) (f : Int → Int) (free : Int) : Sv f free (bd n failT cut free) := by
  cases n with
  | zero => rw [bd]; exact Sv.nil f free
  | succ n => rw [bd_fail]; exact Sv.one (by show (8 : Int) ≠ 6; decide) fun e => absurd e (by show (8 : Int) ≠ 7; decide)
theorem more_zero {f : Int → Int} {lo mid : Int} (hf : ∀ a, lo ≤ a → f a = 0) (h : lo ≤ mid) : ∀ a, mid ≤ a → more f lo mid a = 0 := fun a ha => by unfold more; rw [if_neg (by omega)]; exact hf a (by omega)
theorem more_one {f : Int → Int} {lo mid a : Int} (hf : f a = 1) : more f lo mid a = 1 := by
  unfold more
  split
  · rfl
  · exact hf
theorem bd_sv : ∀ (n : Nat) (t : Tm) (cut : In) (free : Int) (f : Int → Int), cut.op ≠ 6 → (cut.op = 7 → f cut.a = 1) → (∀ a, free ≤ a → f a = 0) → Sv f free (bd n t cut free)
  | 0, t, cut, free, f, _, _, _ => by rw [bd]; exact Sv.nil f free
  | n + 1, t, cut, free, f, h6, h7, hf => by
    have hcond : ∀ (u : Tm), Sv (more f free (free + 2)) (free + 2) (bd n u (In0 7 (free + 1)) (free + 2)) := fun u =>
      bd_sv n u (In0 7 (free + 1)) (free + 2) _ (by show (7 : Int) ≠ 6; decide) (fun _ => by show more f free (free + 2) (free + 1) = 1; unfold more; rw [if_pos (by omega)]) (more_zero hf (by omega))
    have hbody : ∀ (u : Tm) (mid : Int), free ≤ mid → Sv (more f free mid) mid (bd n u cut mid) := fun u mid hm =>
      bd_sv n u cut mid _ h6 (fun e => more_one (h7 e)) (more_zero hf hm)
    rw [bd]
    split
    · exact Sv.nil f free
    split
    · exact Sv.one (by show (8 : Int) ≠ 6; decide) fun e => absurd e (by show (8 : Int) ≠ 7; decide)
    split
    · exact Sv.one h6 h7
    split
    · have e1 := bd_le n (targ t 0) cut free
      have e2 := bd_le n (targ t 1) cut (bd n (targ t 0) cut free).2
      exact Sv.app (mid := (bd n (targ t 0) cut free).2) (by omega) (by omega) (bd_sv n _ cut free f h6 h7 hf) (hbody _ _ (by omega))
    split
    · have e1 := bd_le n (targ (targ t 0) 0) (In0 7 (free + 1)) (free + 2)
      have e2 := bd_le n (targ (targ t 0) 1) cut (bd n (targ (targ t 0) 0) (In0 7 (free + 1)) (free + 2)).2
      have e3 := bd_le n (targ t 1) cut (bd n (targ (targ t 0) 1) cut (bd n (targ (targ t 0) 0) (In0 7 (free + 1)) (free + 2)).2).2
      exact either_sv (hf free (by omega)) (hf (free + 1) (by omega)) (by omega) e2.2.1 e3.2.1 (hcond _) (hbody _ _ (by omega)) (hbody _ _ (by omega))
    split
    · have e1 := bd_le n (targ t 0) (In0 7 (free + 1)) (free + 2)
      have e2 := bd_le n (targ t 1) cut (bd n (targ t 0) (In0 7 (free + 1)) (free + 2)).2
      have e3 := bd_fail_le n cut (bd n (targ t 1) cut (bd n (targ t 0) (In0 7 (free + 1)) (free + 2)).2).2
      exact either_sv (hf free (by omega)) (hf (free + 1) (by omega)) (by omega) e2.2.1 (by omega) (hcond _) (hbody _ _ (by omega)) (fail_sv _ _ _ _)
    split
    · have e1 := bd_le n (targ t 0) cut free
      have e2 := bd_le n (targ t 1) cut (bd n (targ t 0) cut free).2
      refine Sv.app (xs := [_]) (mid := free) (Int.le_refl _) (by omega) (Sv.one (by show (4 : Int) ≠ 6; decide) fun e => absurd e (by show (4 : Int) ≠ 7; decide)) ?_
      rw [more_self]
      refine Sv.app (mid := (bd n (targ t 0) cut free).2) (by omega) (by omega) (bd_sv n _ cut free f h6 h7 hf) ?_
      refine Sv.app (xs := [_]) (mid := (bd n (targ t 0) cut free).2) (Int.le_refl _) (by omega) (Sv.one (by show (5 : Int) ≠ 6; decide) fun e => absurd e (by show (5 : Int) ≠ 7; decide)) ?_
      rw [more_self]
      exact hbody _ _ (by omega)
    split
    · have e1 := bd_le n (targ t 0) (In0 7 (free + 1)) (free + 2)
      refine Sv.pre (hf free (by omega)) (hf (free + 1) (by omega)) (by omega) (Sv.app (mid := (bd n (targ t 0) (In0 7 (free + 1)) (free + 2)).2) (by omega) (Int.le_refl _) (hcond _) ?_)
      rw [more_more (by omega) (by omega)]
      refine Sv.app (xs := [_]) (ys := [_]) (Int.le_refl _) (Int.le_refl _) (Sv.one (by show (7 : Int) ≠ 6; decide) fun _ => by show more f free _ free = 1; unfold more; rw [if_pos (by omega)]) ?_
      rw [more_self]
      exact Sv.one (by show (8 : Int) ≠ 6; decide) fun e => absurd e (by show (8 : Int) ≠ 7; decide)
    · exact Sv.one (by show (2 : Int) ≠ 6; decide) fun e => absurd e (by show (2 : Int) ≠ 7; decide)
theorem codeOf_saves (gets : List Tm) (b : Tm) (p : ByteArray × Int) (vs : Int) : chk (fun _ => 0) (codeOf gets b p vs).is ∧ ∀ a, 0 ≤ a → a < (codeOf gets b p vs).slots → fin (fun _ => 0) (codeOf gets b p vs).is a = 1 := by
  obtain ⟨h1, h2⟩ := bd_sv 100 b (In0 3 0) 0 (fun _ => 0) (by show (3 : Int) ≠ 6; decide) (fun e => absurd e (by show (3 : Int) ≠ 7; decide)) fun _ _ => rfl
  obtain ⟨g1, g2⟩ := chk_gets gets 1 (fun _ => 0)
  obtain ⟨p1, p2⟩ := chk_place (bd 100 b (In0 3 0) 0).1 gets.length (fun _ => 0)
  unfold codeOf
  refine ⟨?_, fun a ha hb => ?_⟩
  · rw [chk_append, chk_append, fin_append, g2, p2]
    refine ⟨⟨g1, p1.2 h1⟩, fun e => absurd e (by show (9 : Int) ≠ 7; decide), trivial⟩
  · rw [fin_append, fin_append, g2, p2, h2]
    show bump (more (fun _ => 0) 0 (bd 100 b (In0 3 0) 0).2) (In0 9 0) a = 1
    rw [bump_no (by show (9 : Int) ≠ 6; decide)]
    unfold more
    exact if_pos ⟨ha, hb⟩
theorem compM_saves (h b : Tm) : chk (fun _ => 0) (compM h b).is ∧ ∀ a, 0 ≤ a → a < (compM h b).slots → fin (fun _ => 0) (compM h b).is a = 1 := codeOf_saves _ _ _ _
theorem chk_at : ∀ (f : Int → Int) (is : List In) (i : Nat) (h : i < is.length), chk f is → is[i].op = 7 → fin f (is.take i) is[i].a = 1
  | f, x :: xs, 0, h, hc, h7 => hc.1 h7
  | f, x :: xs, i + 1, h, hc, h7 => chk_at (bump f x) xs i (Nat.lt_of_succ_lt_succ h) hc.2 h7
theorem fin_succ (f : Int → Int) (is : List In) (i : Nat) (h : i < is.length) : fin f (is.take (i + 1)) = bump (fin f (is.take i)) is[i] := by
  rw [List.take_succ_eq_append_getElem h, fin_append]
  rfl
/-! ### what is right -/
theorem allOk_at (c : Cd) (n : Int) : ∀ (is : List In) (j : Int) (i : Nat) (h : i < is.length), allOk c n is j = true → insOk c n (j + i) is[i] = true
  | x :: xs, j, 0, h, ha => by
    rw [allOk, Bool.and_eq_true] at ha
    simpa using ha.1
  | x :: xs, j, i + 1, h, ha => by
    rw [allOk, Bool.and_eq_true] at ha
    have := allOk_at c n xs (j + 1) i (Nat.lt_of_succ_lt_succ h) ha.2
    rw [show j + ((i + 1 : Nat) : Int) = j + 1 + i by omega]
    exact this
theorem rightC_at {c : Cd} (h : rightC c = true) (i : Nat) (hi : i < c.is.length) : insOk c c.is.length i c.is[i] = true := by
  unfold rightC at h
  rw [Bool.and_eq_true] at h
  have := allOk_at c c.is.length c.is 0 i hi h.2
  rwa [Int.zero_add] at this
theorem rightC_last {c : Cd} (h : rightC c = true) : lastOp c.is = 9 := by
  unfold rightC at h
  rw [Bool.and_eq_true] at h
  exact of_decide_eq_true h.1
/-- A slot's instruction names a slot. -/
theorem right_slot {c : Cd} (h : rightC c = true) (i : Nat) (hi : i < c.is.length) (ho : c.is[i].op = 6 ∨ c.is[i].op = 7) : 0 ≤ c.is[i].a ∧ c.is[i].a < c.slots := by
  have := rightC_at h i hi
  rw [insOk_def, if_neg (by omega), if_neg (by omega), if_neg (by omega), if_neg (by omega), if_pos ho, Bool.and_eq_true, Bool.and_eq_true] at this
  exact ⟨of_decide_eq_true this.1, of_decide_eq_true this.2.1⟩
/-- An instruction spoiled. -/
def spoil (is : List In) (i : Nat) (op a : Int) : List In := is.modify i fun n => { n with op := op, a := a }
theorem spoil_len (is : List In) (i : Nat) (op a : Int) : (spoil is i op a).length = is.length := by unfold spoil; rw [List.length_modify]
theorem spoil_right {c : Cd} {i : Nat} {op a : Int} (hi : i < c.is.length) (h : rightC { c with is := spoil c.is i op a } = true) : 1 ≤ op ∧ op ≤ 9 ∧ (op < 8 ∨ a = 0) ∧ lastOp (spoil c.is i op a) = 9 := by
  have h1 := rightC_at h i (by show i < (spoil c.is i op a).length; rw [spoil_len]; exact hi)
  have h2 := rightC_last h
  refine ⟨?_, ?_, ?_, h2⟩
  all_goals
    have he : (spoil c.is i op a)[i]'(by rw [spoil_len]; exact hi) = { c.is[i] with op := op, a := a } := by
      unfold spoil
      rw [List.getElem_modify, if_pos rfl]
    have h1 : insOk { c with is := spoil c.is i op a } (spoil c.is i op a).length i ((spoil c.is i op a)[i]'(by rw [spoil_len]; exact hi)) = true := h1
    rw [he, insOk_def] at h1
    simp only at h1
    by_cases o1 : op = 1
    · omega
    by_cases o2 : op = 2
    · omega
    by_cases o3 : op = 3 ∨ op = 8 ∨ op = 9
    · rw [if_neg o1, if_neg o2, if_pos o3, Bool.and_eq_true] at h1
      have := of_decide_eq_true h1.1
      omega
    by_cases o4 : op = 4 ∨ op = 5
    · omega
    by_cases o6 : op = 6 ∨ op = 7
    · omega
    rw [if_neg o1, if_neg o2, if_neg o3, if_neg o4, if_neg o6] at h1
    cases h1
theorem lastOp_get (is : List In) (h : 0 < is.length) : lastOp is = is[is.length - 1].op := by
  unfold lastOp
  rw [List.getLast?_eq_getElem?, List.getElem?_eq_getElem (by omega)]
  rfl
end Go.Proofs.Ytamiidklcadkmaa
