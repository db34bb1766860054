/- Bodies as pieces of code, places counted from each instruction: plain. -/
import Derived.Test.YtamiidklcadkmaaMakerIs
set_option maxRecDepth 20000
set_option linter.unusedVariables false
set_option linter.unusedSimpArgs false
namespace Go.Proofs.Ytamiidklcadkmaa
open Go.RowKit Go.PM
def sTrue : ByteArray := ⟨#[116, 114, 117, 101]⟩
def sFail : ByteArray := ⟨#[102, 97, 105, 108]⟩
def sFalse : ByteArray := ⟨#[102, 97, 108, 115, 101]⟩
def sBang : ByteArray := ⟨#[33]⟩
def sComma : ByteArray := ⟨#[44]⟩
def sSemi : ByteArray := ⟨#[59]⟩
def sArrow : ByteArray := ⟨#[45, 62]⟩
def sNot : ByteArray := ⟨#[92, 43]⟩
def targ (t : Tm) (i : Nat) : Tm := t.ls.getD i zeroT
def In0 (op a : Int) : In := ⟨op, a, zeroT⟩
def failT : Tm := .mk 3 sFail 0 []
/-- Compound, of this name and one argument? -/
def Tm.one1 (t : Tm) (nm : ByteArray) : Bool := decide (t.k = 4) && (decide (t.s = nm) && decide (t.ls.length = 1))
def Tm.ite (t : Tm) : Bool := Tm.two t sSemi && Tm.two (targ t 0) sArrow
/-- Pieces of a condition and two bodies. -/
def eitherP (x y z : List In) (free : Int) : List In :=
  [In0 6 free, In0 4 ((x.length : Int) + y.length + 4), In0 6 (free + 1)] ++ (x ++ ([In0 7 free] ++ (y ++ ([In0 5 ((z.length : Int) + 1)] ++ z))))
/-- A body's piece of code; the first slot that is free behind it. (n: how deep it is, at most.) -/
def bd : Nat → Tm → In → Int → List In × Int
  | 0, _, _, free => ([], free)
  | n + 1, t, cut, free =>
    if Tm.atom t [sTrue] then ([], free)
    else if Tm.atom t [sFail, sFalse] then ([In0 8 0], free)
    else if Tm.atom t [sBang] then ([cut], free)
    else if Tm.two t sComma then
      ((bd n (targ t 0) cut free).1 ++ (bd n (targ t 1) cut (bd n (targ t 0) cut free).2).1, (bd n (targ t 1) cut (bd n (targ t 0) cut free).2).2)
    else if Tm.ite t then
      let x := bd n (targ (targ t 0) 0) (In0 7 (free + 1)) (free + 2)
      let y := bd n (targ (targ t 0) 1) cut x.2
      let z := bd n (targ t 1) cut y.2
      (eitherP x.1 y.1 z.1 free, z.2)
    else if Tm.two t sArrow then
      let x := bd n (targ t 0) (In0 7 (free + 1)) (free + 2)
      let y := bd n (targ t 1) cut x.2
      let z := bd n failT cut y.2
      (eitherP x.1 y.1 z.1 free, z.2)
    else if Tm.two t sSemi then
      let x := bd n (targ t 0) cut free
      let y := bd n (targ t 1) cut x.2
      ([In0 4 ((x.1.length : Int) + 2)] ++ (x.1 ++ ([In0 5 ((y.1.length : Int) + 1)] ++ y.1)), y.2)
    else if Tm.one1 t sNot then
      let c := bd n (targ t 0) (In0 7 (free + 1)) (free + 2)
      ([In0 6 free, In0 4 ((c.1.length : Int) + 4), In0 6 (free + 1)] ++ (c.1 ++ [In0 7 free, In0 8 0]), c.2)
    else ([⟨2, 0, t⟩], free)
/-- Places counted from the whole's beginning: this piece begins at n. -/
def place : Nat → List In → List In
  | _, [] => []
  | n, i :: is => (if i.op = 4 ∨ i.op = 5 then { i with a := i.a + n } else i) :: place (n + 1) is
theorem place_append (xs ys : List In) : ∀ n, place n (xs ++ ys) = place n xs ++ place (n + xs.length) ys := by
  induction xs with
  | nil => intro n; simp [place]
  | cons x xs ih =>
    intro n
    rw [List.cons_append, place, ih (n + 1), place, List.cons_append, List.length_cons]
    congr 3
    omega
theorem place_len (xs : List In) : ∀ n, (place n xs).length = xs.length := by
  induction xs with
  | nil => intro n; rfl
  | cons x xs ih => intro n; rw [place, List.length_cons, List.length_cons, ih]
/-! ### depth and size of arguments -/
theorem arg_mem {t : Tm} {i : Nat} (h : i < t.ls.length) : targ t i ∈ t.ls := by
  unfold targ
  rw [List.getD_eq_getElem?_getD, List.getElem?_eq_getElem h]
  exact List.getElem_mem h
theorem arg_dp {t : Tm} {i : Nat} (hk : t.k = 4) (h : i < t.ls.length) : Tm.dp (targ t i) + 1 ≤ Tm.dp t := by
  have h1 := dps_mem t.ls _ (arg_mem h)
  match t, hk, h1 with
  | .mk k s x ls, hk, h1 =>
    have hk : k = 4 := hk
    rw [show Tm.dp (.mk k s x ls) = if k = 4 then 1 + Tms.dp ls else 1 by unfold Tm.dp; rfl, if_pos hk]
    have h1 : Tm.dp (targ (.mk k s x ls) i) ≤ Tms.dp ls := h1
    omega
theorem sz_eq (t : Tm) (hk : t.k = 4) : Tm.sz t = 1 + Tms.sz t.ls := by
  match t, hk with
  | .mk k s x ls, hk =>
    have hk : k = 4 := hk
    rw [show Tm.sz (.mk k s x ls) = if k = 4 then 1 + Tms.sz ls else 1 by unfold Tm.sz; rfl, if_pos hk]
    rfl
theorem two_sz {t : Tm} {nm : ByteArray} (h : Tm.two t nm = true) : t.k = 4 ∧ t.ls.length = 2 ∧ Tm.sz t = 1 + Tm.sz (targ t 0) + Tm.sz (targ t 1) := by
  unfold Tm.two at h
  rw [Bool.and_eq_true, Bool.and_eq_true, decide_eq_true_iff, decide_eq_true_iff, decide_eq_true_iff] at h
  obtain ⟨h1, h2, h3⟩ := h
  refine ⟨h1, h3, ?_⟩
  rw [sz_eq t h1]
  match hl : t.ls, h3 with
  | [a, b], _ =>
    have e0 : targ t 0 = a := by unfold targ; rw [hl]; rfl
    have e1 : targ t 1 = b := by unfold targ; rw [hl]; rfl
    rw [e0, e1, szs_cons, szs_cons, Tms.sz]
    omega
theorem one_sz {t : Tm} {nm : ByteArray} (h : Tm.one1 t nm = true) : t.k = 4 ∧ t.ls.length = 1 ∧ Tm.sz t = 1 + Tm.sz (targ t 0) := by
  unfold Tm.one1 at h
  rw [Bool.and_eq_true, Bool.and_eq_true, decide_eq_true_iff, decide_eq_true_iff, decide_eq_true_iff] at h
  obtain ⟨h1, h2, h3⟩ := h
  refine ⟨h1, h3, ?_⟩
  rw [sz_eq t h1]
  match hl : t.ls, h3 with
  | [a], _ =>
    have e0 : targ t 0 = a := by unfold targ; rw [hl]; rfl
    rw [e0, szs_cons, Tms.sz]
    omega
theorem failT_sz : Tm.sz failT = 1 := by unfold failT Tm.sz; rw [if_neg (by decide)]
theorem bd_fail (n : Nat) (cut : In) (free : Int) : bd (n + 1) failT cut free = ([In0 8 0], free) := by
  rw [bd, if_neg (by decide), if_pos (by decide)]
theorem bd_fail_le (n : Nat) (cut : In) (free : Int) : (bd n failT cut free).1.length ≤ 1 ∧ (bd n failT cut free).2 = free := by
  cases n with
  | zero => rw [bd]; exact ⟨by simp, rfl⟩
  | succ n => rw [bd_fail]; exact ⟨by simp, rfl⟩
/-- How long a piece is, and how many slots it takes. -/
theorem bd_le : ∀ (n : Nat) (t : Tm) (cut : In) (free : Int), ((bd n t cut free).1.length : Int) ≤ 6 * Tm.sz t ∧ free ≤ (bd n t cut free).2 ∧ (bd n t cut free).2 ≤ free + 2 * Tm.sz t
  | 0, t, cut, free => by have := sz_pos t; rw [bd]; simp; omega
  | n + 1, t, cut, free => by
    have hp := sz_pos t
    rw [bd]
    split
    · simp; omega
    split
    · simp; omega
    split
    · simp; omega
    split
    · rename_i h
      obtain ⟨_, _, h3⟩ := two_sz h
      have h1 := bd_le n (targ t 0) cut free
      have h2 := bd_le n (targ t 1) cut (bd n (targ t 0) cut free).2
      simp only [List.length_append]
      omega
    split
    · rename_i h
      unfold Tm.ite at h
      rw [Bool.and_eq_true] at h
      obtain ⟨_, _, h3⟩ := two_sz h.1
      obtain ⟨_, _, h4⟩ := two_sz h.2
      have h1 := bd_le n (targ (targ t 0) 0) (In0 7 (free + 1)) (free + 2)
      have h2 := bd_le n (targ (targ t 0) 1) cut (bd n (targ (targ t 0) 0) (In0 7 (free + 1)) (free + 2)).2
      have h5 := bd_le n (targ t 1) cut (bd n (targ (targ t 0) 1) cut (bd n (targ (targ t 0) 0) (In0 7 (free + 1)) (free + 2)).2).2
      simp only [eitherP, List.length_append, List.length_cons, List.length_nil]
      omega
    split
    · rename_i h
      obtain ⟨_, _, h3⟩ := two_sz h
      have h1 := bd_le n (targ t 0) (In0 7 (free + 1)) (free + 2)
      have h2 := bd_le n (targ t 1) cut (bd n (targ t 0) (In0 7 (free + 1)) (free + 2)).2
      have h5 := bd_fail_le n cut (bd n (targ t 1) cut (bd n (targ t 0) (In0 7 (free + 1)) (free + 2)).2).2
      simp only [eitherP, List.length_append, List.length_cons, List.length_nil]
      omega
    split
    · rename_i h
      obtain ⟨_, _, h3⟩ := two_sz h
      have h1 := bd_le n (targ t 0) cut free
      have h2 := bd_le n (targ t 1) cut (bd n (targ t 0) cut free).2
      simp only [List.length_append, List.length_cons, List.length_nil]
      omega
    split
    · rename_i h
      obtain ⟨_, _, h3⟩ := one_sz h
      have h1 := bd_le n (targ t 0) (In0 7 (free + 1)) (free + 2)
      simp only [List.length_append, List.length_cons, List.length_nil]
      omega
    · simp; omega
end Go.Proofs.Ytamiidklcadkmaa
