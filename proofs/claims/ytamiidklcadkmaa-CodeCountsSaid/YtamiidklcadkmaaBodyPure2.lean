/- Bodies as pieces: what condition and choose put together is the piece in its place: plain. -/
import Derived.Test.YtamiidklcadkmaaMakerChoose
set_option maxRecDepth 20000
set_option linter.unusedVariables false
set_option linter.unusedSimpArgs false
namespace Go.Proofs.Ytamiidklcadkmaa
open Go.RowKit Go.PM
theorem place_one (n : Nat) (op a : Int) (h4 : op ≠ 4) (h5 : op ≠ 5) (xs : List In) : place n (In0 op a :: xs) = In0 op a :: place (n + 1) xs := by
  rw [place, if_neg (by show ¬ (op = 4 ∨ op = 5); omega)]
theorem place_jmp (n : Nat) (op a : Int) (h : op = 4 ∨ op = 5) (xs : List In) : place n (In0 op a :: xs) = In0 op (a + n) :: place (n + 1) xs := by
  rw [place, if_pos (show (In0 op a).op = 4 ∨ (In0 op a).op = 5 from h)]
  rfl
theorem setA_In0 (xs ys : List In) (op a x : Int) (k : Nat) (hk : k = xs.length) : setA (xs ++ In0 op a :: ys) k x = xs ++ In0 op x :: ys := by
  subst hk
  rw [setA_at]
  rfl
theorem either_place (is x y z : List In) (free : Int) (is1 is2 : List In) (J : Nat)
    (h1 : is1 = is ++ [In0 6 free] ++ [In0 4 0] ++ [In0 6 (free + 1)] ++ place (is.length + 3) x ++ [In0 7 free]) (hJ : J = is1.length + y.length)
    (h2 : is2 = setA (is1 ++ place is1.length y ++ [In0 5 0]) (is.length + 1) (J + 1 : Nat)) :
    setA (is2 ++ place (J + 1) z) J (J + 1 + z.length : Nat) = is ++ place is.length (eitherP x y z free) := by
  have hl1 : is1.length = is.length + 4 + x.length := by rw [h1]; simp [place_len]; omega
  have e2 : is2 = (is ++ [In0 6 free]) ++ In0 4 (J + 1 : Nat) :: ([In0 6 (free + 1)] ++ place (is.length + 3) x ++ [In0 7 free] ++ place is1.length y ++ [In0 5 0]) := by
    rw [h2]
    have hh : ∀ py, is1 ++ py ++ [In0 5 0] = (is ++ [In0 6 free]) ++ In0 4 0 :: ([In0 6 (free + 1)] ++ place (is.length + 3) x ++ [In0 7 free] ++ py ++ [In0 5 0]) := fun py => by rw [h1]; simp
    rw [hh]
    rw [setA_In0 _ _ _ _ _ _ (by simp)]
  have e4 : is2 ++ place (J + 1) z = ((is ++ [In0 6 free]) ++ In0 4 (J + 1 : Nat) :: ([In0 6 (free + 1)] ++ place (is.length + 3) x ++ [In0 7 free] ++ place is1.length y)) ++ In0 5 0 :: place (J + 1) z := by
    rw [e2]
    simp
  rw [e4, setA_In0 _ _ _ _ _ _ (by simp [place_len]; omega)]
  unfold eitherP
  rw [place_append, place_append, place_append, place_append, place_append, place_one _ _ _ (by decide) (by decide), place_jmp _ _ _ (.inl rfl), place_one _ _ _ (by decide) (by decide), place_one _ _ _ (by decide) (by decide), place_jmp _ _ _ (.inr rfl), place]
  simp only [List.length_cons, List.length_nil, place]
  rw [show ((J + 1 : Nat) : Int) = (x.length : Int) + y.length + 4 + (is.length + 1 : Nat) by omega,
    show ((J + 1 + z.length : Nat) : Int) = (z.length : Int) + 1 + (is.length + (0 + 1 + 1 + 1) + x.length + (0 + 1) + y.length : Nat) by omega,
    show is1.length = is.length + (0 + 1 + 1 + 1) + x.length + (0 + 1) by omega,
    show J + 1 = is.length + (0 + 1 + 1 + 1) + x.length + (0 + 1) + y.length + (0 + 1) by omega]
  simp
theorem semi_place (is x y : List In) (is1 is2 : List In) (J : Nat)
    (h1 : is1 = is ++ [In0 4 0]) (hJ : J = is1.length + x.length)
    (h2 : is2 = setA (is1 ++ place is1.length x ++ [In0 5 0]) is.length (J + 1 : Nat)) :
    setA (is2 ++ place (J + 1) y) J (J + 1 + y.length : Nat) = is ++ place is.length ([In0 4 ((x.length : Int) + 2)] ++ (x ++ ([In0 5 ((y.length : Int) + 1)] ++ y))) := by
  have hl1 : is1.length = is.length + 1 := by rw [h1]; simp
  have e2 : is2 = is ++ In0 4 (J + 1 : Nat) :: (place is1.length x ++ [In0 5 0]) := by
    rw [h2]
    have hh : ∀ py, is1 ++ py ++ [In0 5 0] = is ++ In0 4 0 :: (py ++ [In0 5 0]) := fun py => by rw [h1]; simp
    rw [hh]
    rw [setA_In0 _ _ _ _ _ _ rfl]
  have e4 : is2 ++ place (J + 1) y = (is ++ In0 4 (J + 1 : Nat) :: (place is1.length x)) ++ In0 5 0 :: place (J + 1) y := by
    rw [e2]
    simp
  rw [e4, setA_In0 _ _ _ _ _ _ (by simp [place_len]; omega)]
  rw [place_append, place_append, place_append, place_jmp _ _ _ (.inl rfl), place_jmp _ _ _ (.inr rfl), place]
  simp only [List.length_cons, List.length_nil, place]
  rw [show ((J + 1 : Nat) : Int) = (x.length : Int) + 2 + (is.length : Nat) by omega,
    show ((J + 1 + y.length : Nat) : Int) = (y.length : Int) + 1 + (is.length + (0 + 1) + x.length : Nat) by omega,
    show is1.length = is.length + (0 + 1) by omega,
    show J + 1 = is.length + (0 + 1) + x.length + (0 + 1) by omega]
  simp
theorem not_place (is x : List In) (free : Int) (is1 : List In)
    (h1 : is1 = is ++ [In0 6 free] ++ [In0 4 0] ++ [In0 6 (free + 1)] ++ place (is.length + 3) x ++ [In0 7 free]) :
    setA (is1 ++ [In0 8 0]) (is.length + 1) ((is1.length : Int) + 1) = is ++ place is.length ([In0 6 free, In0 4 ((x.length : Int) + 4), In0 6 (free + 1)] ++ (x ++ [In0 7 free, In0 8 0])) := by
  have hl1 : is1.length = is.length + 4 + x.length := by rw [h1]; simp [place_len]; omega
  rw [show is1 ++ [In0 8 0] = (is ++ [In0 6 free]) ++ In0 4 0 :: ([In0 6 (free + 1)] ++ place (is.length + 3) x ++ [In0 7 free] ++ [In0 8 0]) by
      rw [h1]; simp]
  rw [setA_In0 _ _ _ _ _ _ (by simp)]
  rw [place_append, place_append, place_one _ _ _ (by decide) (by decide), place_jmp _ _ _ (.inl rfl), place_one _ _ _ (by decide) (by decide), place_one _ _ _ (by decide) (by decide), place_one _ _ _ (by decide) (by decide)]
  simp only [List.length_cons, List.length_nil, place]
  rw [show (is1.length : Int) + 1 = (x.length : Int) + 4 + (is.length + 1 : Nat) by omega]
  simp
end Go.Proofs.Ytamiidklcadkmaa
