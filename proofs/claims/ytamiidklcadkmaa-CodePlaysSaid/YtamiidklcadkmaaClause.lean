/- A clause that came in as an argument: two terms. -/
import Derived.Test.YtamiidklcadkmaaTerms
set_option maxRecDepth 20000
set_option linter.unusedVariables false
set_option linter.unusedSimpArgs false
namespace Go.PM
open Go.ChangeShapes Go.WideShapes Go.ChangeAt Go.RowKit Go.Deep
section
variable {P : Program} {W : World} {H : Type} {enc : TypeId × Value → H} {base : Nat} {spare : Nat → Bool} {held : Bool} {C : Nat → Prop}
theorem view_clause {T S U : TypeId} {fs : Array Field} {f0 f1 : Field} (ht : TmType P T S fs) (hu : P.underlying U = some (.struct #[f0, f1])) (hcu : P.cellsOf U = 8) (t0 : f0.type = T) (o0 : f0.offset = 0) (t1 : f1.type = T) (o1 : f1.offset = 4) (hC : ∀ g, g < W.heap.size → C g) {v : Value} {d : DataW H} {p : List MemPlace} {bs : Nat} (hv : Value.okWide P W .any bs U v) (h : DataW.Trod enc P W base spare held U v d p) (hlt : ∀ x ∈ p, x.block < W.heap.size) :
    ∃ (th tb : Tm) (k1 : Int) (s1 : ByteArray) (x1 : Int) (sl1 : Value) (k2 : Int) (s2 : ByteArray) (x2 : Int) (sl2 : Value), v = .agg #[.int .i64 k1, .string s1, .int .i64 x1, sl1, .int .i64 k2, .string s2, .int .i64 x2, sl2] ∧ TmV W C th (.agg #[.int .i64 k1, .string s1, .int .i64 x1, sl1]) ∧ TmV W C tb (.agg #[.int .i64 k2, .string s2, .int .i64 x2, sl2]) := by
  obtain ⟨cs, rfl, hcs⟩ := okWide_struct hu hv
  obtain ⟨fuel, hf⟩ := h
  obtain ⟨xs, n, rfl, hx, hcl, hxl, hfl⟩ := DataW.trod_struct hu hf
  match xs, hxl with
  | [y0, y1], _ =>
    have h0 := hfl 0 f0 rfl
    have h1 := hfl 1 f1 rfl
    rw [t0, o0, ht.cells] at h0
    rw [t1, o1, ht.cells] at h1
    rw [hcu] at hcl
    cases n with
    | zero => simp [DataW.trod] at h0
    | succ m =>
      obtain ⟨k1, s1, x1, sl1, z1, e1, a1, b1, c1, q1, sub1⟩ := open_term ht h0
      obtain ⟨k2, s2, x2, sl2, z2, e2, a2, b2, c2, q2, sub2⟩ := open_term ht h1
      have hp : p = y0.2 ++ y1.2 := by simpa using congrArg Prod.snd hx
      obtain ⟨ls1, has1⟩ := view_terms ht hC m sl1 z1 q1 fun r hr => hlt r (by rw [hp]; exact List.mem_append_left _ (sub1 r hr))
      obtain ⟨ls2, has2⟩ := view_terms ht hC m sl2 z2 q2 fun r hr => hlt r (by rw [hp]; exact List.mem_append_right _ (sub2 r hr))
      have e : cs = #[.int .i64 k1, .string s1, .int .i64 x1, sl1, .int .i64 k2, .string s2, .int .i64 x2, sl2] := by
        have l0 : cs.toList.length = 8 := hcl
        have l1 : cs.toList.take 4 = _ := e1
        have l2 : (cs.toList.drop 4).take 4 = _ := e2
        have l3 : (cs.toList.drop 4).take 4 = cs.toList.drop 4 := List.take_of_length_le (by rw [List.length_drop]; omega)
        have : cs.toList = cs.toList.take 4 ++ cs.toList.drop 4 := (List.take_append_drop 4 _).symm
        rw [l1, ← l3, l2] at this
        rw [← Array.toArray_toList (xs := cs), this]
        rfl
      subst e
      exact ⟨.mk k1 s1 x1 ls1, .mk k2 s2 x2 ls2, k1, s1, x1, sl1, k2, s2, x2, sl2, rfl, ⟨sl1, rfl, a1, b1, c1, has1 k1 s1 x1⟩, ⟨sl2, rfl, a2, b2, c2, has2 k2 s2 x2⟩⟩
end
end Go.PM
