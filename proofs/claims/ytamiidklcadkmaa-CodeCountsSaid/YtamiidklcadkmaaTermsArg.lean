/- A slice of terms that came in as an argument. -/
import Derived.Test.YtamiidklcadkmaaTerms
set_option maxRecDepth 20000
set_option linter.unusedVariables false
set_option linter.unusedSimpArgs false
namespace Go.PM
open Go.ChangeShapes Go.WideShapes Go.ChangeAt Go.RowKit Go.Deep
section
variable {P : Program} {W : World} {H : Type} {enc : TypeId × Value → H} {base : Nat} {spare : Nat → Bool} {held : Bool} {C : Nat → Prop}
theorem view_tslice {T S : TypeId} {fs : Array Field} (ht : TmType P T S fs) (hC : ∀ g, g < W.heap.size → C g) {v : Value} {d : DataW H} {p : List MemPlace} {bs : Nat} (hv : Value.okWide P W .any bs S v) (h : DataW.Trod enc P W base spare held S v d p) (hlt : ∀ x ∈ p, x.block < W.heap.size) :
    ∃ ls, Tm.At W C (.mk 0 ByteArray.empty 0 ls) v := by
  obtain ⟨a, n, c, rfl⟩ := okWide_slice ht.slice hv
  obtain ⟨fuel, hf⟩ := h
  obtain ⟨ls, has⟩ := view_terms ht hC fuel (.slice a n c) (d, p) (by simpa [Value.cells] using hf) hlt
  exact ⟨ls, has 0 ByteArray.empty 0⟩
end
end Go.PM
