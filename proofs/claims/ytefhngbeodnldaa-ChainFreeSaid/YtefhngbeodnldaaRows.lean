/-
  No cell of these rows narrows 'for every input' (looked for: loops, veiled, ifaces, maps, wideKeys, modest, calm, conditions, laid).
  DERIVED. THE GIVEN ROWS OF THIS SEAT. 3 by the template 'for every input the law returns true; each argument reads behind the call as it read before'; 0 by the template 'total and deterministic' (their statements: YtefhngbeodnldaaTotals.lean).
  GIVEN WITH THE SEED: the statements are not yours to turn. If you find one false, say at which input.
  Laid BY PROGRAM, IN A SANDBOX (cutbox-rows.mjs): the forced cells as the released guide's own fill.sh prints them over the translation 3f1ab59b3f8603d1… (all of the seat's roots in one cut). By AI agents, Wed Nov 11 2026. No macro, syntax, notation, axiom, sorry.
-/
import Derived.Test.YtefhngbeodnldaaChecked
import GoSem.Claim
import GoSem.ClaimJoined
import GoSem.ClaimMapViews
import Derived.JoinedTies
import Derived.KernelRfl
namespace Go.Proofs.Ytefhngbeodnldaa
/- THE CELL 'sum', in the pinned program and in every row, IS THE sha256 OF THE DUMP (.gsa) THAT YtefhngbeodnldaaProg.lean LOADS. Nothing in Lean hashes anything: it is a label: what it is worth is what the hold of that sum in a sandbox is worth. -/
noncomputable def Try.pinned : Pinned := { name := "ytefhngbeodnldaa", sum := "3f1ab59b3f8603d116a4360a6f6b0eab9a2567a46c84467690522655d31f1d44", checked := Try.checked }
namespace Rows
def none {H : Type} : Left H := { results := [], args := [] }

/-- 'pythialaw05.ChainAlone': WHATEVER THE INPUT: true; the input reads as it did. -/
def chainAloneSpec : ChangeSpec := { name := "chainAlone", fn := fun _ => fun
  | [d1, d2, d3] => { results := [.lit (.bool true)], args := [d1, d2, d3] }
  | _ => none }
def chainAloneRow : OpenClaim := { program := "ytefhngbeodnldaa", sum := "3f1ab59b3f8603d116a4360a6f6b0eab9a2567a46c84467690522655d31f1d44", func := "pythia/pythialaw05.ChainAlone", spec := "chainAlone", inPlace := ["slices.overlaps[int64]"], unfollowed := true, recurses := true, apart := false }
def ChainAloneSaid : Prop := chainAloneRow.holds Try.pinned (OpenSpec.ofChange chainAloneSpec)

/-- ITS FALSE NEIGHBOUR: 'it returns false'. Refute it at one input. -/
def chainAloneWrong : ChangeSpec := { name := "chainAlone", fn := fun _ => fun
  | [d1, d2, d3] => { results := [.lit (.bool false)], args := [d1, d2, d3] }
  | _ => none }
def ChainAloneWrongFalsely : Prop := chainAloneRow.holds Try.pinned (OpenSpec.ofChange chainAloneWrong)

/-- 'pythialaw05.ChainFree': WHATEVER THE INPUT: true; the input reads as it did. -/
def chainFreeSpec : ChangeSpec := { name := "chainFree", fn := fun _ => fun
  | [d1, d2, d3] => { results := [.lit (.bool true)], args := [d1, d2, d3] }
  | _ => none }
def chainFreeRow : OpenClaim := { program := "ytefhngbeodnldaa", sum := "3f1ab59b3f8603d116a4360a6f6b0eab9a2567a46c84467690522655d31f1d44", func := "pythia/pythialaw05.ChainFree", spec := "chainFree", inPlace := ["slices.overlaps[int64]"], unfollowed := true, recurses := true, apart := false }
def ChainFreeSaid : Prop := chainFreeRow.holds Try.pinned (OpenSpec.ofChange chainFreeSpec)

/-- ITS FALSE NEIGHBOUR: 'it returns false'. Refute it at one input. -/
def chainFreeWrong : ChangeSpec := { name := "chainFree", fn := fun _ => fun
  | [d1, d2, d3] => { results := [.lit (.bool false)], args := [d1, d2, d3] }
  | _ => none }
def ChainFreeWrongFalsely : Prop := chainFreeRow.holds Try.pinned (OpenSpec.ofChange chainFreeWrong)

/-- 'pythialaw05.ChainApart': WHATEVER THE INPUT: true; the input reads as it did. -/
def chainApartSpec : ChangeSpec := { name := "chainApart", fn := fun _ => fun
  | [d1, d2, d3] => { results := [.lit (.bool true)], args := [d1, d2, d3] }
  | _ => none }
def chainApartRow : OpenClaim := { program := "ytefhngbeodnldaa", sum := "3f1ab59b3f8603d116a4360a6f6b0eab9a2567a46c84467690522655d31f1d44", func := "pythia/pythialaw05.ChainApart", spec := "chainApart", inPlace := ["slices.overlaps[int64]"], unfollowed := true, recurses := true, apart := false }
def ChainApartSaid : Prop := chainApartRow.holds Try.pinned (OpenSpec.ofChange chainApartSpec)

/-- ITS FALSE NEIGHBOUR: 'it returns false'. Refute it at one input. -/
def chainApartWrong : ChangeSpec := { name := "chainApart", fn := fun _ => fun
  | [d1, d2, d3] => { results := [.lit (.bool false)], args := [d1, d2, d3] }
  | _ => none }
def ChainApartWrongFalsely : Prop := chainApartRow.holds Try.pinned (OpenSpec.ofChange chainApartWrong)

/- THE SECOND FORM. 'bulk': how many values and letters a reading holds, each counted each time it is reached (what is shared counts as often as it is met; a slice's spare places count too). A statement '..UptoSaid' is the law's where the arguments, and the package variables that the reading takes, are together of bulk at most 1048576: NARROWER than '..Said'. Prove '..Said' where nothing that the law and all that it calls make is longer than what came in: it says more and counts as full. Else prove '..UptoSaid'. A law counts once. -/
mutual
def uptoBulk {H : Type} : DataW H → Nat
  | .lit (.string bytes) => bytes.length + 1
  | .lit _ => 1
  | .nil => 1
  | .ptr d => uptoBulk d + 1
  | .slice elems spare => uptoBulkAll elems + uptoBulkAll spare + 1
  | .agg parts => uptoBulkAll parts + 1
  | .iface _ d => uptoBulk d + 1
  | .map entries => uptoBulkEntries entries + 1
  | .held _ => 1
def uptoBulkAll {H : Type} : List (DataW H) → Nat
  | [] => 0
  | d :: r => uptoBulk d + uptoBulkAll r
def uptoBulkEntries {H : Type} : List (Lit × DataW H) → Nat
  | [] => 0
  | x :: r => uptoBulkEntry x + uptoBulkEntries r
def uptoBulkEntry {H : Type} : Lit × DataW H → Nat
  | (.string bytes, d) => bytes.length + uptoBulk d + 1
  | (_, d) => uptoBulk d + 1
 end
def uptoSmall : (H : Type) → List (DataW H) → Bool := fun _ ds => decide (uptoBulkAll ds ≤ 1048576)
def OpenSpec.upto (s : _root_.Go.ChangeSpec) : _root_.Go.OpenSpec := { _root_.Go.OpenSpec.ofChange s with cond := some uptoSmall }

/-- 'pythialaw05.ChainAlone', WHERE WHAT IT READS IS OF BULK AT MOST 1048576: true; the input reads as it did. -/
def chainAloneUptoRow : OpenClaim := { program := "ytefhngbeodnldaa", sum := "3f1ab59b3f8603d116a4360a6f6b0eab9a2567a46c84467690522655d31f1d44", func := "pythia/pythialaw05.ChainAlone", spec := "chainAlone", inPlace := ["slices.overlaps[int64]"], unfollowed := true, recurses := true, apart := false, narrowed := true }
def ChainAloneUptoSaid : Prop := chainAloneUptoRow.holds Try.pinned (OpenSpec.upto chainAloneSpec)

/-- 'pythialaw05.ChainFree', WHERE WHAT IT READS IS OF BULK AT MOST 1048576: true; the input reads as it did. -/
def chainFreeUptoRow : OpenClaim := { program := "ytefhngbeodnldaa", sum := "3f1ab59b3f8603d116a4360a6f6b0eab9a2567a46c84467690522655d31f1d44", func := "pythia/pythialaw05.ChainFree", spec := "chainFree", inPlace := ["slices.overlaps[int64]"], unfollowed := true, recurses := true, apart := false, narrowed := true }
def ChainFreeUptoSaid : Prop := chainFreeUptoRow.holds Try.pinned (OpenSpec.upto chainFreeSpec)

/-- 'pythialaw05.ChainApart', WHERE WHAT IT READS IS OF BULK AT MOST 1048576: true; the input reads as it did. -/
def chainApartUptoRow : OpenClaim := { program := "ytefhngbeodnldaa", sum := "3f1ab59b3f8603d116a4360a6f6b0eab9a2567a46c84467690522655d31f1d44", func := "pythia/pythialaw05.ChainApart", spec := "chainApart", inPlace := ["slices.overlaps[int64]"], unfollowed := true, recurses := true, apart := false, narrowed := true }
def ChainApartUptoSaid : Prop := chainApartUptoRow.holds Try.pinned (OpenSpec.upto chainApartSpec)

end Rows
end Go.Proofs.Ytefhngbeodnldaa
