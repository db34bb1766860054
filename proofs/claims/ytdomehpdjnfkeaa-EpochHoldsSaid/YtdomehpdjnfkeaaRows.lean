/-
  No cell of these rows narrows 'for every input' (looked for: loops, veiled, ifaces, maps, wideKeys, modest, calm, conditions, laid).
  DERIVED. THE GIVEN ROWS OF THIS SEAT. 4 by the template 'for every input the law returns true; each argument reads behind the call as it read before'; 0 by the template 'total and deterministic' (their statements: YtdomehpdjnfkeaaTotals.lean).
  GIVEN WITH THE SEED: the statements are not yours to turn. If you find one false, say at which input.
  Laid BY PROGRAM, IN A SANDBOX (cutbox-rows.mjs): the forced cells as the released guide's own fill.sh prints them over the translation a867ff53fd52913d… (all of the seat's roots in one cut). By AI agents, Wed Nov 11 2026. No macro, syntax, notation, axiom, sorry.
-/
import Derived.Test.YtdomehpdjnfkeaaChecked
import GoSem.Claim
import GoSem.ClaimJoined
import GoSem.ClaimMapViews
import Derived.JoinedTies
import Derived.KernelRfl
namespace Go.Proofs.Ytdomehpdjnfkeaa
/- THE CELL 'sum', in the pinned program and in every row, IS THE sha256 OF THE DUMP (.gsa) THAT YtdomehpdjnfkeaaProg.lean LOADS. Nothing in Lean hashes anything: it is a label: what it is worth is what the hold of that sum in a sandbox is worth. -/
noncomputable def Try.pinned : Pinned := { name := "ytdomehpdjnfkeaa", sum := "a867ff53fd52913d4970d02193b6db4cfab0a6f1676d579956dd4b90ed732afc", checked := Try.checked }
namespace Rows
def none {H : Type} : Left H := { results := [], args := [] }

/-- 'pythialaw04.EpochHolds': WHATEVER THE INPUT: true; the input reads as it did. -/
def epochHoldsSpec : ChangeSpec := { name := "epochHolds", fn := fun _ => fun
  | [d1, d2, d3, d4] => { results := [.lit (.bool true)], args := [d1, d2, d3, d4] }
  | _ => none }
def epochHoldsRow : OpenClaim := { program := "ytdomehpdjnfkeaa", sum := "a867ff53fd52913d4970d02193b6db4cfab0a6f1676d579956dd4b90ed732afc", func := "pythia/pythialaw04.EpochHolds", spec := "epochHolds", unfollowed := true, recurses := true, apart := false }
def EpochHoldsSaid : Prop := epochHoldsRow.holds Try.pinned (OpenSpec.ofChange epochHoldsSpec)

/-- ITS FALSE NEIGHBOUR: 'it returns false'. Refute it at one input. -/
def epochHoldsWrong : ChangeSpec := { name := "epochHolds", fn := fun _ => fun
  | [d1, d2, d3, d4] => { results := [.lit (.bool false)], args := [d1, d2, d3, d4] }
  | _ => none }
def EpochHoldsWrongFalsely : Prop := epochHoldsRow.holds Try.pinned (OpenSpec.ofChange epochHoldsWrong)

/-- 'pythialaw04.EpochBounds': WHATEVER THE INPUT: true; the input reads as it did. -/
def epochBoundsSpec : ChangeSpec := { name := "epochBounds", fn := fun _ => fun
  | [d1, d2, d3] => { results := [.lit (.bool true)], args := [d1, d2, d3] }
  | _ => none }
def epochBoundsRow : OpenClaim := { program := "ytdomehpdjnfkeaa", sum := "a867ff53fd52913d4970d02193b6db4cfab0a6f1676d579956dd4b90ed732afc", func := "pythia/pythialaw04.EpochBounds", spec := "epochBounds", unfollowed := true, recurses := true, apart := false }
def EpochBoundsSaid : Prop := epochBoundsRow.holds Try.pinned (OpenSpec.ofChange epochBoundsSpec)

/-- ITS FALSE NEIGHBOUR: 'it returns false'. Refute it at one input. -/
def epochBoundsWrong : ChangeSpec := { name := "epochBounds", fn := fun _ => fun
  | [d1, d2, d3] => { results := [.lit (.bool false)], args := [d1, d2, d3] }
  | _ => none }
def EpochBoundsWrongFalsely : Prop := epochBoundsRow.holds Try.pinned (OpenSpec.ofChange epochBoundsWrong)

/-- 'pythialaw04.EpochOrder': WHATEVER THE INPUT: true; the input reads as it did. -/
def epochOrderSpec : ChangeSpec := { name := "epochOrder", fn := fun _ => fun
  | [d1, d2] => { results := [.lit (.bool true)], args := [d1, d2] }
  | _ => none }
def epochOrderRow : OpenClaim := { program := "ytdomehpdjnfkeaa", sum := "a867ff53fd52913d4970d02193b6db4cfab0a6f1676d579956dd4b90ed732afc", func := "pythia/pythialaw04.EpochOrder", spec := "epochOrder", unfollowed := true, recurses := true, apart := false }
def EpochOrderSaid : Prop := epochOrderRow.holds Try.pinned (OpenSpec.ofChange epochOrderSpec)

/-- ITS FALSE NEIGHBOUR: 'it returns false'. Refute it at one input. -/
def epochOrderWrong : ChangeSpec := { name := "epochOrder", fn := fun _ => fun
  | [d1, d2] => { results := [.lit (.bool false)], args := [d1, d2] }
  | _ => none }
def EpochOrderWrongFalsely : Prop := epochOrderRow.holds Try.pinned (OpenSpec.ofChange epochOrderWrong)

/-- 'pythialaw04.EpochTwice': WHATEVER THE INPUT: true; the input reads as it did. -/
def epochTwiceSpec : ChangeSpec := { name := "epochTwice", fn := fun _ => fun
  | [d1, d2, d3] => { results := [.lit (.bool true)], args := [d1, d2, d3] }
  | _ => none }
def epochTwiceRow : OpenClaim := { program := "ytdomehpdjnfkeaa", sum := "a867ff53fd52913d4970d02193b6db4cfab0a6f1676d579956dd4b90ed732afc", func := "pythia/pythialaw04.EpochTwice", spec := "epochTwice", unfollowed := true, recurses := true, apart := false }
def EpochTwiceSaid : Prop := epochTwiceRow.holds Try.pinned (OpenSpec.ofChange epochTwiceSpec)

/-- ITS FALSE NEIGHBOUR: 'it returns false'. Refute it at one input. -/
def epochTwiceWrong : ChangeSpec := { name := "epochTwice", fn := fun _ => fun
  | [d1, d2, d3] => { results := [.lit (.bool false)], args := [d1, d2, d3] }
  | _ => none }
def EpochTwiceWrongFalsely : Prop := epochTwiceRow.holds Try.pinned (OpenSpec.ofChange epochTwiceWrong)

/- THE SECOND FORM. 'bulk': how many values and letters a reading holds, each counted each time it is reached (what is shared counts as often as it is met; a slice's spare places count too). A statement '..UptoSaid' is the law's where the arguments, and the package variables that the reading takes, are together of bulk at most 1048576: NARROWER than '..Said'. Prove '..Said' where nothing that the law and all that it calls make is longer than what came in: it says more and counts as full. Else prove '..UptoSaid'. A law counts once. -/
mutual
def uptoBulk {H : Type} : DataW H → Nat
  | .lit (.string bytes) => bytes.length + 1
  | .lit _ => 1
  | .nil => 1
  | .ptr d => uptoBulk d + 1
  | .slice elems spare => uptoBulkAll elems + uptoBulkAll spare + 1
  | .agg parts => uptoBulkAll parts + 1
  | .iface _ d => uptoBulk d + 1
  | .map entries => uptoBulkEntries entries + 1
  | .held _ => 1
def uptoBulkAll {H : Type} : List (DataW H) → Nat
  | [] => 0
  | d :: r => uptoBulk d + uptoBulkAll r
def uptoBulkEntries {H : Type} : List (Lit × DataW H) → Nat
  | [] => 0
  | x :: r => uptoBulkEntry x + uptoBulkEntries r
def uptoBulkEntry {H : Type} : Lit × DataW H → Nat
  | (.string bytes, d) => bytes.length + uptoBulk d + 1
  | (_, d) => uptoBulk d + 1
 end
def uptoSmall : (H : Type) → List (DataW H) → Bool := fun _ ds => decide (uptoBulkAll ds ≤ 1048576)
def OpenSpec.upto (s : _root_.Go.ChangeSpec) : _root_.Go.OpenSpec := { _root_.Go.OpenSpec.ofChange s with cond := some uptoSmall }

/-- 'pythialaw04.EpochHolds', WHERE WHAT IT READS IS OF BULK AT MOST 1048576: true; the input reads as it did. -/
def epochHoldsUptoRow : OpenClaim := { program := "ytdomehpdjnfkeaa", sum := "a867ff53fd52913d4970d02193b6db4cfab0a6f1676d579956dd4b90ed732afc", func := "pythia/pythialaw04.EpochHolds", spec := "epochHolds", unfollowed := true, recurses := true, apart := false, narrowed := true }
def EpochHoldsUptoSaid : Prop := epochHoldsUptoRow.holds Try.pinned (OpenSpec.upto epochHoldsSpec)

/-- 'pythialaw04.EpochBounds', WHERE WHAT IT READS IS OF BULK AT MOST 1048576: true; the input reads as it did. -/
def epochBoundsUptoRow : OpenClaim := { program := "ytdomehpdjnfkeaa", sum := "a867ff53fd52913d4970d02193b6db4cfab0a6f1676d579956dd4b90ed732afc", func := "pythia/pythialaw04.EpochBounds", spec := "epochBounds", unfollowed := true, recurses := true, apart := false, narrowed := true }
def EpochBoundsUptoSaid : Prop := epochBoundsUptoRow.holds Try.pinned (OpenSpec.upto epochBoundsSpec)

/-- 'pythialaw04.EpochOrder', WHERE WHAT IT READS IS OF BULK AT MOST 1048576: true; the input reads as it did. -/
def epochOrderUptoRow : OpenClaim := { program := "ytdomehpdjnfkeaa", sum := "a867ff53fd52913d4970d02193b6db4cfab0a6f1676d579956dd4b90ed732afc", func := "pythia/pythialaw04.EpochOrder", spec := "epochOrder", unfollowed := true, recurses := true, apart := false, narrowed := true }
def EpochOrderUptoSaid : Prop := epochOrderUptoRow.holds Try.pinned (OpenSpec.upto epochOrderSpec)

/-- 'pythialaw04.EpochTwice', WHERE WHAT IT READS IS OF BULK AT MOST 1048576: true; the input reads as it did. -/
def epochTwiceUptoRow : OpenClaim := { program := "ytdomehpdjnfkeaa", sum := "a867ff53fd52913d4970d02193b6db4cfab0a6f1676d579956dd4b90ed732afc", func := "pythia/pythialaw04.EpochTwice", spec := "epochTwice", unfollowed := true, recurses := true, apart := false, narrowed := true }
def EpochTwiceUptoSaid : Prop := epochTwiceUptoRow.holds Try.pinned (OpenSpec.upto epochTwiceSpec)

end Rows
end Go.Proofs.Ytdomehpdjnfkeaa
