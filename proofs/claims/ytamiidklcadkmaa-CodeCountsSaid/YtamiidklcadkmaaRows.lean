/-
  NARROWER THAN 'FOR EVERY INPUT', by the rows' own cells (each row's printed sentence says how): CodePlays: loops · CodeSound: loops · CodeCounts: loops · CodeGoals: loops.
  DERIVED. THE GIVEN ROWS OF THIS SEAT. 4 by the template 'for every input the law returns true; each argument reads behind the call as it read before'; 0 by the template 'total and deterministic' (their statements: YtamiidklcadkmaaTotals.lean).
  GIVEN WITH THE SEED: the statements are not yours to turn. If you find one false, say at which input.
  Laid BY PROGRAM, IN A SANDBOX (cutbox-rows.mjs): the forced cells as the released guide's own fill.sh prints them over the translation 61f95512710eeeaa… (all of the seat's roots in one cut). By AI agents, Wed Nov 11 2026. No macro, syntax, notation, axiom, sorry.
-/
import Derived.Test.YtamiidklcadkmaaChecked
import GoSem.Claim
import GoSem.ClaimJoined
import GoSem.ClaimMapViews
import Derived.JoinedTies
import Derived.KernelRfl
namespace Go.Proofs.Ytamiidklcadkmaa
/- THE CELL 'sum', in the pinned program and in every row, IS THE sha256 OF THE DUMP (.gsa) THAT YtamiidklcadkmaaProg.lean LOADS. Nothing in Lean hashes anything: it is a label: what it is worth is what the hold of that sum in a sandbox is worth. -/
noncomputable def Try.pinned : Pinned := { name := "ytamiidklcadkmaa", sum := "61f95512710eeeaab843d66f447240bc404a545f67284d4dfb9e30d582798b2c", checked := Try.checked }
namespace Rows
def none {H : Type} : Left H := { results := [], args := [] }

/-- 'pythialaw18.CodePlays': WHATEVER THE INPUT: true; the input reads as it did. -/
def codePlaysSpec : ChangeSpec := { name := "codePlays", fn := fun _ => fun
  | [d1, d2] => { results := [.lit (.bool true)], args := [d1, d2] }
  | _ => none }
def codePlaysRow : OpenClaim := { program := "ytamiidklcadkmaa", sum := "61f95512710eeeaab843d66f447240bc404a545f67284d4dfb9e30d582798b2c", func := "pythia/pythialaw18.CodePlays", spec := "codePlays", recurses := true, loops := true, apart := false }
def CodePlaysSaid : Prop := codePlaysRow.holds Try.pinned (OpenSpec.ofChange codePlaysSpec)

/-- ITS FALSE NEIGHBOUR: 'it returns false'. Refute it at one input. -/
def codePlaysWrong : ChangeSpec := { name := "codePlays", fn := fun _ => fun
  | [d1, d2] => { results := [.lit (.bool false)], args := [d1, d2] }
  | _ => none }
def CodePlaysWrongFalsely : Prop := codePlaysRow.holds Try.pinned (OpenSpec.ofChange codePlaysWrong)

/-- 'pythialaw18.CodeSound': WHATEVER THE INPUT: true; the input reads as it did. -/
def codeSoundSpec : ChangeSpec := { name := "codeSound", fn := fun _ => fun
  | [d1, d2, d3, d4] => { results := [.lit (.bool true)], args := [d1, d2, d3, d4] }
  | _ => none }
def codeSoundRow : OpenClaim := { program := "ytamiidklcadkmaa", sum := "61f95512710eeeaab843d66f447240bc404a545f67284d4dfb9e30d582798b2c", func := "pythia/pythialaw18.CodeSound", spec := "codeSound", recurses := true, loops := true, apart := false }
def CodeSoundSaid : Prop := codeSoundRow.holds Try.pinned (OpenSpec.ofChange codeSoundSpec)

/-- ITS FALSE NEIGHBOUR: 'it returns false'. Refute it at one input. -/
def codeSoundWrong : ChangeSpec := { name := "codeSound", fn := fun _ => fun
  | [d1, d2, d3, d4] => { results := [.lit (.bool false)], args := [d1, d2, d3, d4] }
  | _ => none }
def CodeSoundWrongFalsely : Prop := codeSoundRow.holds Try.pinned (OpenSpec.ofChange codeSoundWrong)

/-- 'pythialaw18.CodeCounts': WHATEVER THE INPUT: true; the input reads as it did. -/
def codeCountsSpec : ChangeSpec := { name := "codeCounts", fn := fun _ => fun
  | [d1, d2, d3, d4] => { results := [.lit (.bool true)], args := [d1, d2, d3, d4] }
  | _ => none }
def codeCountsRow : OpenClaim := { program := "ytamiidklcadkmaa", sum := "61f95512710eeeaab843d66f447240bc404a545f67284d4dfb9e30d582798b2c", func := "pythia/pythialaw18.CodeCounts", spec := "codeCounts", recurses := true, loops := true, apart := false }
def CodeCountsSaid : Prop := codeCountsRow.holds Try.pinned (OpenSpec.ofChange codeCountsSpec)

/-- ITS FALSE NEIGHBOUR: 'it returns false'. Refute it at one input. -/
def codeCountsWrong : ChangeSpec := { name := "codeCounts", fn := fun _ => fun
  | [d1, d2, d3, d4] => { results := [.lit (.bool false)], args := [d1, d2, d3, d4] }
  | _ => none }
def CodeCountsWrongFalsely : Prop := codeCountsRow.holds Try.pinned (OpenSpec.ofChange codeCountsWrong)

/-- 'pythialaw18.CodeGoals': WHATEVER THE INPUT: true; the input reads as it did. -/
def codeGoalsSpec : ChangeSpec := { name := "codeGoals", fn := fun _ => fun
  | [d1, d2] => { results := [.lit (.bool true)], args := [d1, d2] }
  | _ => none }
def codeGoalsRow : OpenClaim := { program := "ytamiidklcadkmaa", sum := "61f95512710eeeaab843d66f447240bc404a545f67284d4dfb9e30d582798b2c", func := "pythia/pythialaw18.CodeGoals", spec := "codeGoals", recurses := true, loops := true, apart := false }
def CodeGoalsSaid : Prop := codeGoalsRow.holds Try.pinned (OpenSpec.ofChange codeGoalsSpec)

/-- ITS FALSE NEIGHBOUR: 'it returns false'. Refute it at one input. -/
def codeGoalsWrong : ChangeSpec := { name := "codeGoals", fn := fun _ => fun
  | [d1, d2] => { results := [.lit (.bool false)], args := [d1, d2] }
  | _ => none }
def CodeGoalsWrongFalsely : Prop := codeGoalsRow.holds Try.pinned (OpenSpec.ofChange codeGoalsWrong)

/- THE SECOND FORM. 'bulk': how many values and letters a reading holds, each counted each time it is reached (what is shared counts as often as it is met; a slice's spare places count too). A statement '..UptoSaid' is the law's where the arguments, and the package variables that the reading takes, are together of bulk at most 1048576: NARROWER than '..Said'. Prove '..Said' where nothing that the law and all that it calls make is longer than what came in: it says more and counts as full. Else prove '..UptoSaid'. A law counts once. -/
mutual
def uptoBulk {H : Type} : DataW H → Nat
  | .lit (.string bytes) => bytes.length + 1
  | .lit _ => 1
  | .nil => 1
  | .ptr d => uptoBulk d + 1
  | .slice elems spare => uptoBulkAll elems + uptoBulkAll spare + 1
  | .agg parts => uptoBulkAll parts + 1
  | .iface _ d => uptoBulk d + 1
  | .map entries => uptoBulkEntries entries + 1
  | .held _ => 1
def uptoBulkAll {H : Type} : List (DataW H) → Nat
  | [] => 0
  | d :: r => uptoBulk d + uptoBulkAll r
def uptoBulkEntries {H : Type} : List (Lit × DataW H) → Nat
  | [] => 0
  | x :: r => uptoBulkEntry x + uptoBulkEntries r
def uptoBulkEntry {H : Type} : Lit × DataW H → Nat
  | (.string bytes, d) => bytes.length + uptoBulk d + 1
  | (_, d) => uptoBulk d + 1
 end
def uptoSmall : (H : Type) → List (DataW H) → Bool := fun _ ds => decide (uptoBulkAll ds ≤ 1048576)
def OpenSpec.upto (s : _root_.Go.ChangeSpec) : _root_.Go.OpenSpec := { _root_.Go.OpenSpec.ofChange s with cond := some uptoSmall }

/-- 'pythialaw18.CodePlays', WHERE WHAT IT READS IS OF BULK AT MOST 1048576: true; the input reads as it did. -/
def codePlaysUptoRow : OpenClaim := { program := "ytamiidklcadkmaa", sum := "61f95512710eeeaab843d66f447240bc404a545f67284d4dfb9e30d582798b2c", func := "pythia/pythialaw18.CodePlays", spec := "codePlays", recurses := true, loops := true, apart := false, narrowed := true }
def CodePlaysUptoSaid : Prop := codePlaysUptoRow.holds Try.pinned (OpenSpec.upto codePlaysSpec)

/-- 'pythialaw18.CodeSound', WHERE WHAT IT READS IS OF BULK AT MOST 1048576: true; the input reads as it did. -/
def codeSoundUptoRow : OpenClaim := { program := "ytamiidklcadkmaa", sum := "61f95512710eeeaab843d66f447240bc404a545f67284d4dfb9e30d582798b2c", func := "pythia/pythialaw18.CodeSound", spec := "codeSound", recurses := true, loops := true, apart := false, narrowed := true }
def CodeSoundUptoSaid : Prop := codeSoundUptoRow.holds Try.pinned (OpenSpec.upto codeSoundSpec)

/-- 'pythialaw18.CodeCounts', WHERE WHAT IT READS IS OF BULK AT MOST 1048576: true; the input reads as it did. -/
def codeCountsUptoRow : OpenClaim := { program := "ytamiidklcadkmaa", sum := "61f95512710eeeaab843d66f447240bc404a545f67284d4dfb9e30d582798b2c", func := "pythia/pythialaw18.CodeCounts", spec := "codeCounts", recurses := true, loops := true, apart := false, narrowed := true }
def CodeCountsUptoSaid : Prop := codeCountsUptoRow.holds Try.pinned (OpenSpec.upto codeCountsSpec)

/-- 'pythialaw18.CodeGoals', WHERE WHAT IT READS IS OF BULK AT MOST 1048576: true; the input reads as it did. -/
def codeGoalsUptoRow : OpenClaim := { program := "ytamiidklcadkmaa", sum := "61f95512710eeeaab843d66f447240bc404a545f67284d4dfb9e30d582798b2c", func := "pythia/pythialaw18.CodeGoals", spec := "codeGoals", recurses := true, loops := true, apart := false, narrowed := true }
def CodeGoalsUptoSaid : Prop := codeGoalsUptoRow.holds Try.pinned (OpenSpec.upto codeGoalsSpec)

end Rows
end Go.Proofs.Ytamiidklcadkmaa
