/-
  No cell of these rows narrows 'for every input' (looked for: loops, veiled, ifaces, maps, wideKeys, modest, calm, conditions, laid).
  DERIVED. THE GIVEN ROWS OF THIS SEAT. 10 by the template 'for every input the law returns true; each argument reads behind the call as it read before'; 0 by the template 'total and deterministic' (their statements: YtemibcglhbjaoaaTotals.lean).
  GIVEN WITH THE SEED: the statements are not yours to turn. If you find one false, say at which input.
  Laid BY PROGRAM, IN A SANDBOX (cutbox-rows.mjs): the forced cells as the released guide's own fill.sh prints them over the translation 660e4c0f34fc907a… (all of the seat's roots in one cut). By AI agents, Wed Nov 11 2026. No macro, syntax, notation, axiom, sorry.
-/
import Derived.Test.YtemibcglhbjaoaaChecked
import GoSem.Claim
import GoSem.ClaimJoined
import GoSem.ClaimMapViews
import Derived.JoinedTies
import Derived.KernelRfl
namespace Go.Proofs.Ytemibcglhbjaoaa
/- THE CELL 'sum', in the pinned program and in every row, IS THE sha256 OF THE DUMP (.gsa) THAT YtemibcglhbjaoaaProg.lean LOADS. Nothing in Lean hashes anything: it is a label: what it is worth is what the hold of that sum in a sandbox is worth. -/
noncomputable def Try.pinned : Pinned := { name := "ytemibcglhbjaoaa", sum := "660e4c0f34fc907ab4c409c258240485e6b41e98d242adc5941b9815a32d4ef4", checked := Try.checked }
namespace Rows
def none {H : Type} : Left H := { results := [], args := [] }

/-- 'pythialaw06.SchedNumbers': WHATEVER THE INPUT: true; the input reads as it did. -/
def schedNumbersSpec : ChangeSpec := { name := "schedNumbers", fn := fun _ => fun
  | [d1, d2] => { results := [.lit (.bool true)], args := [d1, d2] }
  | _ => none }
def schedNumbersRow : OpenClaim := { program := "ytemibcglhbjaoaa", sum := "660e4c0f34fc907ab4c409c258240485e6b41e98d242adc5941b9815a32d4ef4", func := "pythia/pythialaw06.SchedNumbers", spec := "schedNumbers", apart := false }
def SchedNumbersSaid : Prop := schedNumbersRow.holds Try.pinned (OpenSpec.ofChange schedNumbersSpec)

/-- ITS FALSE NEIGHBOUR: 'it returns false'. Refute it at one input. -/
def schedNumbersWrong : ChangeSpec := { name := "schedNumbers", fn := fun _ => fun
  | [d1, d2] => { results := [.lit (.bool false)], args := [d1, d2] }
  | _ => none }
def SchedNumbersWrongFalsely : Prop := schedNumbersRow.holds Try.pinned (OpenSpec.ofChange schedNumbersWrong)

/-- 'pythialaw02.CellsSwaps': WHATEVER THE INPUT: true; the input reads as it did. -/
def cellsSwapsSpec : ChangeSpec := { name := "cellsSwaps", fn := fun _ => fun
  | [d1, d2] => { results := [.lit (.bool true)], args := [d1, d2] }
  | _ => none }
def cellsSwapsRow : OpenClaim := { program := "ytemibcglhbjaoaa", sum := "660e4c0f34fc907ab4c409c258240485e6b41e98d242adc5941b9815a32d4ef4", func := "pythia/pythialaw02.CellsSwaps", spec := "cellsSwaps", apart := false }
def CellsSwapsSaid : Prop := cellsSwapsRow.holds Try.pinned (OpenSpec.ofChange cellsSwapsSpec)

/-- ITS FALSE NEIGHBOUR: 'it returns false'. Refute it at one input. -/
def cellsSwapsWrong : ChangeSpec := { name := "cellsSwaps", fn := fun _ => fun
  | [d1, d2] => { results := [.lit (.bool false)], args := [d1, d2] }
  | _ => none }
def CellsSwapsWrongFalsely : Prop := cellsSwapsRow.holds Try.pinned (OpenSpec.ofChange cellsSwapsWrong)

/-- 'pythialaw02.CellsNumbers': WHATEVER THE INPUT: true; the input reads as it did. -/
def cellsNumbersSpec : ChangeSpec := { name := "cellsNumbers", fn := fun _ => fun
  | [d1, d2] => { results := [.lit (.bool true)], args := [d1, d2] }
  | _ => none }
def cellsNumbersRow : OpenClaim := { program := "ytemibcglhbjaoaa", sum := "660e4c0f34fc907ab4c409c258240485e6b41e98d242adc5941b9815a32d4ef4", func := "pythia/pythialaw02.CellsNumbers", spec := "cellsNumbers", apart := false }
def CellsNumbersSaid : Prop := cellsNumbersRow.holds Try.pinned (OpenSpec.ofChange cellsNumbersSpec)

/-- ITS FALSE NEIGHBOUR: 'it returns false'. Refute it at one input. -/
def cellsNumbersWrong : ChangeSpec := { name := "cellsNumbers", fn := fun _ => fun
  | [d1, d2] => { results := [.lit (.bool false)], args := [d1, d2] }
  | _ => none }
def CellsNumbersWrongFalsely : Prop := cellsNumbersRow.holds Try.pinned (OpenSpec.ofChange cellsNumbersWrong)

/-- 'pythialaw02.CellsApart': WHATEVER THE INPUT: true; the input reads as it did. -/
def cellsApartSpec : ChangeSpec := { name := "cellsApart", fn := fun _ => fun
  | [d1, d2, d3] => { results := [.lit (.bool true)], args := [d1, d2, d3] }
  | _ => none }
def cellsApartRow : OpenClaim := { program := "ytemibcglhbjaoaa", sum := "660e4c0f34fc907ab4c409c258240485e6b41e98d242adc5941b9815a32d4ef4", func := "pythia/pythialaw02.CellsApart", spec := "cellsApart", apart := false }
def CellsApartSaid : Prop := cellsApartRow.holds Try.pinned (OpenSpec.ofChange cellsApartSpec)

/-- ITS FALSE NEIGHBOUR: 'it returns false'. Refute it at one input. -/
def cellsApartWrong : ChangeSpec := { name := "cellsApart", fn := fun _ => fun
  | [d1, d2, d3] => { results := [.lit (.bool false)], args := [d1, d2, d3] }
  | _ => none }
def CellsApartWrongFalsely : Prop := cellsApartRow.holds Try.pinned (OpenSpec.ofChange cellsApartWrong)

/-- 'pythialaw02.CellsPlays': WHATEVER THE INPUT: true; the input reads as it did. -/
def cellsPlaysSpec : ChangeSpec := { name := "cellsPlays", fn := fun _ => fun
  | [d1, d2] => { results := [.lit (.bool true)], args := [d1, d2] }
  | _ => none }
def cellsPlaysRow : OpenClaim := { program := "ytemibcglhbjaoaa", sum := "660e4c0f34fc907ab4c409c258240485e6b41e98d242adc5941b9815a32d4ef4", func := "pythia/pythialaw02.CellsPlays", spec := "cellsPlays", apart := false }
def CellsPlaysSaid : Prop := cellsPlaysRow.holds Try.pinned (OpenSpec.ofChange cellsPlaysSpec)

/-- ITS FALSE NEIGHBOUR: 'it returns false'. Refute it at one input. -/
def cellsPlaysWrong : ChangeSpec := { name := "cellsPlays", fn := fun _ => fun
  | [d1, d2] => { results := [.lit (.bool false)], args := [d1, d2] }
  | _ => none }
def CellsPlaysWrongFalsely : Prop := cellsPlaysRow.holds Try.pinned (OpenSpec.ofChange cellsPlaysWrong)

/-- 'pythialaw02.CellsRoom': WHATEVER THE INPUT: true; the input reads as it did. -/
def cellsRoomSpec : ChangeSpec := { name := "cellsRoom", fn := fun _ => fun
  | [d1, d2, d3] => { results := [.lit (.bool true)], args := [d1, d2, d3] }
  | _ => none }
def cellsRoomRow : OpenClaim := { program := "ytemibcglhbjaoaa", sum := "660e4c0f34fc907ab4c409c258240485e6b41e98d242adc5941b9815a32d4ef4", func := "pythia/pythialaw02.CellsRoom", spec := "cellsRoom", apart := false }
def CellsRoomSaid : Prop := cellsRoomRow.holds Try.pinned (OpenSpec.ofChange cellsRoomSpec)

/-- ITS FALSE NEIGHBOUR: 'it returns false'. Refute it at one input. -/
def cellsRoomWrong : ChangeSpec := { name := "cellsRoom", fn := fun _ => fun
  | [d1, d2, d3] => { results := [.lit (.bool false)], args := [d1, d2, d3] }
  | _ => none }
def CellsRoomWrongFalsely : Prop := cellsRoomRow.holds Try.pinned (OpenSpec.ofChange cellsRoomWrong)

/-- 'pythialaw06.SchedWakes': WHATEVER THE INPUT: true; the input reads as it did. -/
def schedWakesSpec : ChangeSpec := { name := "schedWakes", fn := fun _ => fun
  | [d1, d2] => { results := [.lit (.bool true)], args := [d1, d2] }
  | _ => none }
def schedWakesRow : OpenClaim := { program := "ytemibcglhbjaoaa", sum := "660e4c0f34fc907ab4c409c258240485e6b41e98d242adc5941b9815a32d4ef4", func := "pythia/pythialaw06.SchedWakes", spec := "schedWakes", apart := false }
def SchedWakesSaid : Prop := schedWakesRow.holds Try.pinned (OpenSpec.ofChange schedWakesSpec)

/-- ITS FALSE NEIGHBOUR: 'it returns false'. Refute it at one input. -/
def schedWakesWrong : ChangeSpec := { name := "schedWakes", fn := fun _ => fun
  | [d1, d2] => { results := [.lit (.bool false)], args := [d1, d2] }
  | _ => none }
def SchedWakesWrongFalsely : Prop := schedWakesRow.holds Try.pinned (OpenSpec.ofChange schedWakesWrong)

/-- 'pythialaw06.SchedKeys': WHATEVER THE INPUT: true; the input reads as it did. -/
def schedKeysSpec : ChangeSpec := { name := "schedKeys", fn := fun _ => fun
  | [d1, d2, d3] => { results := [.lit (.bool true)], args := [d1, d2, d3] }
  | _ => none }
def schedKeysRow : OpenClaim := { program := "ytemibcglhbjaoaa", sum := "660e4c0f34fc907ab4c409c258240485e6b41e98d242adc5941b9815a32d4ef4", func := "pythia/pythialaw06.SchedKeys", spec := "schedKeys", apart := false }
def SchedKeysSaid : Prop := schedKeysRow.holds Try.pinned (OpenSpec.ofChange schedKeysSpec)

/-- ITS FALSE NEIGHBOUR: 'it returns false'. Refute it at one input. -/
def schedKeysWrong : ChangeSpec := { name := "schedKeys", fn := fun _ => fun
  | [d1, d2, d3] => { results := [.lit (.bool false)], args := [d1, d2, d3] }
  | _ => none }
def SchedKeysWrongFalsely : Prop := schedKeysRow.holds Try.pinned (OpenSpec.ofChange schedKeysWrong)

/-- 'pythialaw06.SchedPlays': WHATEVER THE INPUT: true; the input reads as it did. -/
def schedPlaysSpec : ChangeSpec := { name := "schedPlays", fn := fun _ => fun
  | [d1, d2] => { results := [.lit (.bool true)], args := [d1, d2] }
  | _ => none }
def schedPlaysRow : OpenClaim := { program := "ytemibcglhbjaoaa", sum := "660e4c0f34fc907ab4c409c258240485e6b41e98d242adc5941b9815a32d4ef4", func := "pythia/pythialaw06.SchedPlays", spec := "schedPlays", apart := false }
def SchedPlaysSaid : Prop := schedPlaysRow.holds Try.pinned (OpenSpec.ofChange schedPlaysSpec)

/-- ITS FALSE NEIGHBOUR: 'it returns false'. Refute it at one input. -/
def schedPlaysWrong : ChangeSpec := { name := "schedPlays", fn := fun _ => fun
  | [d1, d2] => { results := [.lit (.bool false)], args := [d1, d2] }
  | _ => none }
def SchedPlaysWrongFalsely : Prop := schedPlaysRow.holds Try.pinned (OpenSpec.ofChange schedPlaysWrong)

/-- 'pythialaw06.SchedCounts': WHATEVER THE INPUT: true; the input reads as it did. -/
def schedCountsSpec : ChangeSpec := { name := "schedCounts", fn := fun _ => fun
  | [d1, d2] => { results := [.lit (.bool true)], args := [d1, d2] }
  | _ => none }
def schedCountsRow : OpenClaim := { program := "ytemibcglhbjaoaa", sum := "660e4c0f34fc907ab4c409c258240485e6b41e98d242adc5941b9815a32d4ef4", func := "pythia/pythialaw06.SchedCounts", spec := "schedCounts", apart := false }
def SchedCountsSaid : Prop := schedCountsRow.holds Try.pinned (OpenSpec.ofChange schedCountsSpec)

/-- ITS FALSE NEIGHBOUR: 'it returns false'. Refute it at one input. -/
def schedCountsWrong : ChangeSpec := { name := "schedCounts", fn := fun _ => fun
  | [d1, d2] => { results := [.lit (.bool false)], args := [d1, d2] }
  | _ => none }
def SchedCountsWrongFalsely : Prop := schedCountsRow.holds Try.pinned (OpenSpec.ofChange schedCountsWrong)

/- THE SECOND FORM. 'bulk': how many values and letters a reading holds, each counted each time it is reached (what is shared counts as often as it is met; a slice's spare places count too). A statement '..UptoSaid' is the law's where the arguments, and the package variables that the reading takes, are together of bulk at most 1048576: NARROWER than '..Said'. Prove '..Said' where nothing that the law and all that it calls make is longer than what came in: it says more and counts as full. Else prove '..UptoSaid'. A law counts once. -/
mutual
def uptoBulk {H : Type} : DataW H → Nat
  | .lit (.string bytes) => bytes.length + 1
  | .lit _ => 1
  | .nil => 1
  | .ptr d => uptoBulk d + 1
  | .slice elems spare => uptoBulkAll elems + uptoBulkAll spare + 1
  | .agg parts => uptoBulkAll parts + 1
  | .iface _ d => uptoBulk d + 1
  | .map entries => uptoBulkEntries entries + 1
  | .held _ => 1
def uptoBulkAll {H : Type} : List (DataW H) → Nat
  | [] => 0
  | d :: r => uptoBulk d + uptoBulkAll r
def uptoBulkEntries {H : Type} : List (Lit × DataW H) → Nat
  | [] => 0
  | x :: r => uptoBulkEntry x + uptoBulkEntries r
def uptoBulkEntry {H : Type} : Lit × DataW H → Nat
  | (.string bytes, d) => bytes.length + uptoBulk d + 1
  | (_, d) => uptoBulk d + 1
 end
def uptoSmall : (H : Type) → List (DataW H) → Bool := fun _ ds => decide (uptoBulkAll ds ≤ 1048576)
def OpenSpec.upto (s : _root_.Go.ChangeSpec) : _root_.Go.OpenSpec := { _root_.Go.OpenSpec.ofChange s with cond := some uptoSmall }

/-- 'pythialaw06.SchedNumbers', WHERE WHAT IT READS IS OF BULK AT MOST 1048576: true; the input reads as it did. -/
def schedNumbersUptoRow : OpenClaim := { program := "ytemibcglhbjaoaa", sum := "660e4c0f34fc907ab4c409c258240485e6b41e98d242adc5941b9815a32d4ef4", func := "pythia/pythialaw06.SchedNumbers", spec := "schedNumbers", apart := false, narrowed := true }
def SchedNumbersUptoSaid : Prop := schedNumbersUptoRow.holds Try.pinned (OpenSpec.upto schedNumbersSpec)

/-- 'pythialaw02.CellsSwaps', WHERE WHAT IT READS IS OF BULK AT MOST 1048576: true; the input reads as it did. -/
def cellsSwapsUptoRow : OpenClaim := { program := "ytemibcglhbjaoaa", sum := "660e4c0f34fc907ab4c409c258240485e6b41e98d242adc5941b9815a32d4ef4", func := "pythia/pythialaw02.CellsSwaps", spec := "cellsSwaps", apart := false, narrowed := true }
def CellsSwapsUptoSaid : Prop := cellsSwapsUptoRow.holds Try.pinned (OpenSpec.upto cellsSwapsSpec)

/-- 'pythialaw02.CellsNumbers', WHERE WHAT IT READS IS OF BULK AT MOST 1048576: true; the input reads as it did. -/
def cellsNumbersUptoRow : OpenClaim := { program := "ytemibcglhbjaoaa", sum := "660e4c0f34fc907ab4c409c258240485e6b41e98d242adc5941b9815a32d4ef4", func := "pythia/pythialaw02.CellsNumbers", spec := "cellsNumbers", apart := false, narrowed := true }
def CellsNumbersUptoSaid : Prop := cellsNumbersUptoRow.holds Try.pinned (OpenSpec.upto cellsNumbersSpec)

/-- 'pythialaw02.CellsApart', WHERE WHAT IT READS IS OF BULK AT MOST 1048576: true; the input reads as it did. -/
def cellsApartUptoRow : OpenClaim := { program := "ytemibcglhbjaoaa", sum := "660e4c0f34fc907ab4c409c258240485e6b41e98d242adc5941b9815a32d4ef4", func := "pythia/pythialaw02.CellsApart", spec := "cellsApart", apart := false, narrowed := true }
def CellsApartUptoSaid : Prop := cellsApartUptoRow.holds Try.pinned (OpenSpec.upto cellsApartSpec)

/-- 'pythialaw02.CellsPlays', WHERE WHAT IT READS IS OF BULK AT MOST 1048576: true; the input reads as it did. -/
def cellsPlaysUptoRow : OpenClaim := { program := "ytemibcglhbjaoaa", sum := "660e4c0f34fc907ab4c409c258240485e6b41e98d242adc5941b9815a32d4ef4", func := "pythia/pythialaw02.CellsPlays", spec := "cellsPlays", apart := false, narrowed := true }
def CellsPlaysUptoSaid : Prop := cellsPlaysUptoRow.holds Try.pinned (OpenSpec.upto cellsPlaysSpec)

/-- 'pythialaw02.CellsRoom', WHERE WHAT IT READS IS OF BULK AT MOST 1048576: true; the input reads as it did. -/
def cellsRoomUptoRow : OpenClaim := { program := "ytemibcglhbjaoaa", sum := "660e4c0f34fc907ab4c409c258240485e6b41e98d242adc5941b9815a32d4ef4", func := "pythia/pythialaw02.CellsRoom", spec := "cellsRoom", apart := false, narrowed := true }
def CellsRoomUptoSaid : Prop := cellsRoomUptoRow.holds Try.pinned (OpenSpec.upto cellsRoomSpec)

/-- 'pythialaw06.SchedWakes', WHERE WHAT IT READS IS OF BULK AT MOST 1048576: true; the input reads as it did. -/
def schedWakesUptoRow : OpenClaim := { program := "ytemibcglhbjaoaa", sum := "660e4c0f34fc907ab4c409c258240485e6b41e98d242adc5941b9815a32d4ef4", func := "pythia/pythialaw06.SchedWakes", spec := "schedWakes", apart := false, narrowed := true }
def SchedWakesUptoSaid : Prop := schedWakesUptoRow.holds Try.pinned (OpenSpec.upto schedWakesSpec)

/-- 'pythialaw06.SchedKeys', WHERE WHAT IT READS IS OF BULK AT MOST 1048576: true; the input reads as it did. -/
def schedKeysUptoRow : OpenClaim := { program := "ytemibcglhbjaoaa", sum := "660e4c0f34fc907ab4c409c258240485e6b41e98d242adc5941b9815a32d4ef4", func := "pythia/pythialaw06.SchedKeys", spec := "schedKeys", apart := false, narrowed := true }
def SchedKeysUptoSaid : Prop := schedKeysUptoRow.holds Try.pinned (OpenSpec.upto schedKeysSpec)

/-- 'pythialaw06.SchedPlays', WHERE WHAT IT READS IS OF BULK AT MOST 1048576: true; the input reads as it did. -/
def schedPlaysUptoRow : OpenClaim := { program := "ytemibcglhbjaoaa", sum := "660e4c0f34fc907ab4c409c258240485e6b41e98d242adc5941b9815a32d4ef4", func := "pythia/pythialaw06.SchedPlays", spec := "schedPlays", apart := false, narrowed := true }
def SchedPlaysUptoSaid : Prop := schedPlaysUptoRow.holds Try.pinned (OpenSpec.upto schedPlaysSpec)

/-- 'pythialaw06.SchedCounts', WHERE WHAT IT READS IS OF BULK AT MOST 1048576: true; the input reads as it did. -/
def schedCountsUptoRow : OpenClaim := { program := "ytemibcglhbjaoaa", sum := "660e4c0f34fc907ab4c409c258240485e6b41e98d242adc5941b9815a32d4ef4", func := "pythia/pythialaw06.SchedCounts", spec := "schedCounts", apart := false, narrowed := true }
def SchedCountsUptoSaid : Prop := schedCountsUptoRow.holds Try.pinned (OpenSpec.upto schedCountsSpec)

end Rows
end Go.Proofs.Ytemibcglhbjaoaa
