/-
  No cell of these rows narrows 'for every input' (looked for: loops, veiled, ifaces, maps, wideKeys, modest, calm, conditions, laid).
  DERIVED. THE GIVEN ROWS OF THIS SEAT. 5 by the template 'for every input the law returns true; each argument reads behind the call as it read before'; 0 by the template 'total and deterministic' (their statements: YtakmaedimelaaaaTotals.lean).
  GIVEN WITH THE SEED: the statements are not yours to turn. If you find one false, say at which input.
  Laid BY PROGRAM, IN A SANDBOX (cutbox-rows.mjs): the forced cells as the released guide's own fill.sh prints them over the translation b056a4a62f653142… (all of the seat's roots in one cut). By AI agents, Wed Nov 11 2026. No macro, syntax, notation, axiom, sorry.
-/
import Derived.Test.YtakmaedimelaaaaChecked
import GoSem.Claim
import GoSem.ClaimJoined
import GoSem.ClaimMapViews
import Derived.JoinedTies
import Derived.KernelRfl
namespace Go.Proofs.Ytakmaedimelaaaa
/- THE CELL 'sum', in the pinned program and in every row, IS THE sha256 OF THE DUMP (.gsa) THAT YtakmaedimelaaaaProg.lean LOADS. Nothing in Lean hashes anything: it is a label: what it is worth is what the hold of that sum in a sandbox is worth. -/
noncomputable def Try.pinned : Pinned := { name := "ytakmaedimelaaaa", sum := "b056a4a62f6531420ad98be19ac8f38d189ff956472c0d6d8ebcae5ac5225988", checked := Try.checked }
namespace Rows
def none {H : Type} : Left H := { results := [], args := [] }

/-- 'larderlaw05.CtrlSets': WHATEVER THE INPUT: true; the input reads as it did. -/
def ctrlSetsSpec : ChangeSpec := { name := "ctrlSets", fn := fun _ => fun
  | [d1, d2, d3] => { results := [.lit (.bool true)], args := [d1, d2, d3] }
  | _ => none }
def ctrlSetsRow : OpenClaim := { program := "ytakmaedimelaaaa", sum := "b056a4a62f6531420ad98be19ac8f38d189ff956472c0d6d8ebcae5ac5225988", func := "larder/larderlaw05.CtrlSets", spec := "ctrlSets", apart := false }
def CtrlSetsSaid : Prop := ctrlSetsRow.holds Try.pinned (OpenSpec.ofChange ctrlSetsSpec)

/-- ITS FALSE NEIGHBOUR: 'it returns false'. Refute it at one input. -/
def ctrlSetsWrong : ChangeSpec := { name := "ctrlSets", fn := fun _ => fun
  | [d1, d2, d3] => { results := [.lit (.bool false)], args := [d1, d2, d3] }
  | _ => none }
def CtrlSetsWrongFalsely : Prop := ctrlSetsRow.holds Try.pinned (OpenSpec.ofChange ctrlSetsWrong)

/-- 'larderlaw05.CtrlClears': WHATEVER THE INPUT: true; the input reads as it did. -/
def ctrlClearsSpec : ChangeSpec := { name := "ctrlClears", fn := fun _ => fun
  | [d] => { results := [.lit (.bool true)], args := [d] }
  | _ => none }
def ctrlClearsRow : OpenClaim := { program := "ytakmaedimelaaaa", sum := "b056a4a62f6531420ad98be19ac8f38d189ff956472c0d6d8ebcae5ac5225988", func := "larder/larderlaw05.CtrlClears", spec := "ctrlClears", apart := false }
def CtrlClearsSaid : Prop := ctrlClearsRow.holds Try.pinned (OpenSpec.ofChange ctrlClearsSpec)

/-- ITS FALSE NEIGHBOUR: 'it returns false'. Refute it at one input. -/
def ctrlClearsWrong : ChangeSpec := { name := "ctrlClears", fn := fun _ => fun
  | [d] => { results := [.lit (.bool false)], args := [d] }
  | _ => none }
def CtrlClearsWrongFalsely : Prop := ctrlClearsRow.holds Try.pinned (OpenSpec.ofChange ctrlClearsWrong)

/-- 'larderlaw05.CtrlMatches': WHATEVER THE INPUT: true; the input reads as it did. -/
def ctrlMatchesSpec : ChangeSpec := { name := "ctrlMatches", fn := fun _ => fun
  | [d1, d2] => { results := [.lit (.bool true)], args := [d1, d2] }
  | _ => none }
def ctrlMatchesRow : OpenClaim := { program := "ytakmaedimelaaaa", sum := "b056a4a62f6531420ad98be19ac8f38d189ff956472c0d6d8ebcae5ac5225988", func := "larder/larderlaw05.CtrlMatches", spec := "ctrlMatches", apart := false }
def CtrlMatchesSaid : Prop := ctrlMatchesRow.holds Try.pinned (OpenSpec.ofChange ctrlMatchesSpec)

/-- ITS FALSE NEIGHBOUR: 'it returns false'. Refute it at one input. -/
def ctrlMatchesWrong : ChangeSpec := { name := "ctrlMatches", fn := fun _ => fun
  | [d1, d2] => { results := [.lit (.bool false)], args := [d1, d2] }
  | _ => none }
def CtrlMatchesWrongFalsely : Prop := ctrlMatchesRow.holds Try.pinned (OpenSpec.ofChange ctrlMatchesWrong)

/-- 'larderlaw05.CtrlParts': WHATEVER THE INPUT: true; the input reads as it did. -/
def ctrlPartsSpec : ChangeSpec := { name := "ctrlParts", fn := fun _ => fun
  | [d] => { results := [.lit (.bool true)], args := [d] }
  | _ => none }
def ctrlPartsRow : OpenClaim := { program := "ytakmaedimelaaaa", sum := "b056a4a62f6531420ad98be19ac8f38d189ff956472c0d6d8ebcae5ac5225988", func := "larder/larderlaw05.CtrlParts", spec := "ctrlParts", apart := false }
def CtrlPartsSaid : Prop := ctrlPartsRow.holds Try.pinned (OpenSpec.ofChange ctrlPartsSpec)

/-- ITS FALSE NEIGHBOUR: 'it returns false'. Refute it at one input. -/
def ctrlPartsWrong : ChangeSpec := { name := "ctrlParts", fn := fun _ => fun
  | [d] => { results := [.lit (.bool false)], args := [d] }
  | _ => none }
def CtrlPartsWrongFalsely : Prop := ctrlPartsRow.holds Try.pinned (OpenSpec.ofChange ctrlPartsWrong)

/-- 'larderlaw05.CtrlBorrows': WHATEVER THE INPUT: true; the input reads as it did. -/
def ctrlBorrowsSpec : ChangeSpec := { name := "ctrlBorrows", fn := fun _ => fun
  | [d1, d2, d3] => { results := [.lit (.bool true)], args := [d1, d2, d3] }
  | _ => none }
def ctrlBorrowsRow : OpenClaim := { program := "ytakmaedimelaaaa", sum := "b056a4a62f6531420ad98be19ac8f38d189ff956472c0d6d8ebcae5ac5225988", func := "larder/larderlaw05.CtrlBorrows", spec := "ctrlBorrows", apart := false }
def CtrlBorrowsSaid : Prop := ctrlBorrowsRow.holds Try.pinned (OpenSpec.ofChange ctrlBorrowsSpec)

/-- ITS FALSE NEIGHBOUR: 'it returns false'. Refute it at one input. -/
def ctrlBorrowsWrong : ChangeSpec := { name := "ctrlBorrows", fn := fun _ => fun
  | [d1, d2, d3] => { results := [.lit (.bool false)], args := [d1, d2, d3] }
  | _ => none }
def CtrlBorrowsWrongFalsely : Prop := ctrlBorrowsRow.holds Try.pinned (OpenSpec.ofChange ctrlBorrowsWrong)

/- THE SECOND FORM. 'bulk': how many values and letters a reading holds, each counted each time it is reached (what is shared counts as often as it is met; a slice's spare places count too). A statement '..UptoSaid' is the law's where the arguments, and the package variables that the reading takes, are together of bulk at most 1048576: NARROWER than '..Said'. Prove '..Said' where nothing that the law and all that it calls make is longer than what came in: it says more and counts as full. Else prove '..UptoSaid'. A law counts once. -/
mutual
def uptoBulk {H : Type} : DataW H → Nat
  | .lit (.string bytes) => bytes.length + 1
  | .lit _ => 1
  | .nil => 1
  | .ptr d => uptoBulk d + 1
  | .slice elems spare => uptoBulkAll elems + uptoBulkAll spare + 1
  | .agg parts => uptoBulkAll parts + 1
  | .iface _ d => uptoBulk d + 1
  | .map entries => uptoBulkEntries entries + 1
  | .held _ => 1
def uptoBulkAll {H : Type} : List (DataW H) → Nat
  | [] => 0
  | d :: r => uptoBulk d + uptoBulkAll r
def uptoBulkEntries {H : Type} : List (Lit × DataW H) → Nat
  | [] => 0
  | x :: r => uptoBulkEntry x + uptoBulkEntries r
def uptoBulkEntry {H : Type} : Lit × DataW H → Nat
  | (.string bytes, d) => bytes.length + uptoBulk d + 1
  | (_, d) => uptoBulk d + 1
 end
def uptoSmall : (H : Type) → List (DataW H) → Bool := fun _ ds => decide (uptoBulkAll ds ≤ 1048576)
def OpenSpec.upto (s : _root_.Go.ChangeSpec) : _root_.Go.OpenSpec := { _root_.Go.OpenSpec.ofChange s with cond := some uptoSmall }

/-- 'larderlaw05.CtrlSets', WHERE WHAT IT READS IS OF BULK AT MOST 1048576: true; the input reads as it did. -/
def ctrlSetsUptoRow : OpenClaim := { program := "ytakmaedimelaaaa", sum := "b056a4a62f6531420ad98be19ac8f38d189ff956472c0d6d8ebcae5ac5225988", func := "larder/larderlaw05.CtrlSets", spec := "ctrlSets", apart := false, narrowed := true }
def CtrlSetsUptoSaid : Prop := ctrlSetsUptoRow.holds Try.pinned (OpenSpec.upto ctrlSetsSpec)

/-- 'larderlaw05.CtrlClears', WHERE WHAT IT READS IS OF BULK AT MOST 1048576: true; the input reads as it did. -/
def ctrlClearsUptoRow : OpenClaim := { program := "ytakmaedimelaaaa", sum := "b056a4a62f6531420ad98be19ac8f38d189ff956472c0d6d8ebcae5ac5225988", func := "larder/larderlaw05.CtrlClears", spec := "ctrlClears", apart := false, narrowed := true }
def CtrlClearsUptoSaid : Prop := ctrlClearsUptoRow.holds Try.pinned (OpenSpec.upto ctrlClearsSpec)

/-- 'larderlaw05.CtrlMatches', WHERE WHAT IT READS IS OF BULK AT MOST 1048576: true; the input reads as it did. -/
def ctrlMatchesUptoRow : OpenClaim := { program := "ytakmaedimelaaaa", sum := "b056a4a62f6531420ad98be19ac8f38d189ff956472c0d6d8ebcae5ac5225988", func := "larder/larderlaw05.CtrlMatches", spec := "ctrlMatches", apart := false, narrowed := true }
def CtrlMatchesUptoSaid : Prop := ctrlMatchesUptoRow.holds Try.pinned (OpenSpec.upto ctrlMatchesSpec)

/-- 'larderlaw05.CtrlParts', WHERE WHAT IT READS IS OF BULK AT MOST 1048576: true; the input reads as it did. -/
def ctrlPartsUptoRow : OpenClaim := { program := "ytakmaedimelaaaa", sum := "b056a4a62f6531420ad98be19ac8f38d189ff956472c0d6d8ebcae5ac5225988", func := "larder/larderlaw05.CtrlParts", spec := "ctrlParts", apart := false, narrowed := true }
def CtrlPartsUptoSaid : Prop := ctrlPartsUptoRow.holds Try.pinned (OpenSpec.upto ctrlPartsSpec)

/-- 'larderlaw05.CtrlBorrows', WHERE WHAT IT READS IS OF BULK AT MOST 1048576: true; the input reads as it did. -/
def ctrlBorrowsUptoRow : OpenClaim := { program := "ytakmaedimelaaaa", sum := "b056a4a62f6531420ad98be19ac8f38d189ff956472c0d6d8ebcae5ac5225988", func := "larder/larderlaw05.CtrlBorrows", spec := "ctrlBorrows", apart := false, narrowed := true }
def CtrlBorrowsUptoSaid : Prop := ctrlBorrowsUptoRow.holds Try.pinned (OpenSpec.upto ctrlBorrowsSpec)

end Rows
end Go.Proofs.Ytakmaedimelaaaa
