/-
  NARROWER THAN 'FOR EVERY INPUT', by the rows' own cells (each row's printed sentence says how): CtrlRanges: laid · CtrlLives: laid · CtrlExact: laid.
  DERIVED. THE GIVEN ROWS OF THIS SEAT. 3 by the template 'for every input the law returns true; each argument reads behind the call as it read before'; 0 by the template 'total and deterministic' (their statements: YtakmaedimelaaaaDoorTotals.lean).
  GIVEN WITH THE SEED: the statements are not yours to turn. If you find one false, say at which input.
  Laid BY PROGRAM, IN A SANDBOX (cutbox-rows.mjs): the forced cells as the released guide's own fill.sh prints them over the translation 162261f0ef920f01… (all of the seat's roots in one cut). By AI agents, Wed Nov 11 2026. No macro, syntax, notation, axiom, sorry.
-/
import Derived.Test.YtakmaedimelaaaaDoorChecked
import GoSem.Claim
import GoSem.ClaimJoined
import GoSem.ClaimMapViews
import Derived.JoinedTies
import Derived.KernelRfl
namespace Go.Proofs.YtakmaedimelaaaaDoor
/- THE CELL 'sum', in the pinned program and in every row, IS THE sha256 OF THE DUMP (.gsa) THAT YtakmaedimelaaaaDoorProg.lean LOADS. Nothing in Lean hashes anything: it is a label: what it is worth is what the hold of that sum in a sandbox is worth. -/
noncomputable def Tryd.pinned : Pinned := { name := "ytakmaedimelaaaadoor", sum := "162261f0ef920f0183a4da4b4ed53a253162a8d525be45550cc6ec372a1dd607", checked := Tryd.checked }
namespace Rows
def none {H : Type} : Left H := { results := [], args := [] }

/- WHAT THE LISTED PACKAGE-LEVEL VARIABLES READ AS WHEN THE CALL BEGINS. Each datum BY PROGRAM (the guide's laid-datum.mjs) off the statement by which the dump's own 'gosem.cut.vars' lays the variable. In a bare row this is a premise. The card (YtakmaedimelaaaaDoorCards.lean) ties it to the program's text. -/
def laid_math_bits_deBruijn64tab {H : Type} : DataW H := .agg [.lit (.int .u8 0), .lit (.int .u8 1), .lit (.int .u8 56), .lit (.int .u8 2), .lit (.int .u8 57), .lit (.int .u8 49), .lit (.int .u8 28), .lit (.int .u8 3), .lit (.int .u8 61), .lit (.int .u8 58), .lit (.int .u8 42), .lit (.int .u8 50), .lit (.int .u8 38), .lit (.int .u8 29), .lit (.int .u8 17), .lit (.int .u8 4), .lit (.int .u8 62), .lit (.int .u8 47), .lit (.int .u8 59), .lit (.int .u8 36), .lit (.int .u8 45), .lit (.int .u8 43), .lit (.int .u8 51), .lit (.int .u8 22), .lit (.int .u8 53), .lit (.int .u8 39), .lit (.int .u8 33), .lit (.int .u8 30), .lit (.int .u8 24), .lit (.int .u8 18), .lit (.int .u8 12), .lit (.int .u8 5), .lit (.int .u8 63), .lit (.int .u8 55), .lit (.int .u8 48), .lit (.int .u8 27), .lit (.int .u8 60), .lit (.int .u8 41), .lit (.int .u8 37), .lit (.int .u8 16), .lit (.int .u8 46), .lit (.int .u8 35), .lit (.int .u8 44), .lit (.int .u8 21), .lit (.int .u8 52), .lit (.int .u8 32), .lit (.int .u8 23), .lit (.int .u8 11), .lit (.int .u8 54), .lit (.int .u8 26), .lit (.int .u8 40), .lit (.int .u8 15), .lit (.int .u8 34), .lit (.int .u8 20), .lit (.int .u8 31), .lit (.int .u8 10), .lit (.int .u8 25), .lit (.int .u8 14), .lit (.int .u8 19), .lit (.int .u8 9), .lit (.int .u8 13), .lit (.int .u8 8), .lit (.int .u8 7), .lit (.int .u8 6)]

/-- 'larderlaw05.CtrlRanges': WHATEVER THE INPUT: true; the input reads as it did. -/
def ctrlRangesSpec : ChangeSpec := { name := "ctrlRanges", fn := fun _ => fun
  | [d1, d2] => { results := [.lit (.bool true)], args := [d1, d2] }
  | _ => none }
def ctrlRangesRow : OpenClaim := { program := "ytakmaedimelaaaadoor", sum := "162261f0ef920f0183a4da4b4ed53a253162a8d525be45550cc6ec372a1dd607", func := "larder/larderlaw05.CtrlRanges", spec := "ctrlRanges", unfollowed := true, recurses := true, named := ["math/bits.deBruijn64tab"], apart := false, laid := [("math/bits.deBruijn64tab", laid_math_bits_deBruijn64tab)] }
def CtrlRangesSaid : Prop := ctrlRangesRow.holds Tryd.pinned (OpenSpec.ofChange ctrlRangesSpec)

/-- ITS FALSE NEIGHBOUR: 'it returns false'. Refute it at one input. -/
def ctrlRangesWrong : ChangeSpec := { name := "ctrlRanges", fn := fun _ => fun
  | [d1, d2] => { results := [.lit (.bool false)], args := [d1, d2] }
  | _ => none }
def CtrlRangesWrongFalsely : Prop := ctrlRangesRow.holds Tryd.pinned (OpenSpec.ofChange ctrlRangesWrong)

/-- 'larderlaw05.CtrlLives': WHATEVER THE INPUT: true; the input reads as it did. -/
def ctrlLivesSpec : ChangeSpec := { name := "ctrlLives", fn := fun _ => fun
  | [d] => { results := [.lit (.bool true)], args := [d] }
  | _ => none }
def ctrlLivesRow : OpenClaim := { program := "ytakmaedimelaaaadoor", sum := "162261f0ef920f0183a4da4b4ed53a253162a8d525be45550cc6ec372a1dd607", func := "larder/larderlaw05.CtrlLives", spec := "ctrlLives", named := ["math/bits.deBruijn64tab"], apart := false, laid := [("math/bits.deBruijn64tab", laid_math_bits_deBruijn64tab)] }
def CtrlLivesSaid : Prop := ctrlLivesRow.holds Tryd.pinned (OpenSpec.ofChange ctrlLivesSpec)

/-- ITS FALSE NEIGHBOUR: 'it returns false'. Refute it at one input. -/
def ctrlLivesWrong : ChangeSpec := { name := "ctrlLives", fn := fun _ => fun
  | [d] => { results := [.lit (.bool false)], args := [d] }
  | _ => none }
def CtrlLivesWrongFalsely : Prop := ctrlLivesRow.holds Tryd.pinned (OpenSpec.ofChange ctrlLivesWrong)

/-- 'larderlaw05.CtrlExact': WHATEVER THE INPUT: true; the input reads as it did. -/
def ctrlExactSpec : ChangeSpec := { name := "ctrlExact", fn := fun _ => fun
  | [d] => { results := [.lit (.bool true)], args := [d] }
  | _ => none }
def ctrlExactRow : OpenClaim := { program := "ytakmaedimelaaaadoor", sum := "162261f0ef920f0183a4da4b4ed53a253162a8d525be45550cc6ec372a1dd607", func := "larder/larderlaw05.CtrlExact", spec := "ctrlExact", named := ["math/bits.deBruijn64tab"], apart := false, laid := [("math/bits.deBruijn64tab", laid_math_bits_deBruijn64tab)] }
def CtrlExactSaid : Prop := ctrlExactRow.holds Tryd.pinned (OpenSpec.ofChange ctrlExactSpec)

/-- ITS FALSE NEIGHBOUR: 'it returns false'. Refute it at one input. -/
def ctrlExactWrong : ChangeSpec := { name := "ctrlExact", fn := fun _ => fun
  | [d] => { results := [.lit (.bool false)], args := [d] }
  | _ => none }
def CtrlExactWrongFalsely : Prop := ctrlExactRow.holds Tryd.pinned (OpenSpec.ofChange ctrlExactWrong)

/- THE SECOND FORM. 'bulk': how many values and letters a reading holds, each counted each time it is reached (what is shared counts as often as it is met; a slice's spare places count too). A statement '..UptoSaid' is the law's where the arguments, and the package variables that the reading takes, are together of bulk at most 1048576: NARROWER than '..Said'. Prove '..Said' where nothing that the law and all that it calls make is longer than what came in: it says more and counts as full. Else prove '..UptoSaid'. A law counts once. -/
mutual
def uptoBulk {H : Type} : DataW H → Nat
  | .lit (.string bytes) => bytes.length + 1
  | .lit _ => 1
  | .nil => 1
  | .ptr d => uptoBulk d + 1
  | .slice elems spare => uptoBulkAll elems + uptoBulkAll spare + 1
  | .agg parts => uptoBulkAll parts + 1
  | .iface _ d => uptoBulk d + 1
  | .map entries => uptoBulkEntries entries + 1
  | .held _ => 1
def uptoBulkAll {H : Type} : List (DataW H) → Nat
  | [] => 0
  | d :: r => uptoBulk d + uptoBulkAll r
def uptoBulkEntries {H : Type} : List (Lit × DataW H) → Nat
  | [] => 0
  | x :: r => uptoBulkEntry x + uptoBulkEntries r
def uptoBulkEntry {H : Type} : Lit × DataW H → Nat
  | (.string bytes, d) => bytes.length + uptoBulk d + 1
  | (_, d) => uptoBulk d + 1
 end
def uptoSmall : (H : Type) → List (DataW H) → Bool := fun _ ds => decide (uptoBulkAll ds ≤ 1048576)
def OpenSpec.upto (s : _root_.Go.ChangeSpec) : _root_.Go.OpenSpec := { _root_.Go.OpenSpec.ofChange s with cond := some uptoSmall }

/-- 'larderlaw05.CtrlRanges', WHERE WHAT IT READS IS OF BULK AT MOST 1048576: true; the input reads as it did. -/
def ctrlRangesUptoRow : OpenClaim := { program := "ytakmaedimelaaaadoor", sum := "162261f0ef920f0183a4da4b4ed53a253162a8d525be45550cc6ec372a1dd607", func := "larder/larderlaw05.CtrlRanges", spec := "ctrlRanges", unfollowed := true, recurses := true, named := ["math/bits.deBruijn64tab"], apart := false, laid := [("math/bits.deBruijn64tab", laid_math_bits_deBruijn64tab)], narrowed := true }
def CtrlRangesUptoSaid : Prop := ctrlRangesUptoRow.holds Tryd.pinned (OpenSpec.upto ctrlRangesSpec)

/-- 'larderlaw05.CtrlLives', WHERE WHAT IT READS IS OF BULK AT MOST 1048576: true; the input reads as it did. -/
def ctrlLivesUptoRow : OpenClaim := { program := "ytakmaedimelaaaadoor", sum := "162261f0ef920f0183a4da4b4ed53a253162a8d525be45550cc6ec372a1dd607", func := "larder/larderlaw05.CtrlLives", spec := "ctrlLives", named := ["math/bits.deBruijn64tab"], apart := false, laid := [("math/bits.deBruijn64tab", laid_math_bits_deBruijn64tab)], narrowed := true }
def CtrlLivesUptoSaid : Prop := ctrlLivesUptoRow.holds Tryd.pinned (OpenSpec.upto ctrlLivesSpec)

/-- 'larderlaw05.CtrlExact', WHERE WHAT IT READS IS OF BULK AT MOST 1048576: true; the input reads as it did. -/
def ctrlExactUptoRow : OpenClaim := { program := "ytakmaedimelaaaadoor", sum := "162261f0ef920f0183a4da4b4ed53a253162a8d525be45550cc6ec372a1dd607", func := "larder/larderlaw05.CtrlExact", spec := "ctrlExact", named := ["math/bits.deBruijn64tab"], apart := false, laid := [("math/bits.deBruijn64tab", laid_math_bits_deBruijn64tab)], narrowed := true }
def CtrlExactUptoSaid : Prop := ctrlExactUptoRow.holds Tryd.pinned (OpenSpec.upto ctrlExactSpec)

end Rows
end Go.Proofs.YtakmaedimelaaaaDoor
