/-
  No cell of these rows narrows 'for every input' (looked for: loops, veiled, ifaces, maps, wideKeys, modest, calm, conditions, laid).
  DERIVED. THE GIVEN ROWS OF THIS SEAT. 9 by the template 'for every input the law returns true; each argument reads behind the call as it read before'; 0 by the template 'total and deterministic' (their statements: YtlfppmdehkhjiaaTotals.lean).
  GIVEN WITH THE SEED: the statements are not yours to turn. If you find one false, say at which input.
  Laid BY PROGRAM, IN A SANDBOX (cutbox-rows.mjs): the forced cells as the released guide's own fill.sh prints them over the translation a79dda265e9eba51… (all of the seat's roots in one cut). By AI agents, Wed Nov 11 2026. No macro, syntax, notation, axiom, sorry.
-/
import Derived.Test.YtlfppmdehkhjiaaChecked
import GoSem.Claim
import GoSem.ClaimJoined
import GoSem.ClaimMapViews
import Derived.JoinedTies
import Derived.KernelRfl
namespace Go.Proofs.Ytlfppmdehkhjiaa
/- THE CELL 'sum', in the pinned program and in every row, IS THE sha256 OF THE DUMP (.gsa) THAT YtlfppmdehkhjiaaProg.lean LOADS. Nothing in Lean hashes anything: it is a label: what it is worth is what the hold of that sum in a sandbox is worth. -/
noncomputable def Try.pinned : Pinned := { name := "ytlfppmdehkhjiaa", sum := "a79dda265e9eba51d2b6863b7d8ba632f09a12dc49ebf90d46f0add1da36dc0f", checked := Try.checked }
namespace Rows
def none {H : Type} : Left H := { results := [], args := [] }

/-- 'larderlaw03.LayoutParses': WHATEVER THE INPUT: true; the input reads as it did. -/
def layoutParsesSpec : ChangeSpec := { name := "layoutParses", fn := fun _ => fun
  | [d] => { results := [.lit (.bool true)], args := [d] }
  | _ => none }
def layoutParsesRow : OpenClaim := { program := "ytlfppmdehkhjiaa", sum := "a79dda265e9eba51d2b6863b7d8ba632f09a12dc49ebf90d46f0add1da36dc0f", func := "larder/larderlaw03.LayoutParses", spec := "layoutParses", apart := false }
def LayoutParsesSaid : Prop := layoutParsesRow.holds Try.pinned (OpenSpec.ofChange layoutParsesSpec)

/-- ITS FALSE NEIGHBOUR: 'it returns false'. Refute it at one input. -/
def layoutParsesWrong : ChangeSpec := { name := "layoutParses", fn := fun _ => fun
  | [d] => { results := [.lit (.bool false)], args := [d] }
  | _ => none }
def LayoutParsesWrongFalsely : Prop := layoutParsesRow.holds Try.pinned (OpenSpec.ofChange layoutParsesWrong)

/-- 'larderlaw03.LayoutTight': WHATEVER THE INPUT: true; the input reads as it did. -/
def layoutTightSpec : ChangeSpec := { name := "layoutTight", fn := fun _ => fun
  | [d] => { results := [.lit (.bool true)], args := [d] }
  | _ => none }
def layoutTightRow : OpenClaim := { program := "ytlfppmdehkhjiaa", sum := "a79dda265e9eba51d2b6863b7d8ba632f09a12dc49ebf90d46f0add1da36dc0f", func := "larder/larderlaw03.LayoutTight", spec := "layoutTight", apart := false }
def LayoutTightSaid : Prop := layoutTightRow.holds Try.pinned (OpenSpec.ofChange layoutTightSpec)

/-- ITS FALSE NEIGHBOUR: 'it returns false'. Refute it at one input. -/
def layoutTightWrong : ChangeSpec := { name := "layoutTight", fn := fun _ => fun
  | [d] => { results := [.lit (.bool false)], args := [d] }
  | _ => none }
def LayoutTightWrongFalsely : Prop := layoutTightRow.holds Try.pinned (OpenSpec.ofChange layoutTightWrong)

/-- 'larderlaw03.LayoutSays': WHATEVER THE INPUT: true; the input reads as it did. -/
def layoutSaysSpec : ChangeSpec := { name := "layoutSays", fn := fun _ => fun
  | [d] => { results := [.lit (.bool true)], args := [d] }
  | _ => none }
def layoutSaysRow : OpenClaim := { program := "ytlfppmdehkhjiaa", sum := "a79dda265e9eba51d2b6863b7d8ba632f09a12dc49ebf90d46f0add1da36dc0f", func := "larder/larderlaw03.LayoutSays", spec := "layoutSays", apart := false }
def LayoutSaysSaid : Prop := layoutSaysRow.holds Try.pinned (OpenSpec.ofChange layoutSaysSpec)

/-- ITS FALSE NEIGHBOUR: 'it returns false'. Refute it at one input. -/
def layoutSaysWrong : ChangeSpec := { name := "layoutSays", fn := fun _ => fun
  | [d] => { results := [.lit (.bool false)], args := [d] }
  | _ => none }
def LayoutSaysWrongFalsely : Prop := layoutSaysRow.holds Try.pinned (OpenSpec.ofChange layoutSaysWrong)

/-- 'larderlaw03.LayoutApart': WHATEVER THE INPUT: true; the input reads as it did. -/
def layoutApartSpec : ChangeSpec := { name := "layoutApart", fn := fun _ => fun
  | [d] => { results := [.lit (.bool true)], args := [d] }
  | _ => none }
def layoutApartRow : OpenClaim := { program := "ytlfppmdehkhjiaa", sum := "a79dda265e9eba51d2b6863b7d8ba632f09a12dc49ebf90d46f0add1da36dc0f", func := "larder/larderlaw03.LayoutApart", spec := "layoutApart", apart := false }
def LayoutApartSaid : Prop := layoutApartRow.holds Try.pinned (OpenSpec.ofChange layoutApartSpec)

/-- ITS FALSE NEIGHBOUR: 'it returns false'. Refute it at one input. -/
def layoutApartWrong : ChangeSpec := { name := "layoutApart", fn := fun _ => fun
  | [d] => { results := [.lit (.bool false)], args := [d] }
  | _ => none }
def LayoutApartWrongFalsely : Prop := layoutApartRow.holds Try.pinned (OpenSpec.ofChange layoutApartWrong)

/-- 'larderlaw03.LayoutPlaces': WHATEVER THE INPUT: true; the input reads as it did. -/
def layoutPlacesSpec : ChangeSpec := { name := "layoutPlaces", fn := fun _ => fun
  | [d] => { results := [.lit (.bool true)], args := [d] }
  | _ => none }
def layoutPlacesRow : OpenClaim := { program := "ytlfppmdehkhjiaa", sum := "a79dda265e9eba51d2b6863b7d8ba632f09a12dc49ebf90d46f0add1da36dc0f", func := "larder/larderlaw03.LayoutPlaces", spec := "layoutPlaces", apart := false }
def LayoutPlacesSaid : Prop := layoutPlacesRow.holds Try.pinned (OpenSpec.ofChange layoutPlacesSpec)

/-- ITS FALSE NEIGHBOUR: 'it returns false'. Refute it at one input. -/
def layoutPlacesWrong : ChangeSpec := { name := "layoutPlaces", fn := fun _ => fun
  | [d] => { results := [.lit (.bool false)], args := [d] }
  | _ => none }
def LayoutPlacesWrongFalsely : Prop := layoutPlacesRow.holds Try.pinned (OpenSpec.ofChange layoutPlacesWrong)

/-- 'larderlaw03.LayoutEven': WHATEVER THE INPUT: true; the input reads as it did. -/
def layoutEvenSpec : ChangeSpec := { name := "layoutEven", fn := fun _ => fun
  | [d] => { results := [.lit (.bool true)], args := [d] }
  | _ => none }
def layoutEvenRow : OpenClaim := { program := "ytlfppmdehkhjiaa", sum := "a79dda265e9eba51d2b6863b7d8ba632f09a12dc49ebf90d46f0add1da36dc0f", func := "larder/larderlaw03.LayoutEven", spec := "layoutEven", apart := false }
def LayoutEvenSaid : Prop := layoutEvenRow.holds Try.pinned (OpenSpec.ofChange layoutEvenSpec)

/-- ITS FALSE NEIGHBOUR: 'it returns false'. Refute it at one input. -/
def layoutEvenWrong : ChangeSpec := { name := "layoutEven", fn := fun _ => fun
  | [d] => { results := [.lit (.bool false)], args := [d] }
  | _ => none }
def LayoutEvenWrongFalsely : Prop := layoutEvenRow.holds Try.pinned (OpenSpec.ofChange layoutEvenWrong)

/-- 'larderlaw03.LayoutSole': WHATEVER THE INPUT: true; the input reads as it did. -/
def layoutSoleSpec : ChangeSpec := { name := "layoutSole", fn := fun _ => fun
  | [d] => { results := [.lit (.bool true)], args := [d] }
  | _ => none }
def layoutSoleRow : OpenClaim := { program := "ytlfppmdehkhjiaa", sum := "a79dda265e9eba51d2b6863b7d8ba632f09a12dc49ebf90d46f0add1da36dc0f", func := "larder/larderlaw03.LayoutSole", spec := "layoutSole", apart := false }
def LayoutSoleSaid : Prop := layoutSoleRow.holds Try.pinned (OpenSpec.ofChange layoutSoleSpec)

/-- ITS FALSE NEIGHBOUR: 'it returns false'. Refute it at one input. -/
def layoutSoleWrong : ChangeSpec := { name := "layoutSole", fn := fun _ => fun
  | [d] => { results := [.lit (.bool false)], args := [d] }
  | _ => none }
def LayoutSoleWrongFalsely : Prop := layoutSoleRow.holds Try.pinned (OpenSpec.ofChange layoutSoleWrong)

/-- 'lardertop.Names': WHATEVER THE INPUT: true; the input reads as it did. -/
def namesSpec : ChangeSpec := { name := "names", fn := fun _ => fun
  | [] => { results := [.lit (.bool true)], args := [] }
  | _ => none }
def namesRow : OpenClaim := { program := "ytlfppmdehkhjiaa", sum := "a79dda265e9eba51d2b6863b7d8ba632f09a12dc49ebf90d46f0add1da36dc0f", func := "larder/lardertop.Names", spec := "names", apart := false }
def NamesSaid : Prop := namesRow.holds Try.pinned (OpenSpec.ofChange namesSpec)

/-- ITS FALSE NEIGHBOUR: 'it returns false'. Refute it at one input. -/
def namesWrong : ChangeSpec := { name := "names", fn := fun _ => fun
  | [] => { results := [.lit (.bool false)], args := [] }
  | _ => none }
def NamesWrongFalsely : Prop := namesRow.holds Try.pinned (OpenSpec.ofChange namesWrong)

/-- 'larderlaw02.ArenaClasses': WHATEVER THE INPUT: true; the input reads as it did. -/
def arenaClassesSpec : ChangeSpec := { name := "arenaClasses", fn := fun _ => fun
  | [d] => { results := [.lit (.bool true)], args := [d] }
  | _ => none }
def arenaClassesRow : OpenClaim := { program := "ytlfppmdehkhjiaa", sum := "a79dda265e9eba51d2b6863b7d8ba632f09a12dc49ebf90d46f0add1da36dc0f", func := "larder/larderlaw02.ArenaClasses", spec := "arenaClasses", apart := false }
def ArenaClassesSaid : Prop := arenaClassesRow.holds Try.pinned (OpenSpec.ofChange arenaClassesSpec)

/-- ITS FALSE NEIGHBOUR: 'it returns false'. Refute it at one input. -/
def arenaClassesWrong : ChangeSpec := { name := "arenaClasses", fn := fun _ => fun
  | [d] => { results := [.lit (.bool false)], args := [d] }
  | _ => none }
def ArenaClassesWrongFalsely : Prop := arenaClassesRow.holds Try.pinned (OpenSpec.ofChange arenaClassesWrong)

/- THE SECOND FORM. 'bulk': how many values and letters a reading holds, each counted each time it is reached (what is shared counts as often as it is met; a slice's spare places count too). A statement '..UptoSaid' is the law's where the arguments, and the package variables that the reading takes, are together of bulk at most 1048576: NARROWER than '..Said'. Prove '..Said' where nothing that the law and all that it calls make is longer than what came in: it says more and counts as full. Else prove '..UptoSaid'. A law counts once. -/
mutual
def uptoBulk {H : Type} : DataW H → Nat
  | .lit (.string bytes) => bytes.length + 1
  | .lit _ => 1
  | .nil => 1
  | .ptr d => uptoBulk d + 1
  | .slice elems spare => uptoBulkAll elems + uptoBulkAll spare + 1
  | .agg parts => uptoBulkAll parts + 1
  | .iface _ d => uptoBulk d + 1
  | .map entries => uptoBulkEntries entries + 1
  | .held _ => 1
def uptoBulkAll {H : Type} : List (DataW H) → Nat
  | [] => 0
  | d :: r => uptoBulk d + uptoBulkAll r
def uptoBulkEntries {H : Type} : List (Lit × DataW H) → Nat
  | [] => 0
  | x :: r => uptoBulkEntry x + uptoBulkEntries r
def uptoBulkEntry {H : Type} : Lit × DataW H → Nat
  | (.string bytes, d) => bytes.length + uptoBulk d + 1
  | (_, d) => uptoBulk d + 1
 end
def uptoSmall : (H : Type) → List (DataW H) → Bool := fun _ ds => decide (uptoBulkAll ds ≤ 1048576)
def OpenSpec.upto (s : _root_.Go.ChangeSpec) : _root_.Go.OpenSpec := { _root_.Go.OpenSpec.ofChange s with cond := some uptoSmall }

/-- 'larderlaw03.LayoutParses', WHERE WHAT IT READS IS OF BULK AT MOST 1048576: true; the input reads as it did. -/
def layoutParsesUptoRow : OpenClaim := { program := "ytlfppmdehkhjiaa", sum := "a79dda265e9eba51d2b6863b7d8ba632f09a12dc49ebf90d46f0add1da36dc0f", func := "larder/larderlaw03.LayoutParses", spec := "layoutParses", apart := false, narrowed := true }
def LayoutParsesUptoSaid : Prop := layoutParsesUptoRow.holds Try.pinned (OpenSpec.upto layoutParsesSpec)

/-- 'larderlaw03.LayoutTight', WHERE WHAT IT READS IS OF BULK AT MOST 1048576: true; the input reads as it did. -/
def layoutTightUptoRow : OpenClaim := { program := "ytlfppmdehkhjiaa", sum := "a79dda265e9eba51d2b6863b7d8ba632f09a12dc49ebf90d46f0add1da36dc0f", func := "larder/larderlaw03.LayoutTight", spec := "layoutTight", apart := false, narrowed := true }
def LayoutTightUptoSaid : Prop := layoutTightUptoRow.holds Try.pinned (OpenSpec.upto layoutTightSpec)

/-- 'larderlaw03.LayoutSays', WHERE WHAT IT READS IS OF BULK AT MOST 1048576: true; the input reads as it did. -/
def layoutSaysUptoRow : OpenClaim := { program := "ytlfppmdehkhjiaa", sum := "a79dda265e9eba51d2b6863b7d8ba632f09a12dc49ebf90d46f0add1da36dc0f", func := "larder/larderlaw03.LayoutSays", spec := "layoutSays", apart := false, narrowed := true }
def LayoutSaysUptoSaid : Prop := layoutSaysUptoRow.holds Try.pinned (OpenSpec.upto layoutSaysSpec)

/-- 'larderlaw03.LayoutApart', WHERE WHAT IT READS IS OF BULK AT MOST 1048576: true; the input reads as it did. -/
def layoutApartUptoRow : OpenClaim := { program := "ytlfppmdehkhjiaa", sum := "a79dda265e9eba51d2b6863b7d8ba632f09a12dc49ebf90d46f0add1da36dc0f", func := "larder/larderlaw03.LayoutApart", spec := "layoutApart", apart := false, narrowed := true }
def LayoutApartUptoSaid : Prop := layoutApartUptoRow.holds Try.pinned (OpenSpec.upto layoutApartSpec)

/-- 'larderlaw03.LayoutPlaces', WHERE WHAT IT READS IS OF BULK AT MOST 1048576: true; the input reads as it did. -/
def layoutPlacesUptoRow : OpenClaim := { program := "ytlfppmdehkhjiaa", sum := "a79dda265e9eba51d2b6863b7d8ba632f09a12dc49ebf90d46f0add1da36dc0f", func := "larder/larderlaw03.LayoutPlaces", spec := "layoutPlaces", apart := false, narrowed := true }
def LayoutPlacesUptoSaid : Prop := layoutPlacesUptoRow.holds Try.pinned (OpenSpec.upto layoutPlacesSpec)

/-- 'larderlaw03.LayoutEven', WHERE WHAT IT READS IS OF BULK AT MOST 1048576: true; the input reads as it did. -/
def layoutEvenUptoRow : OpenClaim := { program := "ytlfppmdehkhjiaa", sum := "a79dda265e9eba51d2b6863b7d8ba632f09a12dc49ebf90d46f0add1da36dc0f", func := "larder/larderlaw03.LayoutEven", spec := "layoutEven", apart := false, narrowed := true }
def LayoutEvenUptoSaid : Prop := layoutEvenUptoRow.holds Try.pinned (OpenSpec.upto layoutEvenSpec)

/-- 'larderlaw03.LayoutSole', WHERE WHAT IT READS IS OF BULK AT MOST 1048576: true; the input reads as it did. -/
def layoutSoleUptoRow : OpenClaim := { program := "ytlfppmdehkhjiaa", sum := "a79dda265e9eba51d2b6863b7d8ba632f09a12dc49ebf90d46f0add1da36dc0f", func := "larder/larderlaw03.LayoutSole", spec := "layoutSole", apart := false, narrowed := true }
def LayoutSoleUptoSaid : Prop := layoutSoleUptoRow.holds Try.pinned (OpenSpec.upto layoutSoleSpec)

/-- 'lardertop.Names', WHERE WHAT IT READS IS OF BULK AT MOST 1048576: true; the input reads as it did. -/
def namesUptoRow : OpenClaim := { program := "ytlfppmdehkhjiaa", sum := "a79dda265e9eba51d2b6863b7d8ba632f09a12dc49ebf90d46f0add1da36dc0f", func := "larder/lardertop.Names", spec := "names", apart := false, narrowed := true }
def NamesUptoSaid : Prop := namesUptoRow.holds Try.pinned (OpenSpec.upto namesSpec)

/-- 'larderlaw02.ArenaClasses', WHERE WHAT IT READS IS OF BULK AT MOST 1048576: true; the input reads as it did. -/
def arenaClassesUptoRow : OpenClaim := { program := "ytlfppmdehkhjiaa", sum := "a79dda265e9eba51d2b6863b7d8ba632f09a12dc49ebf90d46f0add1da36dc0f", func := "larder/larderlaw02.ArenaClasses", spec := "arenaClasses", apart := false, narrowed := true }
def ArenaClassesUptoSaid : Prop := arenaClassesUptoRow.holds Try.pinned (OpenSpec.upto arenaClassesSpec)

end Rows
end Go.Proofs.Ytlfppmdehkhjiaa
