/-
  No cell of these rows narrows 'for every input' (looked for: loops, veiled, ifaces, maps, wideKeys, modest, calm, conditions, laid).
  DERIVED. THE GIVEN ROWS OF THIS SEAT. 16 by the template 'for every input the law returns true; each argument reads behind the call as it read before'; 0 by the template 'total and deterministic' (their statements: YtpbalilnemjeeaaTotals.lean).
  GIVEN WITH THE SEED: the statements are not yours to turn. If you find one false, say at which input.
  Laid BY PROGRAM, IN A SANDBOX (cutbox-rows.mjs): the forced cells as the released guide's own fill.sh prints them over the translation f3e7785fc7f00c92… (all of the seat's roots in one cut). By AI agents, Wed Nov 11 2026. No macro, syntax, notation, axiom, sorry.
-/
import Derived.Test.YtpbalilnemjeeaaChecked
import GoSem.Claim
import GoSem.ClaimJoined
import GoSem.ClaimMapViews
import Derived.JoinedTies
import Derived.KernelRfl
namespace Go.Proofs.Ytpbalilnemjeeaa
/- THE CELL 'sum', in the pinned program and in every row, IS THE sha256 OF THE DUMP (.gsa) THAT YtpbalilnemjeeaaProg.lean LOADS. Nothing in Lean hashes anything: it is a label: what it is worth is what the hold of that sum in a sandbox is worth. -/
noncomputable def Try.pinned : Pinned := { name := "ytpbalilnemjeeaa", sum := "f3e7785fc7f00c92ae979b23f8dee6ad7adc43b4c5d173086e20bed566dd6d32", checked := Try.checked }
namespace Rows
def none {H : Type} : Left H := { results := [], args := [] }

/-- 'larderlaw02.ArenaMoves': WHATEVER THE INPUT: true; the input reads as it did. -/
def arenaMovesSpec : ChangeSpec := { name := "arenaMoves", fn := fun _ => fun
  | [d] => { results := [.lit (.bool true)], args := [d] }
  | _ => none }
def arenaMovesRow : OpenClaim := { program := "ytpbalilnemjeeaa", sum := "f3e7785fc7f00c92ae979b23f8dee6ad7adc43b4c5d173086e20bed566dd6d32", func := "larder/larderlaw02.ArenaMoves", spec := "arenaMoves", apart := false }
def ArenaMovesSaid : Prop := arenaMovesRow.holds Try.pinned (OpenSpec.ofChange arenaMovesSpec)

/-- ITS FALSE NEIGHBOUR: 'it returns false'. Refute it at one input. -/
def arenaMovesWrong : ChangeSpec := { name := "arenaMoves", fn := fun _ => fun
  | [d] => { results := [.lit (.bool false)], args := [d] }
  | _ => none }
def ArenaMovesWrongFalsely : Prop := arenaMovesRow.holds Try.pinned (OpenSpec.ofChange arenaMovesWrong)

/-- 'larderlaw02.ArenaNumbers': WHATEVER THE INPUT: true; the input reads as it did. -/
def arenaNumbersSpec : ChangeSpec := { name := "arenaNumbers", fn := fun _ => fun
  | [d] => { results := [.lit (.bool true)], args := [d] }
  | _ => none }
def arenaNumbersRow : OpenClaim := { program := "ytpbalilnemjeeaa", sum := "f3e7785fc7f00c92ae979b23f8dee6ad7adc43b4c5d173086e20bed566dd6d32", func := "larder/larderlaw02.ArenaNumbers", spec := "arenaNumbers", apart := false }
def ArenaNumbersSaid : Prop := arenaNumbersRow.holds Try.pinned (OpenSpec.ofChange arenaNumbersSpec)

/-- ITS FALSE NEIGHBOUR: 'it returns false'. Refute it at one input. -/
def arenaNumbersWrong : ChangeSpec := { name := "arenaNumbers", fn := fun _ => fun
  | [d] => { results := [.lit (.bool false)], args := [d] }
  | _ => none }
def ArenaNumbersWrongFalsely : Prop := arenaNumbersRow.holds Try.pinned (OpenSpec.ofChange arenaNumbersWrong)

/-- 'larderlaw02.ArenaLowest': WHATEVER THE INPUT: true; the input reads as it did. -/
def arenaLowestSpec : ChangeSpec := { name := "arenaLowest", fn := fun _ => fun
  | [d] => { results := [.lit (.bool true)], args := [d] }
  | _ => none }
def arenaLowestRow : OpenClaim := { program := "ytpbalilnemjeeaa", sum := "f3e7785fc7f00c92ae979b23f8dee6ad7adc43b4c5d173086e20bed566dd6d32", func := "larder/larderlaw02.ArenaLowest", spec := "arenaLowest", inPlace := ["slices.overlaps[int]"], apart := false }
def ArenaLowestSaid : Prop := arenaLowestRow.holds Try.pinned (OpenSpec.ofChange arenaLowestSpec)

/-- ITS FALSE NEIGHBOUR: 'it returns false'. Refute it at one input. -/
def arenaLowestWrong : ChangeSpec := { name := "arenaLowest", fn := fun _ => fun
  | [d] => { results := [.lit (.bool false)], args := [d] }
  | _ => none }
def ArenaLowestWrongFalsely : Prop := arenaLowestRow.holds Try.pinned (OpenSpec.ofChange arenaLowestWrong)

/-- 'larderlaw02.ArenaLists': WHATEVER THE INPUT: true; the input reads as it did. -/
def arenaListsSpec : ChangeSpec := { name := "arenaLists", fn := fun _ => fun
  | [d1, d2, d3] => { results := [.lit (.bool true)], args := [d1, d2, d3] }
  | _ => none }
def arenaListsRow : OpenClaim := { program := "ytpbalilnemjeeaa", sum := "f3e7785fc7f00c92ae979b23f8dee6ad7adc43b4c5d173086e20bed566dd6d32", func := "larder/larderlaw02.ArenaLists", spec := "arenaLists", inPlace := ["slices.overlaps[int]"], apart := false }
def ArenaListsSaid : Prop := arenaListsRow.holds Try.pinned (OpenSpec.ofChange arenaListsSpec)

/-- ITS FALSE NEIGHBOUR: 'it returns false'. Refute it at one input. -/
def arenaListsWrong : ChangeSpec := { name := "arenaLists", fn := fun _ => fun
  | [d1, d2, d3] => { results := [.lit (.bool false)], args := [d1, d2, d3] }
  | _ => none }
def ArenaListsWrongFalsely : Prop := arenaListsRow.holds Try.pinned (OpenSpec.ofChange arenaListsWrong)

/-- 'larderlaw02.ArenaInside': WHATEVER THE INPUT: true; the input reads as it did. -/
def arenaInsideSpec : ChangeSpec := { name := "arenaInside", fn := fun _ => fun
  | [d] => { results := [.lit (.bool true)], args := [d] }
  | _ => none }
def arenaInsideRow : OpenClaim := { program := "ytpbalilnemjeeaa", sum := "f3e7785fc7f00c92ae979b23f8dee6ad7adc43b4c5d173086e20bed566dd6d32", func := "larder/larderlaw02.ArenaInside", spec := "arenaInside", inPlace := ["slices.overlaps[int]"], apart := false }
def ArenaInsideSaid : Prop := arenaInsideRow.holds Try.pinned (OpenSpec.ofChange arenaInsideSpec)

/-- ITS FALSE NEIGHBOUR: 'it returns false'. Refute it at one input. -/
def arenaInsideWrong : ChangeSpec := { name := "arenaInside", fn := fun _ => fun
  | [d] => { results := [.lit (.bool false)], args := [d] }
  | _ => none }
def ArenaInsideWrongFalsely : Prop := arenaInsideRow.holds Try.pinned (OpenSpec.ofChange arenaInsideWrong)

/-- 'larderlaw02.ArenaTogether': WHATEVER THE INPUT: true; the input reads as it did. -/
def arenaTogetherSpec : ChangeSpec := { name := "arenaTogether", fn := fun _ => fun
  | [d] => { results := [.lit (.bool true)], args := [d] }
  | _ => none }
def arenaTogetherRow : OpenClaim := { program := "ytpbalilnemjeeaa", sum := "f3e7785fc7f00c92ae979b23f8dee6ad7adc43b4c5d173086e20bed566dd6d32", func := "larder/larderlaw02.ArenaTogether", spec := "arenaTogether", inPlace := ["slices.overlaps[int]", "maps.clone"], unfollowed := true, recurses := true, apart := false }
def ArenaTogetherSaid : Prop := arenaTogetherRow.holds Try.pinned (OpenSpec.ofChange arenaTogetherSpec)

/-- ITS FALSE NEIGHBOUR: 'it returns false'. Refute it at one input. -/
def arenaTogetherWrong : ChangeSpec := { name := "arenaTogether", fn := fun _ => fun
  | [d] => { results := [.lit (.bool false)], args := [d] }
  | _ => none }
def ArenaTogetherWrongFalsely : Prop := arenaTogetherRow.holds Try.pinned (OpenSpec.ofChange arenaTogetherWrong)

/-- 'larderlaw02.ArenaRange': WHATEVER THE INPUT: true; the input reads as it did. -/
def arenaRangeSpec : ChangeSpec := { name := "arenaRange", fn := fun _ => fun
  | [d1, d2] => { results := [.lit (.bool true)], args := [d1, d2] }
  | _ => none }
def arenaRangeRow : OpenClaim := { program := "ytpbalilnemjeeaa", sum := "f3e7785fc7f00c92ae979b23f8dee6ad7adc43b4c5d173086e20bed566dd6d32", func := "larder/larderlaw02.ArenaRange", spec := "arenaRange", inPlace := ["maps.clone", "slices.overlaps[int]"], unfollowed := true, recurses := true, apart := false }
def ArenaRangeSaid : Prop := arenaRangeRow.holds Try.pinned (OpenSpec.ofChange arenaRangeSpec)

/-- ITS FALSE NEIGHBOUR: 'it returns false'. Refute it at one input. -/
def arenaRangeWrong : ChangeSpec := { name := "arenaRange", fn := fun _ => fun
  | [d1, d2] => { results := [.lit (.bool false)], args := [d1, d2] }
  | _ => none }
def ArenaRangeWrongFalsely : Prop := arenaRangeRow.holds Try.pinned (OpenSpec.ofChange arenaRangeWrong)

/-- 'larderlaw02.ArenaKeeps': WHATEVER THE INPUT: true; the input reads as it did. -/
def arenaKeepsSpec : ChangeSpec := { name := "arenaKeeps", fn := fun _ => fun
  | [d1, d2] => { results := [.lit (.bool true)], args := [d1, d2] }
  | _ => none }
def arenaKeepsRow : OpenClaim := { program := "ytpbalilnemjeeaa", sum := "f3e7785fc7f00c92ae979b23f8dee6ad7adc43b4c5d173086e20bed566dd6d32", func := "larder/larderlaw02.ArenaKeeps", spec := "arenaKeeps", inPlace := ["slices.overlaps[int]", "maps.clone"], unfollowed := true, recurses := true, apart := false }
def ArenaKeepsSaid : Prop := arenaKeepsRow.holds Try.pinned (OpenSpec.ofChange arenaKeepsSpec)

/-- ITS FALSE NEIGHBOUR: 'it returns false'. Refute it at one input. -/
def arenaKeepsWrong : ChangeSpec := { name := "arenaKeeps", fn := fun _ => fun
  | [d1, d2] => { results := [.lit (.bool false)], args := [d1, d2] }
  | _ => none }
def ArenaKeepsWrongFalsely : Prop := arenaKeepsRow.holds Try.pinned (OpenSpec.ofChange arenaKeepsWrong)

/-- 'larderlaw02.ArenaAgain': WHATEVER THE INPUT: true; the input reads as it did. -/
def arenaAgainSpec : ChangeSpec := { name := "arenaAgain", fn := fun _ => fun
  | [d1, d2, d3] => { results := [.lit (.bool true)], args := [d1, d2, d3] }
  | _ => none }
def arenaAgainRow : OpenClaim := { program := "ytpbalilnemjeeaa", sum := "f3e7785fc7f00c92ae979b23f8dee6ad7adc43b4c5d173086e20bed566dd6d32", func := "larder/larderlaw02.ArenaAgain", spec := "arenaAgain", inPlace := ["slices.overlaps[int]", "maps.clone"], unfollowed := true, recurses := true, apart := false }
def ArenaAgainSaid : Prop := arenaAgainRow.holds Try.pinned (OpenSpec.ofChange arenaAgainSpec)

/-- ITS FALSE NEIGHBOUR: 'it returns false'. Refute it at one input. -/
def arenaAgainWrong : ChangeSpec := { name := "arenaAgain", fn := fun _ => fun
  | [d1, d2, d3] => { results := [.lit (.bool false)], args := [d1, d2, d3] }
  | _ => none }
def ArenaAgainWrongFalsely : Prop := arenaAgainRow.holds Try.pinned (OpenSpec.ofChange arenaAgainWrong)

/-- 'larderlaw10.DirMakes': WHATEVER THE INPUT: true; the input reads as it did. -/
def dirMakesSpec : ChangeSpec := { name := "dirMakes", fn := fun _ => fun
  | [d1, d2, d3] => { results := [.lit (.bool true)], args := [d1, d2, d3] }
  | _ => none }
def dirMakesRow : OpenClaim := { program := "ytpbalilnemjeeaa", sum := "f3e7785fc7f00c92ae979b23f8dee6ad7adc43b4c5d173086e20bed566dd6d32", func := "larder/larderlaw10.DirMakes", spec := "dirMakes", apart := false }
def DirMakesSaid : Prop := dirMakesRow.holds Try.pinned (OpenSpec.ofChange dirMakesSpec)

/-- ITS FALSE NEIGHBOUR: 'it returns false'. Refute it at one input. -/
def dirMakesWrong : ChangeSpec := { name := "dirMakes", fn := fun _ => fun
  | [d1, d2, d3] => { results := [.lit (.bool false)], args := [d1, d2, d3] }
  | _ => none }
def DirMakesWrongFalsely : Prop := dirMakesRow.holds Try.pinned (OpenSpec.ofChange dirMakesWrong)

/-- 'larderlaw10.DirTables': WHATEVER THE INPUT: true; the input reads as it did. -/
def dirTablesSpec : ChangeSpec := { name := "dirTables", fn := fun _ => fun
  | [d1, d2] => { results := [.lit (.bool true)], args := [d1, d2] }
  | _ => none }
def dirTablesRow : OpenClaim := { program := "ytpbalilnemjeeaa", sum := "f3e7785fc7f00c92ae979b23f8dee6ad7adc43b4c5d173086e20bed566dd6d32", func := "larder/larderlaw10.DirTables", spec := "dirTables", unfollowed := true, recurses := true, apart := false }
def DirTablesSaid : Prop := dirTablesRow.holds Try.pinned (OpenSpec.ofChange dirTablesSpec)

/-- ITS FALSE NEIGHBOUR: 'it returns false'. Refute it at one input. -/
def dirTablesWrong : ChangeSpec := { name := "dirTables", fn := fun _ => fun
  | [d1, d2] => { results := [.lit (.bool false)], args := [d1, d2] }
  | _ => none }
def DirTablesWrongFalsely : Prop := dirTablesRow.holds Try.pinned (OpenSpec.ofChange dirTablesWrong)

/-- 'larderlaw10.DirPicks': WHATEVER THE INPUT: true; the input reads as it did. -/
def dirPicksSpec : ChangeSpec := { name := "dirPicks", fn := fun _ => fun
  | [d1, d2] => { results := [.lit (.bool true)], args := [d1, d2] }
  | _ => none }
def dirPicksRow : OpenClaim := { program := "ytpbalilnemjeeaa", sum := "f3e7785fc7f00c92ae979b23f8dee6ad7adc43b4c5d173086e20bed566dd6d32", func := "larder/larderlaw10.DirPicks", spec := "dirPicks", apart := false }
def DirPicksSaid : Prop := dirPicksRow.holds Try.pinned (OpenSpec.ofChange dirPicksSpec)

/-- ITS FALSE NEIGHBOUR: 'it returns false'. Refute it at one input. -/
def dirPicksWrong : ChangeSpec := { name := "dirPicks", fn := fun _ => fun
  | [d1, d2] => { results := [.lit (.bool false)], args := [d1, d2] }
  | _ => none }
def DirPicksWrongFalsely : Prop := dirPicksRow.holds Try.pinned (OpenSpec.ofChange dirPicksWrong)

/-- 'larderlaw10.DirPlaces': WHATEVER THE INPUT: true; the input reads as it did. -/
def dirPlacesSpec : ChangeSpec := { name := "dirPlaces", fn := fun _ => fun
  | [d1, d2, d3, d4, d5] => { results := [.lit (.bool true)], args := [d1, d2, d3, d4, d5] }
  | _ => none }
def dirPlacesRow : OpenClaim := { program := "ytpbalilnemjeeaa", sum := "f3e7785fc7f00c92ae979b23f8dee6ad7adc43b4c5d173086e20bed566dd6d32", func := "larder/larderlaw10.DirPlaces", spec := "dirPlaces", apart := false }
def DirPlacesSaid : Prop := dirPlacesRow.holds Try.pinned (OpenSpec.ofChange dirPlacesSpec)

/-- ITS FALSE NEIGHBOUR: 'it returns false'. Refute it at one input. -/
def dirPlacesWrong : ChangeSpec := { name := "dirPlaces", fn := fun _ => fun
  | [d1, d2, d3, d4, d5] => { results := [.lit (.bool false)], args := [d1, d2, d3, d4, d5] }
  | _ => none }
def DirPlacesWrongFalsely : Prop := dirPlacesRow.holds Try.pinned (OpenSpec.ofChange dirPlacesWrong)

/-- 'larderlaw10.DirRefused': WHATEVER THE INPUT: true; the input reads as it did. -/
def dirRefusedSpec : ChangeSpec := { name := "dirRefused", fn := fun _ => fun
  | [d1, d2, d3] => { results := [.lit (.bool true)], args := [d1, d2, d3] }
  | _ => none }
def dirRefusedRow : OpenClaim := { program := "ytpbalilnemjeeaa", sum := "f3e7785fc7f00c92ae979b23f8dee6ad7adc43b4c5d173086e20bed566dd6d32", func := "larder/larderlaw10.DirRefused", spec := "dirRefused", inPlace := ["slices.overlaps[int]"], apart := false }
def DirRefusedSaid : Prop := dirRefusedRow.holds Try.pinned (OpenSpec.ofChange dirRefusedSpec)

/-- ITS FALSE NEIGHBOUR: 'it returns false'. Refute it at one input. -/
def dirRefusedWrong : ChangeSpec := { name := "dirRefused", fn := fun _ => fun
  | [d1, d2, d3] => { results := [.lit (.bool false)], args := [d1, d2, d3] }
  | _ => none }
def DirRefusedWrongFalsely : Prop := dirRefusedRow.holds Try.pinned (OpenSpec.ofChange dirRefusedWrong)

/-- 'larderlaw10.DirWidens': WHATEVER THE INPUT: true; the input reads as it did. -/
def dirWidensSpec : ChangeSpec := { name := "dirWidens", fn := fun _ => fun
  | [d1, d2, d3] => { results := [.lit (.bool true)], args := [d1, d2, d3] }
  | _ => none }
def dirWidensRow : OpenClaim := { program := "ytpbalilnemjeeaa", sum := "f3e7785fc7f00c92ae979b23f8dee6ad7adc43b4c5d173086e20bed566dd6d32", func := "larder/larderlaw10.DirWidens", spec := "dirWidens", inPlace := ["slices.overlaps[int]"], apart := false }
def DirWidensSaid : Prop := dirWidensRow.holds Try.pinned (OpenSpec.ofChange dirWidensSpec)

/-- ITS FALSE NEIGHBOUR: 'it returns false'. Refute it at one input. -/
def dirWidensWrong : ChangeSpec := { name := "dirWidens", fn := fun _ => fun
  | [d1, d2, d3] => { results := [.lit (.bool false)], args := [d1, d2, d3] }
  | _ => none }
def DirWidensWrongFalsely : Prop := dirWidensRow.holds Try.pinned (OpenSpec.ofChange dirWidensWrong)

/-- 'larderlaw10.DirPlays': WHATEVER THE INPUT: true; the input reads as it did. -/
def dirPlaysSpec : ChangeSpec := { name := "dirPlays", fn := fun _ => fun
  | [d1, d2] => { results := [.lit (.bool true)], args := [d1, d2] }
  | _ => none }
def dirPlaysRow : OpenClaim := { program := "ytpbalilnemjeeaa", sum := "f3e7785fc7f00c92ae979b23f8dee6ad7adc43b4c5d173086e20bed566dd6d32", func := "larder/larderlaw10.DirPlays", spec := "dirPlays", inPlace := ["slices.overlaps[int]"], unfollowed := true, recurses := true, apart := false }
def DirPlaysSaid : Prop := dirPlaysRow.holds Try.pinned (OpenSpec.ofChange dirPlaysSpec)

/-- ITS FALSE NEIGHBOUR: 'it returns false'. Refute it at one input. -/
def dirPlaysWrong : ChangeSpec := { name := "dirPlays", fn := fun _ => fun
  | [d1, d2] => { results := [.lit (.bool false)], args := [d1, d2] }
  | _ => none }
def DirPlaysWrongFalsely : Prop := dirPlaysRow.holds Try.pinned (OpenSpec.ofChange dirPlaysWrong)

/- THE SECOND FORM. 'bulk': how many values and letters a reading holds, each counted each time it is reached (what is shared counts as often as it is met; a slice's spare places count too). A statement '..UptoSaid' is the law's where the arguments, and the package variables that the reading takes, are together of bulk at most 1048576: NARROWER than '..Said'. Prove '..Said' where nothing that the law and all that it calls make is longer than what came in: it says more and counts as full. Else prove '..UptoSaid'. A law counts once. -/
mutual
def uptoBulk {H : Type} : DataW H → Nat
  | .lit (.string bytes) => bytes.length + 1
  | .lit _ => 1
  | .nil => 1
  | .ptr d => uptoBulk d + 1
  | .slice elems spare => uptoBulkAll elems + uptoBulkAll spare + 1
  | .agg parts => uptoBulkAll parts + 1
  | .iface _ d => uptoBulk d + 1
  | .map entries => uptoBulkEntries entries + 1
  | .held _ => 1
def uptoBulkAll {H : Type} : List (DataW H) → Nat
  | [] => 0
  | d :: r => uptoBulk d + uptoBulkAll r
def uptoBulkEntries {H : Type} : List (Lit × DataW H) → Nat
  | [] => 0
  | x :: r => uptoBulkEntry x + uptoBulkEntries r
def uptoBulkEntry {H : Type} : Lit × DataW H → Nat
  | (.string bytes, d) => bytes.length + uptoBulk d + 1
  | (_, d) => uptoBulk d + 1
 end
def uptoSmall : (H : Type) → List (DataW H) → Bool := fun _ ds => decide (uptoBulkAll ds ≤ 1048576)
def OpenSpec.upto (s : _root_.Go.ChangeSpec) : _root_.Go.OpenSpec := { _root_.Go.OpenSpec.ofChange s with cond := some uptoSmall }

/-- 'larderlaw02.ArenaMoves', WHERE WHAT IT READS IS OF BULK AT MOST 1048576: true; the input reads as it did. -/
def arenaMovesUptoRow : OpenClaim := { program := "ytpbalilnemjeeaa", sum := "f3e7785fc7f00c92ae979b23f8dee6ad7adc43b4c5d173086e20bed566dd6d32", func := "larder/larderlaw02.ArenaMoves", spec := "arenaMoves", apart := false, narrowed := true }
def ArenaMovesUptoSaid : Prop := arenaMovesUptoRow.holds Try.pinned (OpenSpec.upto arenaMovesSpec)

/-- 'larderlaw02.ArenaNumbers', WHERE WHAT IT READS IS OF BULK AT MOST 1048576: true; the input reads as it did. -/
def arenaNumbersUptoRow : OpenClaim := { program := "ytpbalilnemjeeaa", sum := "f3e7785fc7f00c92ae979b23f8dee6ad7adc43b4c5d173086e20bed566dd6d32", func := "larder/larderlaw02.ArenaNumbers", spec := "arenaNumbers", apart := false, narrowed := true }
def ArenaNumbersUptoSaid : Prop := arenaNumbersUptoRow.holds Try.pinned (OpenSpec.upto arenaNumbersSpec)

/-- 'larderlaw02.ArenaLowest', WHERE WHAT IT READS IS OF BULK AT MOST 1048576: true; the input reads as it did. -/
def arenaLowestUptoRow : OpenClaim := { program := "ytpbalilnemjeeaa", sum := "f3e7785fc7f00c92ae979b23f8dee6ad7adc43b4c5d173086e20bed566dd6d32", func := "larder/larderlaw02.ArenaLowest", spec := "arenaLowest", inPlace := ["slices.overlaps[int]"], apart := false, narrowed := true }
def ArenaLowestUptoSaid : Prop := arenaLowestUptoRow.holds Try.pinned (OpenSpec.upto arenaLowestSpec)

/-- 'larderlaw02.ArenaLists', WHERE WHAT IT READS IS OF BULK AT MOST 1048576: true; the input reads as it did. -/
def arenaListsUptoRow : OpenClaim := { program := "ytpbalilnemjeeaa", sum := "f3e7785fc7f00c92ae979b23f8dee6ad7adc43b4c5d173086e20bed566dd6d32", func := "larder/larderlaw02.ArenaLists", spec := "arenaLists", inPlace := ["slices.overlaps[int]"], apart := false, narrowed := true }
def ArenaListsUptoSaid : Prop := arenaListsUptoRow.holds Try.pinned (OpenSpec.upto arenaListsSpec)

/-- 'larderlaw02.ArenaInside', WHERE WHAT IT READS IS OF BULK AT MOST 1048576: true; the input reads as it did. -/
def arenaInsideUptoRow : OpenClaim := { program := "ytpbalilnemjeeaa", sum := "f3e7785fc7f00c92ae979b23f8dee6ad7adc43b4c5d173086e20bed566dd6d32", func := "larder/larderlaw02.ArenaInside", spec := "arenaInside", inPlace := ["slices.overlaps[int]"], apart := false, narrowed := true }
def ArenaInsideUptoSaid : Prop := arenaInsideUptoRow.holds Try.pinned (OpenSpec.upto arenaInsideSpec)

/-- 'larderlaw02.ArenaTogether', WHERE WHAT IT READS IS OF BULK AT MOST 1048576: true; the input reads as it did. -/
def arenaTogetherUptoRow : OpenClaim := { program := "ytpbalilnemjeeaa", sum := "f3e7785fc7f00c92ae979b23f8dee6ad7adc43b4c5d173086e20bed566dd6d32", func := "larder/larderlaw02.ArenaTogether", spec := "arenaTogether", inPlace := ["slices.overlaps[int]", "maps.clone"], unfollowed := true, recurses := true, apart := false, narrowed := true }
def ArenaTogetherUptoSaid : Prop := arenaTogetherUptoRow.holds Try.pinned (OpenSpec.upto arenaTogetherSpec)

/-- 'larderlaw02.ArenaRange', WHERE WHAT IT READS IS OF BULK AT MOST 1048576: true; the input reads as it did. -/
def arenaRangeUptoRow : OpenClaim := { program := "ytpbalilnemjeeaa", sum := "f3e7785fc7f00c92ae979b23f8dee6ad7adc43b4c5d173086e20bed566dd6d32", func := "larder/larderlaw02.ArenaRange", spec := "arenaRange", inPlace := ["maps.clone", "slices.overlaps[int]"], unfollowed := true, recurses := true, apart := false, narrowed := true }
def ArenaRangeUptoSaid : Prop := arenaRangeUptoRow.holds Try.pinned (OpenSpec.upto arenaRangeSpec)

/-- 'larderlaw02.ArenaKeeps', WHERE WHAT IT READS IS OF BULK AT MOST 1048576: true; the input reads as it did. -/
def arenaKeepsUptoRow : OpenClaim := { program := "ytpbalilnemjeeaa", sum := "f3e7785fc7f00c92ae979b23f8dee6ad7adc43b4c5d173086e20bed566dd6d32", func := "larder/larderlaw02.ArenaKeeps", spec := "arenaKeeps", inPlace := ["slices.overlaps[int]", "maps.clone"], unfollowed := true, recurses := true, apart := false, narrowed := true }
def ArenaKeepsUptoSaid : Prop := arenaKeepsUptoRow.holds Try.pinned (OpenSpec.upto arenaKeepsSpec)

/-- 'larderlaw02.ArenaAgain', WHERE WHAT IT READS IS OF BULK AT MOST 1048576: true; the input reads as it did. -/
def arenaAgainUptoRow : OpenClaim := { program := "ytpbalilnemjeeaa", sum := "f3e7785fc7f00c92ae979b23f8dee6ad7adc43b4c5d173086e20bed566dd6d32", func := "larder/larderlaw02.ArenaAgain", spec := "arenaAgain", inPlace := ["slices.overlaps[int]", "maps.clone"], unfollowed := true, recurses := true, apart := false, narrowed := true }
def ArenaAgainUptoSaid : Prop := arenaAgainUptoRow.holds Try.pinned (OpenSpec.upto arenaAgainSpec)

/-- 'larderlaw10.DirMakes', WHERE WHAT IT READS IS OF BULK AT MOST 1048576: true; the input reads as it did. -/
def dirMakesUptoRow : OpenClaim := { program := "ytpbalilnemjeeaa", sum := "f3e7785fc7f00c92ae979b23f8dee6ad7adc43b4c5d173086e20bed566dd6d32", func := "larder/larderlaw10.DirMakes", spec := "dirMakes", apart := false, narrowed := true }
def DirMakesUptoSaid : Prop := dirMakesUptoRow.holds Try.pinned (OpenSpec.upto dirMakesSpec)

/-- 'larderlaw10.DirTables', WHERE WHAT IT READS IS OF BULK AT MOST 1048576: true; the input reads as it did. -/
def dirTablesUptoRow : OpenClaim := { program := "ytpbalilnemjeeaa", sum := "f3e7785fc7f00c92ae979b23f8dee6ad7adc43b4c5d173086e20bed566dd6d32", func := "larder/larderlaw10.DirTables", spec := "dirTables", unfollowed := true, recurses := true, apart := false, narrowed := true }
def DirTablesUptoSaid : Prop := dirTablesUptoRow.holds Try.pinned (OpenSpec.upto dirTablesSpec)

/-- 'larderlaw10.DirPicks', WHERE WHAT IT READS IS OF BULK AT MOST 1048576: true; the input reads as it did. -/
def dirPicksUptoRow : OpenClaim := { program := "ytpbalilnemjeeaa", sum := "f3e7785fc7f00c92ae979b23f8dee6ad7adc43b4c5d173086e20bed566dd6d32", func := "larder/larderlaw10.DirPicks", spec := "dirPicks", apart := false, narrowed := true }
def DirPicksUptoSaid : Prop := dirPicksUptoRow.holds Try.pinned (OpenSpec.upto dirPicksSpec)

/-- 'larderlaw10.DirPlaces', WHERE WHAT IT READS IS OF BULK AT MOST 1048576: true; the input reads as it did. -/
def dirPlacesUptoRow : OpenClaim := { program := "ytpbalilnemjeeaa", sum := "f3e7785fc7f00c92ae979b23f8dee6ad7adc43b4c5d173086e20bed566dd6d32", func := "larder/larderlaw10.DirPlaces", spec := "dirPlaces", apart := false, narrowed := true }
def DirPlacesUptoSaid : Prop := dirPlacesUptoRow.holds Try.pinned (OpenSpec.upto dirPlacesSpec)

/-- 'larderlaw10.DirRefused', WHERE WHAT IT READS IS OF BULK AT MOST 1048576: true; the input reads as it did. -/
def dirRefusedUptoRow : OpenClaim := { program := "ytpbalilnemjeeaa", sum := "f3e7785fc7f00c92ae979b23f8dee6ad7adc43b4c5d173086e20bed566dd6d32", func := "larder/larderlaw10.DirRefused", spec := "dirRefused", inPlace := ["slices.overlaps[int]"], apart := false, narrowed := true }
def DirRefusedUptoSaid : Prop := dirRefusedUptoRow.holds Try.pinned (OpenSpec.upto dirRefusedSpec)

/-- 'larderlaw10.DirWidens', WHERE WHAT IT READS IS OF BULK AT MOST 1048576: true; the input reads as it did. -/
def dirWidensUptoRow : OpenClaim := { program := "ytpbalilnemjeeaa", sum := "f3e7785fc7f00c92ae979b23f8dee6ad7adc43b4c5d173086e20bed566dd6d32", func := "larder/larderlaw10.DirWidens", spec := "dirWidens", inPlace := ["slices.overlaps[int]"], apart := false, narrowed := true }
def DirWidensUptoSaid : Prop := dirWidensUptoRow.holds Try.pinned (OpenSpec.upto dirWidensSpec)

/-- 'larderlaw10.DirPlays', WHERE WHAT IT READS IS OF BULK AT MOST 1048576: true; the input reads as it did. -/
def dirPlaysUptoRow : OpenClaim := { program := "ytpbalilnemjeeaa", sum := "f3e7785fc7f00c92ae979b23f8dee6ad7adc43b4c5d173086e20bed566dd6d32", func := "larder/larderlaw10.DirPlays", spec := "dirPlays", inPlace := ["slices.overlaps[int]"], unfollowed := true, recurses := true, apart := false, narrowed := true }
def DirPlaysUptoSaid : Prop := dirPlaysUptoRow.holds Try.pinned (OpenSpec.upto dirPlaysSpec)

end Rows
end Go.Proofs.Ytpbalilnemjeeaa
