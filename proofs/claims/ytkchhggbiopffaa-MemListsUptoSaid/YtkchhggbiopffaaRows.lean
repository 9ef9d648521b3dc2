/-
  No cell of these rows narrows 'for every input' (looked for: loops, veiled, ifaces, maps, wideKeys, modest, calm, conditions, laid).
  DERIVED. THE GIVEN ROWS OF THIS SEAT. 10 by the template 'for every input the law returns true; each argument reads behind the call as it read before'; 0 by the template 'total and deterministic' (their statements: YtkchhggbiopffaaTotals.lean).
  GIVEN WITH THE SEED: the statements are not yours to turn. If you find one false, say at which input.
  Laid BY PROGRAM, IN A SANDBOX (cutbox-rows.mjs): the forced cells as the released guide's own fill.sh prints them over the translation c42d9a692e02c064… (all of the seat's roots in one cut). By AI agents, Wed Nov 11 2026. No macro, syntax, notation, axiom, sorry.
-/
import Derived.Test.YtkchhggbiopffaaChecked
import GoSem.Claim
import GoSem.ClaimJoined
import GoSem.ClaimMapViews
import Derived.JoinedTies
import Derived.KernelRfl
namespace Go.Proofs.Ytkchhggbiopffaa
/- THE CELL 'sum', in the pinned program and in every row, IS THE sha256 OF THE DUMP (.gsa) THAT YtkchhggbiopffaaProg.lean LOADS. Nothing in Lean hashes anything: it is a label: what it is worth is what the hold of that sum in a sandbox is worth. -/
noncomputable def Try.pinned : Pinned := { name := "ytkchhggbiopffaa", sum := "c42d9a692e02c0646141cecaec855d6e41e2eb313084c0fca85d146eb16b9d26", checked := Try.checked }
namespace Rows
def none {H : Type} : Left H := { results := [], args := [] }

/-- 'larderlaw01.MemNews': WHATEVER THE INPUT: true; the input reads as it did. -/
def memNewsSpec : ChangeSpec := { name := "memNews", fn := fun _ => fun
  | [d1, d2] => { results := [.lit (.bool true)], args := [d1, d2] }
  | _ => none }
def memNewsRow : OpenClaim := { program := "ytkchhggbiopffaa", sum := "c42d9a692e02c0646141cecaec855d6e41e2eb313084c0fca85d146eb16b9d26", func := "larder/larderlaw01.MemNews", spec := "memNews", apart := false }
def MemNewsSaid : Prop := memNewsRow.holds Try.pinned (OpenSpec.ofChange memNewsSpec)

/-- ITS FALSE NEIGHBOUR: 'it returns false'. Refute it at one input. -/
def memNewsWrong : ChangeSpec := { name := "memNews", fn := fun _ => fun
  | [d1, d2] => { results := [.lit (.bool false)], args := [d1, d2] }
  | _ => none }
def MemNewsWrongFalsely : Prop := memNewsRow.holds Try.pinned (OpenSpec.ofChange memNewsWrong)

/-- 'larderlaw01.MemWrites': WHATEVER THE INPUT: true; the input reads as it did. -/
def memWritesSpec : ChangeSpec := { name := "memWrites", fn := fun _ => fun
  | [d1, d2, d3] => { results := [.lit (.bool true)], args := [d1, d2, d3] }
  | _ => none }
def memWritesRow : OpenClaim := { program := "ytkchhggbiopffaa", sum := "c42d9a692e02c0646141cecaec855d6e41e2eb313084c0fca85d146eb16b9d26", func := "larder/larderlaw01.MemWrites", spec := "memWrites", apart := false }
def MemWritesSaid : Prop := memWritesRow.holds Try.pinned (OpenSpec.ofChange memWritesSpec)

/-- ITS FALSE NEIGHBOUR: 'it returns false'. Refute it at one input. -/
def memWritesWrong : ChangeSpec := { name := "memWrites", fn := fun _ => fun
  | [d1, d2, d3] => { results := [.lit (.bool false)], args := [d1, d2, d3] }
  | _ => none }
def MemWritesWrongFalsely : Prop := memWritesRow.holds Try.pinned (OpenSpec.ofChange memWritesWrong)

/-- 'larderlaw01.MemCopies': WHATEVER THE INPUT: true; the input reads as it did. -/
def memCopiesSpec : ChangeSpec := { name := "memCopies", fn := fun _ => fun
  | [d1, d2, d3, d4, d5] => { results := [.lit (.bool true)], args := [d1, d2, d3, d4, d5] }
  | _ => none }
def memCopiesRow : OpenClaim := { program := "ytkchhggbiopffaa", sum := "c42d9a692e02c0646141cecaec855d6e41e2eb313084c0fca85d146eb16b9d26", func := "larder/larderlaw01.MemCopies", spec := "memCopies", apart := false }
def MemCopiesSaid : Prop := memCopiesRow.holds Try.pinned (OpenSpec.ofChange memCopiesSpec)

/-- ITS FALSE NEIGHBOUR: 'it returns false'. Refute it at one input. -/
def memCopiesWrong : ChangeSpec := { name := "memCopies", fn := fun _ => fun
  | [d1, d2, d3, d4, d5] => { results := [.lit (.bool false)], args := [d1, d2, d3, d4, d5] }
  | _ => none }
def MemCopiesWrongFalsely : Prop := memCopiesRow.holds Try.pinned (OpenSpec.ofChange memCopiesWrong)

/-- 'larderlaw01.MemEquals': WHATEVER THE INPUT: true; the input reads as it did. -/
def memEqualsSpec : ChangeSpec := { name := "memEquals", fn := fun _ => fun
  | [d1, d2, d3, d4] => { results := [.lit (.bool true)], args := [d1, d2, d3, d4] }
  | _ => none }
def memEqualsRow : OpenClaim := { program := "ytkchhggbiopffaa", sum := "c42d9a692e02c0646141cecaec855d6e41e2eb313084c0fca85d146eb16b9d26", func := "larder/larderlaw01.MemEquals", spec := "memEquals", apart := false }
def MemEqualsSaid : Prop := memEqualsRow.holds Try.pinned (OpenSpec.ofChange memEqualsSpec)

/-- ITS FALSE NEIGHBOUR: 'it returns false'. Refute it at one input. -/
def memEqualsWrong : ChangeSpec := { name := "memEquals", fn := fun _ => fun
  | [d1, d2, d3, d4] => { results := [.lit (.bool false)], args := [d1, d2, d3, d4] }
  | _ => none }
def MemEqualsWrongFalsely : Prop := memEqualsRow.holds Try.pinned (OpenSpec.ofChange memEqualsWrong)

/-- 'larderlaw01.MemFills': WHATEVER THE INPUT: true; the input reads as it did. -/
def memFillsSpec : ChangeSpec := { name := "memFills", fn := fun _ => fun
  | [d1, d2, d3, d4, d5] => { results := [.lit (.bool true)], args := [d1, d2, d3, d4, d5] }
  | _ => none }
def memFillsRow : OpenClaim := { program := "ytkchhggbiopffaa", sum := "c42d9a692e02c0646141cecaec855d6e41e2eb313084c0fca85d146eb16b9d26", func := "larder/larderlaw01.MemFills", spec := "memFills", apart := false }
def MemFillsSaid : Prop := memFillsRow.holds Try.pinned (OpenSpec.ofChange memFillsSpec)

/-- ITS FALSE NEIGHBOUR: 'it returns false'. Refute it at one input. -/
def memFillsWrong : ChangeSpec := { name := "memFills", fn := fun _ => fun
  | [d1, d2, d3, d4, d5] => { results := [.lit (.bool false)], args := [d1, d2, d3, d4, d5] }
  | _ => none }
def MemFillsWrongFalsely : Prop := memFillsRow.holds Try.pinned (OpenSpec.ofChange memFillsWrong)

/-- 'larderlaw01.MemOneByOne': WHATEVER THE INPUT: true; the input reads as it did. -/
def memOneByOneSpec : ChangeSpec := { name := "memOneByOne", fn := fun _ => fun
  | [d1, d2, d3] => { results := [.lit (.bool true)], args := [d1, d2, d3] }
  | _ => none }
def memOneByOneRow : OpenClaim := { program := "ytkchhggbiopffaa", sum := "c42d9a692e02c0646141cecaec855d6e41e2eb313084c0fca85d146eb16b9d26", func := "larder/larderlaw01.MemOneByOne", spec := "memOneByOne", apart := false }
def MemOneByOneSaid : Prop := memOneByOneRow.holds Try.pinned (OpenSpec.ofChange memOneByOneSpec)

/-- ITS FALSE NEIGHBOUR: 'it returns false'. Refute it at one input. -/
def memOneByOneWrong : ChangeSpec := { name := "memOneByOne", fn := fun _ => fun
  | [d1, d2, d3] => { results := [.lit (.bool false)], args := [d1, d2, d3] }
  | _ => none }
def MemOneByOneWrongFalsely : Prop := memOneByOneRow.holds Try.pinned (OpenSpec.ofChange memOneByOneWrong)

/-- 'larderlaw01.MemGrows': WHATEVER THE INPUT: true; the input reads as it did. -/
def memGrowsSpec : ChangeSpec := { name := "memGrows", fn := fun _ => fun
  | [d1, d2, d3] => { results := [.lit (.bool true)], args := [d1, d2, d3] }
  | _ => none }
def memGrowsRow : OpenClaim := { program := "ytkchhggbiopffaa", sum := "c42d9a692e02c0646141cecaec855d6e41e2eb313084c0fca85d146eb16b9d26", func := "larder/larderlaw01.MemGrows", spec := "memGrows", apart := false }
def MemGrowsSaid : Prop := memGrowsRow.holds Try.pinned (OpenSpec.ofChange memGrowsSpec)

/-- ITS FALSE NEIGHBOUR: 'it returns false'. Refute it at one input. -/
def memGrowsWrong : ChangeSpec := { name := "memGrows", fn := fun _ => fun
  | [d1, d2, d3] => { results := [.lit (.bool false)], args := [d1, d2, d3] }
  | _ => none }
def MemGrowsWrongFalsely : Prop := memGrowsRow.holds Try.pinned (OpenSpec.ofChange memGrowsWrong)

/-- 'larderlaw01.MemStores': WHATEVER THE INPUT: true; the input reads as it did. -/
def memStoresSpec : ChangeSpec := { name := "memStores", fn := fun _ => fun
  | [d1, d2, d3, d4, d5] => { results := [.lit (.bool true)], args := [d1, d2, d3, d4, d5] }
  | _ => none }
def memStoresRow : OpenClaim := { program := "ytkchhggbiopffaa", sum := "c42d9a692e02c0646141cecaec855d6e41e2eb313084c0fca85d146eb16b9d26", func := "larder/larderlaw01.MemStores", spec := "memStores", apart := false }
def MemStoresSaid : Prop := memStoresRow.holds Try.pinned (OpenSpec.ofChange memStoresSpec)

/-- ITS FALSE NEIGHBOUR: 'it returns false'. Refute it at one input. -/
def memStoresWrong : ChangeSpec := { name := "memStores", fn := fun _ => fun
  | [d1, d2, d3, d4, d5] => { results := [.lit (.bool false)], args := [d1, d2, d3, d4, d5] }
  | _ => none }
def MemStoresWrongFalsely : Prop := memStoresRow.holds Try.pinned (OpenSpec.ofChange memStoresWrong)

/-- 'larderlaw01.MemLists': WHATEVER THE INPUT: true; the input reads as it did. -/
def memListsSpec : ChangeSpec := { name := "memLists", fn := fun _ => fun
  | [d1, d2] => { results := [.lit (.bool true)], args := [d1, d2] }
  | _ => none }
def memListsRow : OpenClaim := { program := "ytkchhggbiopffaa", sum := "c42d9a692e02c0646141cecaec855d6e41e2eb313084c0fca85d146eb16b9d26", func := "larder/larderlaw01.MemLists", spec := "memLists", apart := false }
def MemListsSaid : Prop := memListsRow.holds Try.pinned (OpenSpec.ofChange memListsSpec)

/-- ITS FALSE NEIGHBOUR: 'it returns false'. Refute it at one input. -/
def memListsWrong : ChangeSpec := { name := "memLists", fn := fun _ => fun
  | [d1, d2] => { results := [.lit (.bool false)], args := [d1, d2] }
  | _ => none }
def MemListsWrongFalsely : Prop := memListsRow.holds Try.pinned (OpenSpec.ofChange memListsWrong)

/-- 'larderlaw01.MemPlays': WHATEVER THE INPUT: true; the input reads as it did. -/
def memPlaysSpec : ChangeSpec := { name := "memPlays", fn := fun _ => fun
  | [d1, d2, d3] => { results := [.lit (.bool true)], args := [d1, d2, d3] }
  | _ => none }
def memPlaysRow : OpenClaim := { program := "ytkchhggbiopffaa", sum := "c42d9a692e02c0646141cecaec855d6e41e2eb313084c0fca85d146eb16b9d26", func := "larder/larderlaw01.MemPlays", spec := "memPlays", apart := false }
def MemPlaysSaid : Prop := memPlaysRow.holds Try.pinned (OpenSpec.ofChange memPlaysSpec)

/-- ITS FALSE NEIGHBOUR: 'it returns false'. Refute it at one input. -/
def memPlaysWrong : ChangeSpec := { name := "memPlays", fn := fun _ => fun
  | [d1, d2, d3] => { results := [.lit (.bool false)], args := [d1, d2, d3] }
  | _ => none }
def MemPlaysWrongFalsely : Prop := memPlaysRow.holds Try.pinned (OpenSpec.ofChange memPlaysWrong)

/- THE SECOND FORM. 'bulk': how many values and letters a reading holds, each counted each time it is reached (what is shared counts as often as it is met; a slice's spare places count too). A statement '..UptoSaid' is the law's where the arguments, and the package variables that the reading takes, are together of bulk at most 1048576: NARROWER than '..Said'. Prove '..Said' where nothing that the law and all that it calls make is longer than what came in: it says more and counts as full. Else prove '..UptoSaid'. A law counts once. -/
mutual
def uptoBulk {H : Type} : DataW H → Nat
  | .lit (.string bytes) => bytes.length + 1
  | .lit _ => 1
  | .nil => 1
  | .ptr d => uptoBulk d + 1
  | .slice elems spare => uptoBulkAll elems + uptoBulkAll spare + 1
  | .agg parts => uptoBulkAll parts + 1
  | .iface _ d => uptoBulk d + 1
  | .map entries => uptoBulkEntries entries + 1
  | .held _ => 1
def uptoBulkAll {H : Type} : List (DataW H) → Nat
  | [] => 0
  | d :: r => uptoBulk d + uptoBulkAll r
def uptoBulkEntries {H : Type} : List (Lit × DataW H) → Nat
  | [] => 0
  | x :: r => uptoBulkEntry x + uptoBulkEntries r
def uptoBulkEntry {H : Type} : Lit × DataW H → Nat
  | (.string bytes, d) => bytes.length + uptoBulk d + 1
  | (_, d) => uptoBulk d + 1
 end
def uptoSmall : (H : Type) → List (DataW H) → Bool := fun _ ds => decide (uptoBulkAll ds ≤ 1048576)
def OpenSpec.upto (s : _root_.Go.ChangeSpec) : _root_.Go.OpenSpec := { _root_.Go.OpenSpec.ofChange s with cond := some uptoSmall }

/-- 'larderlaw01.MemNews', WHERE WHAT IT READS IS OF BULK AT MOST 1048576: true; the input reads as it did. -/
def memNewsUptoRow : OpenClaim := { program := "ytkchhggbiopffaa", sum := "c42d9a692e02c0646141cecaec855d6e41e2eb313084c0fca85d146eb16b9d26", func := "larder/larderlaw01.MemNews", spec := "memNews", apart := false, narrowed := true }
def MemNewsUptoSaid : Prop := memNewsUptoRow.holds Try.pinned (OpenSpec.upto memNewsSpec)

/-- 'larderlaw01.MemWrites', WHERE WHAT IT READS IS OF BULK AT MOST 1048576: true; the input reads as it did. -/
def memWritesUptoRow : OpenClaim := { program := "ytkchhggbiopffaa", sum := "c42d9a692e02c0646141cecaec855d6e41e2eb313084c0fca85d146eb16b9d26", func := "larder/larderlaw01.MemWrites", spec := "memWrites", apart := false, narrowed := true }
def MemWritesUptoSaid : Prop := memWritesUptoRow.holds Try.pinned (OpenSpec.upto memWritesSpec)

/-- 'larderlaw01.MemCopies', WHERE WHAT IT READS IS OF BULK AT MOST 1048576: true; the input reads as it did. -/
def memCopiesUptoRow : OpenClaim := { program := "ytkchhggbiopffaa", sum := "c42d9a692e02c0646141cecaec855d6e41e2eb313084c0fca85d146eb16b9d26", func := "larder/larderlaw01.MemCopies", spec := "memCopies", apart := false, narrowed := true }
def MemCopiesUptoSaid : Prop := memCopiesUptoRow.holds Try.pinned (OpenSpec.upto memCopiesSpec)

/-- 'larderlaw01.MemEquals', WHERE WHAT IT READS IS OF BULK AT MOST 1048576: true; the input reads as it did. -/
def memEqualsUptoRow : OpenClaim := { program := "ytkchhggbiopffaa", sum := "c42d9a692e02c0646141cecaec855d6e41e2eb313084c0fca85d146eb16b9d26", func := "larder/larderlaw01.MemEquals", spec := "memEquals", apart := false, narrowed := true }
def MemEqualsUptoSaid : Prop := memEqualsUptoRow.holds Try.pinned (OpenSpec.upto memEqualsSpec)

/-- 'larderlaw01.MemFills', WHERE WHAT IT READS IS OF BULK AT MOST 1048576: true; the input reads as it did. -/
def memFillsUptoRow : OpenClaim := { program := "ytkchhggbiopffaa", sum := "c42d9a692e02c0646141cecaec855d6e41e2eb313084c0fca85d146eb16b9d26", func := "larder/larderlaw01.MemFills", spec := "memFills", apart := false, narrowed := true }
def MemFillsUptoSaid : Prop := memFillsUptoRow.holds Try.pinned (OpenSpec.upto memFillsSpec)

/-- 'larderlaw01.MemOneByOne', WHERE WHAT IT READS IS OF BULK AT MOST 1048576: true; the input reads as it did. -/
def memOneByOneUptoRow : OpenClaim := { program := "ytkchhggbiopffaa", sum := "c42d9a692e02c0646141cecaec855d6e41e2eb313084c0fca85d146eb16b9d26", func := "larder/larderlaw01.MemOneByOne", spec := "memOneByOne", apart := false, narrowed := true }
def MemOneByOneUptoSaid : Prop := memOneByOneUptoRow.holds Try.pinned (OpenSpec.upto memOneByOneSpec)

/-- 'larderlaw01.MemGrows', WHERE WHAT IT READS IS OF BULK AT MOST 1048576: true; the input reads as it did. -/
def memGrowsUptoRow : OpenClaim := { program := "ytkchhggbiopffaa", sum := "c42d9a692e02c0646141cecaec855d6e41e2eb313084c0fca85d146eb16b9d26", func := "larder/larderlaw01.MemGrows", spec := "memGrows", apart := false, narrowed := true }
def MemGrowsUptoSaid : Prop := memGrowsUptoRow.holds Try.pinned (OpenSpec.upto memGrowsSpec)

/-- 'larderlaw01.MemStores', WHERE WHAT IT READS IS OF BULK AT MOST 1048576: true; the input reads as it did. -/
def memStoresUptoRow : OpenClaim := { program := "ytkchhggbiopffaa", sum := "c42d9a692e02c0646141cecaec855d6e41e2eb313084c0fca85d146eb16b9d26", func := "larder/larderlaw01.MemStores", spec := "memStores", apart := false, narrowed := true }
def MemStoresUptoSaid : Prop := memStoresUptoRow.holds Try.pinned (OpenSpec.upto memStoresSpec)

/-- 'larderlaw01.MemLists', WHERE WHAT IT READS IS OF BULK AT MOST 1048576: true; the input reads as it did. -/
def memListsUptoRow : OpenClaim := { program := "ytkchhggbiopffaa", sum := "c42d9a692e02c0646141cecaec855d6e41e2eb313084c0fca85d146eb16b9d26", func := "larder/larderlaw01.MemLists", spec := "memLists", apart := false, narrowed := true }
def MemListsUptoSaid : Prop := memListsUptoRow.holds Try.pinned (OpenSpec.upto memListsSpec)

/-- 'larderlaw01.MemPlays', WHERE WHAT IT READS IS OF BULK AT MOST 1048576: true; the input reads as it did. -/
def memPlaysUptoRow : OpenClaim := { program := "ytkchhggbiopffaa", sum := "c42d9a692e02c0646141cecaec855d6e41e2eb313084c0fca85d146eb16b9d26", func := "larder/larderlaw01.MemPlays", spec := "memPlays", apart := false, narrowed := true }
def MemPlaysUptoSaid : Prop := memPlaysUptoRow.holds Try.pinned (OpenSpec.upto memPlaysSpec)

end Rows
end Go.Proofs.Ytkchhggbiopffaa
