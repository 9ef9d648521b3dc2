/- What is proved here: small facts that walks use behind a contract that ends in Below. No condition. -/
import Derived.Test.YtpbalilnemjeeaaProg
import Derived.WalkKit
import Derived.IntWalk
import Derived.Below
import Derived.BigQuiet
import Derived.Deep.QuietTactic
import Derived.Deep.LoopGhost
import Derived.Deep.DeepCutAuto
import Derived.Deep.CutBlock
import Derived.WalkSmall
import Derived.Lib.Hide
import Derived.Outline
import Derived.Deep.RegionHeld3
set_option linter.unusedVariables false
set_option linter.unusedSimpArgs false
namespace Go.Proofs.Ytpbalilnemjeeaa
open Go.RowKit
theorem bcell {W w1 : World} (hb : Below W.heap.size W w1) :
    (∀ b o, b < W.heap.size → w1.cell? ⟨b, o, none⟩ = W.cell? ⟨b, o, none⟩) ∧ (∀ b o, b < W.heap.size → w1.frozen? ⟨b, o, none⟩ = W.frozen? ⟨b, o, none⟩) :=
  ⟨fun b o h => hb.cell (p := ⟨b, o, none⟩) h, fun b o h => hb.frozen (p := ⟨b, o, none⟩) h⟩
theorem ret_int {k : IntKind} {a b : Int} (h : a = b) : Ending.returned (.int k a) = .returned (.int k b) := by rw [h]
theorem ret_bool {a b : Bool} (h : a = b) : Ending.returned (.bool a) = .returned (.bool b) := by rw [h]
theorem below_drewN {B : Nat} {a w : World} (h : Below B a w) (n : Nat) : Below B a (w.drewN n) := ⟨h.os, h.tape, h.output, h.size, h.block⟩
theorem Below.tr {B B' : Nat} {a b c : World} (h : Below B a b) (k : Below B' b c) (hB : B ≤ B') : Below B a c := h.trans (k.mono hB)
theorem quiet_add {P : Program} {f : FuncId} {args : Array Value} {w : World} {a n : Nat} {v : Value}
    (h : Calls P f args (w.drewN (a + n)) fun e w' => e = .returned v ∧ ∃ m, w' = (w.drewN (a + n)).drewN m) :
    Calls P f args (w.drewN (a + n)) fun e w'' => e = .returned v ∧ ∃ m, w'' = w.drewN (a + m) :=
  h.mono fun _ _ ⟨he, m, hm⟩ => ⟨he, n + m, by rw [hm, World.drewN_drewN, Nat.add_assoc]⟩
theorem Below.then {w0 w w' : World} (h : Below w0.heap.size w0 w) (k : Below w.heap.size w w') : Below w0.heap.size w0 w' := h.trans (k.mono h.size)
/-- a contract that turns nothing old, told since an elder world -/
theorem since {f : FuncId} {args : Array Value} {w0 w : World} {v : Ending} (h : Calls Try.prog f args w fun e w' => e = v ∧ Below w.heap.size w w') (hB : Below w0.heap.size w0 w) :
    Calls Try.prog f args w fun e w' => e = v ∧ Below w0.heap.size w0 w' := h.mono fun _ _ ⟨he, hb⟩ => ⟨he, Below.then hB hb⟩
/-- a contract that turns nothing old keeps whatever Below keeps -/
theorem keeps {f : FuncId} {args : Array Value} {w : World} {v : Ending} {S : World → Prop} (h : Calls Try.prog f args w fun e w' => e = v ∧ Below w.heap.size w w') (hS : ∀ w', Below w.heap.size w w' → S w') :
    Calls Try.prog f args w fun e w' => e = v ∧ S w' := h.mono fun _ _ ⟨he, hb⟩ => ⟨he, hS _ hb⟩
/-- what a call behind some time still knows: nothing below the first world has turned; three cells -/
structure Three (w0 : World) (a b c : Nat) (x y z : Value) (w : World) : Prop where
  below : Below w0.heap.size w0 w
  c1 : w.cell? ⟨a, 0, none⟩ = some x
  c2 : w.cell? ⟨b, 0, none⟩ = some y
  c3 : w.cell? ⟨c, 0, none⟩ = some z
theorem Three.keep {w0 : World} {a b c : Nat} {x y z : Value} {w : World} (h : Three w0 a b c x y z w) (w' : World) (hb : Below w.heap.size w w') : Three w0 a b c x y z w' :=
  ⟨Below.then h.below hb, (hb.cell (p := ⟨a, 0, none⟩) (World.block_lt_of_cell? w _ h.c1)).trans h.c1, (hb.cell (p := ⟨b, 0, none⟩) (World.block_lt_of_cell? w _ h.c2)).trans h.c2, (hb.cell (p := ⟨c, 0, none⟩) (World.block_lt_of_cell? w _ h.c3)).trans h.c3⟩
theorem Three.drew1 {w0 : World} {a b c : Nat} {x y z : Value} {w : World} (h : Three w0 a b c x y z w) : Three w0 a b c x y z w.drew := ⟨h.below.drew, h.c1, h.c2, h.c3⟩
theorem Three.drew {w0 : World} {a b c : Nat} {x y z : Value} {w : World} (h : Three w0 a b c x y z w) (n : Nat) : Three w0 a b c x y z (w.drewN n) := ⟨below_drewN h.below n, h.c1, h.c2, h.c3⟩
end Go.Proofs.Ytpbalilnemjeeaa
