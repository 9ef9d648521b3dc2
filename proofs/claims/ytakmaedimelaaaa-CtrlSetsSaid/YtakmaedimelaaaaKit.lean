/- What is proved here: small facts that walks use behind a contract that ends in Below. No condition. -/
import Derived.Test.YtakmaedimelaaaaProg
import Derived.WalkKit
import Derived.IntWalk
import Derived.Below
import Derived.BigQuiet
import Derived.Deep.QuietTactic
import Derived.Deep.LoopGhost
import Derived.Deep.DeepCutAuto
import Derived.Deep.CutBlock
import Derived.WalkSmall
import Derived.Lib.Hide
import Derived.Outline
set_option linter.unusedVariables false
set_option linter.unusedSimpArgs false
namespace Go.Proofs.Ytakmaedimelaaaa
open Go.RowKit
theorem bcell {W w1 : World} (hb : Below W.heap.size W w1) :
    (∀ b o, b < W.heap.size → w1.cell? ⟨b, o, none⟩ = W.cell? ⟨b, o, none⟩) ∧ (∀ b o, b < W.heap.size → w1.frozen? ⟨b, o, none⟩ = W.frozen? ⟨b, o, none⟩) :=
  ⟨fun b o h => hb.cell (p := ⟨b, o, none⟩) h, fun b o h => hb.frozen (p := ⟨b, o, none⟩) h⟩
theorem ret_int {k : IntKind} {a b : Int} (h : a = b) : Ending.returned (.int k a) = .returned (.int k b) := by rw [h]
theorem ret_bool {a b : Bool} (h : a = b) : Ending.returned (.bool a) = .returned (.bool b) := by rw [h]
theorem below_drewN {B : Nat} {a w : World} (h : Below B a w) (n : Nat) : Below B a (w.drewN n) := ⟨h.os, h.tape, h.output, h.size, h.block⟩
theorem Below.tr {B B' : Nat} {a b c : World} (h : Below B a b) (k : Below B' b c) (hB : B ≤ B') : Below B a c := h.trans (k.mono hB)
theorem quiet_add {P : Program} {f : FuncId} {args : Array Value} {w : World} {a n : Nat} {v : Value}
    (h : Calls P f args (w.drewN (a + n)) fun e w' => e = .returned v ∧ ∃ m, w' = (w.drewN (a + n)).drewN m) :
    Calls P f args (w.drewN (a + n)) fun e w'' => e = .returned v ∧ ∃ m, w'' = w.drewN (a + m) :=
  h.mono fun _ _ ⟨he, m, hm⟩ => ⟨he, n + m, by rw [hm, World.drewN_drewN, Nat.add_assoc]⟩
theorem Below.then {w0 w w' : World} (h : Below w0.heap.size w0 w) (k : Below w.heap.size w w') : Below w0.heap.size w0 w' := h.trans (k.mono h.size)
/-- a contract that turns nothing old, told since an elder world -/
theorem since {f : FuncId} {args : Array Value} {w0 w : World} {v : Ending} (h : Calls Try.prog f args w fun e w' => e = v ∧ Below w.heap.size w w') (hB : Below w0.heap.size w0 w) :
    Calls Try.prog f args w fun e w' => e = v ∧ Below w0.heap.size w0 w' := h.mono fun _ _ ⟨he, hb⟩ => ⟨he, Below.then hB hb⟩
end Go.Proofs.Ytakmaedimelaaaa
