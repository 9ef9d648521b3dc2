/- What is proved here: what a call that writes into some blocks leaves alone. No condition. -/
import Derived.Test.YtlfppmdehkhjiaaBlk
namespace Go.Proofs.Ytlfppmdehkhjiaa
set_option linter.unusedVariables false
set_option linter.unusedSimpArgs false
open Go.RowKit
/-- w' is w but for new blocks and the blocks of S -/
structure Turns (S : List Nat) (w w' : World) : Prop where
  os : w'.os = w.os
  tape : w'.tape = w.tape
  output : w'.output = w.output
  size : w.heap.size ≤ w'.heap.size
  block : ∀ k, k < w.heap.size → ¬ k ∈ S → w'.heap[k]? = w.heap[k]?
section
variable {S : List Nat} {w w1 w2 : World}
theorem Turns.refl (S : List Nat) (w : World) : Turns S w w := ⟨rfl, rfl, rfl, Nat.le_refl _, fun _ _ _ => rfl⟩
theorem Turns.trans (h : Turns S w w1) (k : Turns S w1 w2) : Turns S w w2 :=
  ⟨k.os.trans h.os, k.tape.trans h.tape, k.output.trans h.output, Nat.le_trans h.size k.size, fun i hi hn => (k.block i (Nat.lt_of_lt_of_le hi h.size) hn).trans (h.block i hi hn)⟩
theorem Turns.more {S' : List Nat} (h : Turns S w w1) (hs : ∀ x, x ∈ S → x ∈ S' ∨ w.heap.size ≤ x) : Turns S' w w1 :=
  ⟨h.os, h.tape, h.output, h.size, fun i hi hn => h.block i hi (fun hm => by rcases hs i hm with a | a; exact hn a; omega)⟩
theorem Turns.next {S' : List Nat} (h : Turns S w w1) (k : Turns S' w1 w2) (hs : ∀ x, x ∈ S' → x ∈ S ∨ w.heap.size ≤ x) : Turns S w w2 :=
  ⟨k.os.trans h.os, k.tape.trans h.tape, k.output.trans h.output, Nat.le_trans h.size k.size, fun i hi hn => (k.block i (Nat.lt_of_lt_of_le hi h.size) (fun hm => by rcases hs i hm with a | a; exact hn a; omega)).trans (h.block i hi hn)⟩
theorem Turns.of_below (hb : Below w.heap.size w w1) : Turns S w w1 := ⟨hb.os, hb.tape, hb.output, hb.size, fun k hk _ => hb.block k hk⟩
theorem Turns.thenB (h : Turns S w w1) (hb : Below w1.heap.size w1 w2) : Turns S w w2 := h.trans (Turns.of_below hb)
theorem Turns.drew (h : Turns S w w1) : Turns S w w1.drew := h.thenB (Below.refl _ _).drew
theorem Turns.drewN (h : Turns S w w1) (n : Nat) : Turns S w (w1.drewN n) := h.thenB (below_drewN (Below.refl _ _) n)
theorem Turns.alloc (h : Turns S w w1) (o : Obj) : Turns S w (w1.alloc o) := h.thenB ((Below.refl _ _).alloc (Nat.le_refl _) o)
theorem Turns.set (h : Turns S w w1) (q i : Nat) (v : Value) (hq : q ∈ S ∨ w.heap.size ≤ q) : Turns S w (w1.setCell ⟨q, i, none⟩ v) :=
  ⟨h.os, h.tape, h.output, by simpa [World.setCell] using h.size, fun k hk hn => (Below.heap_setCell w1 ⟨q, i, none⟩ v k (fun e => by subst e; rcases hq with a | a; exact hn a; exact Nat.lt_irrefl _ (Nat.lt_of_lt_of_le hk a))).trans (h.block k hk hn)⟩
/-- what lies outside the turned blocks is as it was since an elder world -/
theorem Turns.below {B : Nat} {w0 : World} (hb : Below B w0 w) (h : Turns S w w1) (hs : ∀ x, x ∈ S → B ≤ x) (hB : B ≤ w.heap.size) : Below B w0 w1 :=
  hb.trans ⟨h.os, h.tape, h.output, h.size, fun k hk => h.block k (by omega) (fun hm => by have := hs k hm; omega)⟩
theorem Blk.turn {g : Nat} {cs : Array Value} {t : TypeId} (hg : Blk w g cs t) (h : Turns S w w1) (hn : ¬ g ∈ S) : Blk w1 g cs t := (h.block g hg.lt hn).trans hg
end
end Go.Proofs.Ytlfppmdehkhjiaa
