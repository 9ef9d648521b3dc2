/- What is proved here: a memory's two blocks, and what a call that writes into some blocks leaves alone. No condition. -/
import Derived.Test.YtpbalilnemjeeaaBlk
import Derived.Test.YtpbalilnemjeeaaMPlain
namespace Go.Proofs.Ytpbalilnemjeeaa
set_option linter.unusedVariables false
set_option linter.unusedSimpArgs false
open Go.RowKit Pm
/-- bytes as cells -/
def bv (l : List UInt8) : Array Value := (l.map fun b => Value.int .u8 (b.toNat : Int)).toArray
theorem bv_get? (l : List UInt8) (i : Nat) : (bv l)[i]? = (l[i]?).map fun b => Value.int .u8 (b.toNat : Int) := by simp [bv]
theorem bv_set (l : List UInt8) (i : Nat) (b : UInt8) : (bv l).setIfInBounds i (.int .u8 (b.toNat : Int)) = bv (l.set i b) := by
  apply Array.ext'
  simp [bv, List.map_set]
theorem bv_size (l : List UInt8) : (bv l).size = l.length := by simp [bv]
/-- w' is w but for new blocks and the blocks of S -/
structure Turns (S : List Nat) (w w' : World) : Prop where
  os : w'.os = w.os
  tape : w'.tape = w.tape
  output : w'.output = w.output
  size : w.heap.size ≤ w'.heap.size
  block : ∀ k, k < w.heap.size → ¬ k ∈ S → w'.heap[k]? = w.heap[k]?
section
variable {S : List Nat} {w w1 w2 : World}
theorem Turns.refl (S : List Nat) (w : World) : Turns S w w := ⟨rfl, rfl, rfl, Nat.le_refl _, fun _ _ _ => rfl⟩
theorem Turns.trans (h : Turns S w w1) (k : Turns S w1 w2) : Turns S w w2 :=
  ⟨k.os.trans h.os, k.tape.trans h.tape, k.output.trans h.output, Nat.le_trans h.size k.size, fun i hi hn => (k.block i (Nat.lt_of_lt_of_le hi h.size) hn).trans (h.block i hi hn)⟩
theorem Turns.more {S' : List Nat} (h : Turns S w w1) (hs : ∀ x, x ∈ S → x ∈ S' ∨ w.heap.size ≤ x) : Turns S' w w1 :=
  ⟨h.os, h.tape, h.output, h.size, fun i hi hn => h.block i hi (fun hm => by rcases hs i hm with a | a; exact hn a; omega)⟩
theorem Turns.next {S' : List Nat} (h : Turns S w w1) (k : Turns S' w1 w2) (hs : ∀ x, x ∈ S' → x ∈ S ∨ w.heap.size ≤ x) : Turns S w w2 :=
  ⟨k.os.trans h.os, k.tape.trans h.tape, k.output.trans h.output, Nat.le_trans h.size k.size, fun i hi hn => (k.block i (Nat.lt_of_lt_of_le hi h.size) (fun hm => by rcases hs i hm with a | a; exact hn a; omega)).trans (h.block i hi hn)⟩
theorem Turns.of_below (hb : Below w.heap.size w w1) : Turns S w w1 := ⟨hb.os, hb.tape, hb.output, hb.size, fun k hk _ => hb.block k hk⟩
theorem Turns.thenB (h : Turns S w w1) (hb : Below w1.heap.size w1 w2) : Turns S w w2 := h.trans (Turns.of_below hb)
theorem Turns.drew (h : Turns S w w1) : Turns S w w1.drew := h.thenB (Below.refl _ _).drew
theorem Turns.drewN (h : Turns S w w1) (n : Nat) : Turns S w (w1.drewN n) := h.thenB (below_drewN (Below.refl _ _) n)
theorem Turns.alloc (h : Turns S w w1) (o : Obj) : Turns S w (w1.alloc o) := h.thenB ((Below.refl _ _).alloc (Nat.le_refl _) o)
theorem Turns.set (h : Turns S w w1) (q i : Nat) (v : Value) (hq : q ∈ S ∨ w.heap.size ≤ q) : Turns S w (w1.setCell ⟨q, i, none⟩ v) :=
  ⟨h.os, h.tape, h.output, by simpa [World.setCell] using h.size, fun k hk hn => (Below.heap_setCell w1 ⟨q, i, none⟩ v k (fun e => by subst e; rcases hq with a | a; exact hn a; exact Nat.lt_irrefl _ (Nat.lt_of_lt_of_le hk a))).trans (h.block k hk hn)⟩
/-- what lies outside the turned blocks is as it was since an elder world -/
theorem Turns.below {B : Nat} {w0 : World} (hb : Below B w0 w) (h : Turns S w w1) (hs : ∀ x, x ∈ S → B ≤ x) (hB : B ≤ w.heap.size) : Below B w0 w1 :=
  hb.trans ⟨h.os, h.tape, h.output, h.size, fun k hk => h.block k (by omega) (fun hm => by have := hs k hm; omega)⟩
theorem Blk.turn {g : Nat} {cs : Array Value} {t : TypeId} (hg : Blk w g cs t) (h : Turns S w w1) (hn : ¬ g ∈ S) : Blk w1 g cs t := (h.block g hg.lt hn).trans hg
end
/-- a memory at block p, its bytes in block q: L is its whole room, n its length -/
structure MemAt (w : World) (p q : Nat) (L : List UInt8) (n : Nat) : Prop where
  ptr : Blk w p #[.slice (some ⟨q, 0, none⟩) n L.length] 170
  dat : Blk w q (bv L) 5
  ne : p ≠ q
  le : n ≤ L.length
  cap : L.length ≤ 134217728
  zer : ∀ i, n ≤ i → i < L.length → L[i]? = some 0
section
variable {w w1 : World} {p q n : Nat} {L : List UInt8}
theorem MemAt.keep (h : MemAt w p q L n) (hb : Below w.heap.size w w1) : MemAt w1 p q L n := ⟨h.ptr.keep hb, h.dat.keep hb, h.ne, h.le, h.cap, h.zer⟩
theorem MemAt.turn {S : List Nat} (h : MemAt w p q L n) (ht : Turns S w w1) (hp : ¬ p ∈ S) (hq : ¬ q ∈ S) : MemAt w1 p q L n := ⟨h.ptr.turn ht hp, h.dat.turn ht hq, h.ne, h.le, h.cap, h.zer⟩
theorem MemAt.drew (h : MemAt w p q L n) : MemAt w.drew p q L n := ⟨h.ptr, h.dat, h.ne, h.le, h.cap, h.zer⟩
theorem MemAt.drewN (h : MemAt w p q L n) (m : Nat) : MemAt (w.drewN m) p q L n := ⟨h.ptr, h.dat, h.ne, h.le, h.cap, h.zer⟩
theorem MemAt.alloc (h : MemAt w p q L n) (o : Obj) : MemAt (w.alloc o) p q L n := h.keep ((Below.refl _ _).alloc (Nat.le_refl _) o)
theorem MemAt.setO (h : MemAt w p q L n) (g i : Nat) (v : Value) (h1 : g ≠ p) (h2 : g ≠ q) : MemAt (w.setCell ⟨g, i, none⟩ v) p q L n := ⟨h.ptr.other g i v h1, h.dat.other g i v h2, h.ne, h.le, h.cap, h.zer⟩
theorem MemAt.ptrc (h : MemAt w p q L n) : w.cell? ⟨p, 0, none⟩ = some (.slice (some ⟨q, 0, none⟩) n L.length) := h.ptr.cell 0
theorem MemAt.ptrf (h : MemAt w p q L n) : w.frozen? ⟨p, 0, none⟩ = false := h.ptr.free 0
theorem MemAt.datf (h : MemAt w p q L n) (i : Nat) : w.frozen? ⟨q, i, none⟩ = false := h.dat.free i
theorem MemAt.datc (h : MemAt w p q L n) (i : Nat) (b : UInt8) (hb : L[i]? = some b) : w.cell? ⟨q, i, none⟩ = some (.int .u8 (b.toNat : Int)) := by
  rw [h.dat.cell, bv_get?, hb]; rfl
/-- a byte is stored inside -/
theorem MemAt.put (h : MemAt w p q L n) (i : Nat) (hi : i < n) (b : UInt8) : MemAt (w.setCell ⟨q, i, none⟩ (.int .u8 (b.toNat : Int))) p q (L.set i b) n := by
  refine ⟨by simpa using h.ptr.other q i _ (fun e => h.ne e.symm), ?_, h.ne, by simpa using h.le, by simpa using h.cap, fun j hj hl => ?_⟩
  · have := h.dat.set i (.int .u8 (b.toNat : Int))
    rwa [bv_set] at this
  · rw [List.getElem?_set, if_neg (by omega)]
    exact h.zer j hj (by simpa using hl)
/-- a span is laid inside -/
theorem MemAt.spliced (h : MemAt w p q L n) (off : Nat) (cs : List UInt8) (hf : off + cs.length ≤ n) (hp : Blk w1 p #[.slice (some ⟨q, 0, none⟩) n L.length] 170) (hq : Blk w1 q (bv (splice L off cs)) 5) : MemAt w1 p q (splice L off cs) n := by
  have hl := splice_len L off cs (by have := h.le; omega)
  refine ⟨by rw [hl]; exact hp, hq, h.ne, by rw [hl]; exact h.le, by rw [hl]; exact h.cap, fun j hj hj2 => ?_⟩
  rw [hl] at hj2
  rw [splice_out _ _ _ (by have := h.le; omega) j (by omega)]
  exact h.zer j hj hj2
end
/-- a memory that the call itself has made, and nothing old has turned -/
structure MS (w0 : World) (p q : Nat) (L : List UInt8) (n : Nat) (w : World) : Prop where
  below : Below w0.heap.size w0 w
  mem : MemAt w p q L n
  hp : w0.heap.size ≤ p
  hq : w0.heap.size ≤ q
section
variable {w0 w w1 : World} {p q n : Nat} {L : List UInt8}
theorem MS.keep (h : MS w0 p q L n w) (hb : Below w.heap.size w w1) : MS w0 p q L n w1 := ⟨Below.then h.below hb, h.mem.keep hb, h.hp, h.hq⟩
theorem MS.drew (h : MS w0 p q L n w) : MS w0 p q L n w.drew := ⟨h.below.drew, h.mem.drew, h.hp, h.hq⟩
theorem MS.drewN (h : MS w0 p q L n w) (m : Nat) : MS w0 p q L n (w.drewN m) := ⟨below_drewN h.below m, h.mem.drewN m, h.hp, h.hq⟩
theorem MS.alloc (h : MS w0 p q L n w) (o : Obj) : MS w0 p q L n (w.alloc o) := h.keep ((Below.refl _ _).alloc (Nat.le_refl _) o)
theorem MS.turned {L' : List UInt8} {n' q' : Nat} (h : MS w0 p q L n w) (ht : Turns [p, q] w w1) (hm : MemAt w1 p q' L' n') (hq' : w0.heap.size ≤ q') : MS w0 p q' L' n' w1 :=
  ⟨Turns.below h.below ht (fun x hx => by simp at hx; rcases hx with rfl | rfl; exact h.hp; exact h.hq) h.below.size, hm, h.hp, hq'⟩
end
end Go.Proofs.Ytpbalilnemjeeaa
