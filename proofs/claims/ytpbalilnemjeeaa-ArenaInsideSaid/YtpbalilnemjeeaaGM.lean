/- What is proved here: the contracts of the bytes of memory (package mem), and the blocks of the heap that a walk knows. No condition but those that each lemma names. -/
import Derived.Test.YtpbalilnemjeeaaProg
import Derived.WalkKit
import Derived.IntWalk
import Derived.Below
import Derived.BigQuiet
import Derived.Deep.QuietTactic
import Derived.Deep.LoopGhost
import Derived.Deep.DeepCutAuto
import Derived.Deep.CutBlock
import Derived.WalkSmall
import Derived.Lib.Hide
import Derived.Outline
import Derived.Deep.RegionHeld3
import Derived.Laws.BitsLemmas
import Derived.Laws.CopyOwn
import Derived.OwnWalk
import Derived.Deep.RegionHeldLaw
import Derived.WalkLawsBesides
/- What is proved here: small facts that walks use behind a contract that ends in Below. No condition. -/
set_option linter.unusedVariables false
set_option linter.unusedSimpArgs false
namespace Go.Proofs.Ytpbalilnemjeeaa
open Go.RowKit
theorem bcell {W w1 : World} (hb : Below W.heap.size W w1) :
    (∀ b o, b < W.heap.size → w1.cell? ⟨b, o, none⟩ = W.cell? ⟨b, o, none⟩) ∧ (∀ b o, b < W.heap.size → w1.frozen? ⟨b, o, none⟩ = W.frozen? ⟨b, o, none⟩) :=
  ⟨fun b o h => hb.cell (p := ⟨b, o, none⟩) h, fun b o h => hb.frozen (p := ⟨b, o, none⟩) h⟩
theorem ret_int {k : IntKind} {a b : Int} (h : a = b) : Ending.returned (.int k a) = .returned (.int k b) := by rw [h]
theorem ret_bool {a b : Bool} (h : a = b) : Ending.returned (.bool a) = .returned (.bool b) := by rw [h]
theorem below_drewN {B : Nat} {a w : World} (h : Below B a w) (n : Nat) : Below B a (w.drewN n) := ⟨h.os, h.tape, h.output, h.size, h.block⟩
theorem Below.tr {B B' : Nat} {a b c : World} (h : Below B a b) (k : Below B' b c) (hB : B ≤ B') : Below B a c := h.trans (k.mono hB)
theorem quiet_add {P : Program} {f : FuncId} {args : Array Value} {w : World} {a n : Nat} {v : Value}
    (h : Calls P f args (w.drewN (a + n)) fun e w' => e = .returned v ∧ ∃ m, w' = (w.drewN (a + n)).drewN m) :
    Calls P f args (w.drewN (a + n)) fun e w'' => e = .returned v ∧ ∃ m, w'' = w.drewN (a + m) :=
  h.mono fun _ _ ⟨he, m, hm⟩ => ⟨he, n + m, by rw [hm, World.drewN_drewN, Nat.add_assoc]⟩
theorem Below.then {w0 w w' : World} (h : Below w0.heap.size w0 w) (k : Below w.heap.size w w') : Below w0.heap.size w0 w' := h.trans (k.mono h.size)
/-- a contract that turns nothing old, told since an elder world -/
theorem since {f : FuncId} {args : Array Value} {w0 w : World} {v : Ending} (h : Calls Try.prog f args w fun e w' => e = v ∧ Below w.heap.size w w') (hB : Below w0.heap.size w0 w) :
    Calls Try.prog f args w fun e w' => e = v ∧ Below w0.heap.size w0 w' := h.mono fun _ _ ⟨he, hb⟩ => ⟨he, Below.then hB hb⟩
/-- a contract that turns nothing old keeps whatever Below keeps -/
theorem keeps {f : FuncId} {args : Array Value} {w : World} {v : Ending} {S : World → Prop} (h : Calls Try.prog f args w fun e w' => e = v ∧ Below w.heap.size w w') (hS : ∀ w', Below w.heap.size w w' → S w') :
    Calls Try.prog f args w fun e w' => e = v ∧ S w' := h.mono fun _ _ ⟨he, hb⟩ => ⟨he, hS _ hb⟩
/-- what a call behind some time still knows: nothing below the first world has turned; three cells -/
structure Three (w0 : World) (a b c : Nat) (x y z : Value) (w : World) : Prop where
  below : Below w0.heap.size w0 w
  c1 : w.cell? ⟨a, 0, none⟩ = some x
  c2 : w.cell? ⟨b, 0, none⟩ = some y
  c3 : w.cell? ⟨c, 0, none⟩ = some z
theorem Three.keep {w0 : World} {a b c : Nat} {x y z : Value} {w : World} (h : Three w0 a b c x y z w) (w' : World) (hb : Below w.heap.size w w') : Three w0 a b c x y z w' :=
  ⟨Below.then h.below hb, (hb.cell (p := ⟨a, 0, none⟩) (World.block_lt_of_cell? w _ h.c1)).trans h.c1, (hb.cell (p := ⟨b, 0, none⟩) (World.block_lt_of_cell? w _ h.c2)).trans h.c2, (hb.cell (p := ⟨c, 0, none⟩) (World.block_lt_of_cell? w _ h.c3)).trans h.c3⟩
theorem Three.drew1 {w0 : World} {a b c : Nat} {x y z : Value} {w : World} (h : Three w0 a b c x y z w) : Three w0 a b c x y z w.drew := ⟨h.below.drew, h.c1, h.c2, h.c3⟩
theorem Three.drew {w0 : World} {a b c : Nat} {x y z : Value} {w : World} (h : Three w0 a b c x y z w) (n : Nat) : Three w0 a b c x y z (w.drewN n) := ⟨below_drewN h.below n, h.c1, h.c2, h.c3⟩
end Go.Proofs.Ytpbalilnemjeeaa
/- What is proved here: a block that is known whole: its cells, its marks, and what stays of it behind a call, a draw, a store, a new block. No condition. -/
namespace Go.Proofs.Ytpbalilnemjeeaa
set_option linter.unusedVariables false
set_option linter.unusedSimpArgs false
open Go.RowKit
/-- block g holds these cells, of that type, none of them marked -/
def Blk (w : World) (g : Nat) (cs : Array Value) (t : TypeId) : Prop := w.heap[g]? = some (.cells cs t (0, 0))
section
variable {w w' : World} {g : Nat} {cs : Array Value} {t : TypeId}
theorem Blk.lt (h : Blk w g cs t) : g < w.heap.size := by
  unfold Blk at h
  exact (Array.getElem?_eq_some_iff.1 h).1
theorem Blk.cell (h : Blk w g cs t) (i : Nat) : w.cell? ⟨g, i, none⟩ = cs[i]? := by
  unfold Blk at h
  simp [World.cell?, h]
theorem Blk.free (h : Blk w g cs t) (i : Nat) : w.frozen? ⟨g, i, none⟩ = false := by
  unfold Blk at h
  simp [World.frozen?, h]
theorem Blk.below {B : Nat} (h : Blk w g cs t) (hb : Below B w w') (hg : g < B) : Blk w' g cs t := (hb.block g hg).trans h
theorem Blk.keep (h : Blk w g cs t) (hb : Below w.heap.size w w') : Blk w' g cs t := h.below hb h.lt
theorem Blk.drew (h : Blk w g cs t) : Blk w.drew g cs t := h
theorem Blk.drewN (h : Blk w g cs t) (n : Nat) : Blk (w.drewN n) g cs t := h
theorem Blk.alloc (h : Blk w g cs t) (o : Obj) : Blk (w.alloc o) g cs t := (Below.heap_alloc w o g h.lt).trans h
theorem Blk.set (h : Blk w g cs t) (i : Nat) (v : Value) : Blk (w.setCell ⟨g, i, none⟩ v) g (cs.setIfInBounds i v) t := by
  unfold Blk at h ⊢
  simp [World.setCell, Array.getElem?_modify, h]
theorem Blk.other (h : Blk w g cs t) (q i : Nat) (v : Value) (hq : q ≠ g) : Blk (w.setCell ⟨q, i, none⟩ v) g cs t := (Below.heap_setCell w ⟨q, i, none⟩ v g (fun e => hq e.symm)).trans h
end
theorem Blk.new (w : World) (cs : Array Value) (t : TypeId) : Blk (w.alloc (.cells cs t)) w.heap.size cs t := by
  show (w.heap.push _)[w.heap.size]? = _
  simp
end Go.Proofs.Ytpbalilnemjeeaa
/- What is proved here: plain facts on lists of bytes: splices, numbers laid lowest byte first. No condition. -/
namespace Go.Proofs.Ytpbalilnemjeeaa.Pm
set_option linter.unusedVariables false
set_option linter.unusedSimpArgs false
open Go
section
variable {α : Type}
theorem splice_get? (L : List α) (off : Nat) (cs : List α) (h : off + cs.length ≤ L.length) (i : Nat) :
    (splice L off cs)[i]? = if off ≤ i ∧ i < off + cs.length then cs[i - off]? else L[i]? := by
  unfold splice
  by_cases h1 : i < off
  · rw [List.getElem?_append_left (by simp; omega), List.getElem?_take, if_pos h1, if_neg (by omega)]
  · rw [List.getElem?_append_right (by simp; omega)]
    have e : i - (L.take off).length = i - off := by simp; omega
    rw [e]
    by_cases h2 : i < off + cs.length
    · rw [List.getElem?_append_left (by omega), if_pos ⟨by omega, h2⟩]
    · rw [List.getElem?_append_right (by omega), List.getElem?_drop, if_neg (by omega)]
      congr 1; omega
theorem splice_len (L : List α) (off : Nat) (cs : List α) (h : off + cs.length ≤ L.length) : (splice L off cs).length = L.length := length_splice L off cs h
theorem splice_in (L : List α) (off : Nat) (cs : List α) (h : off + cs.length ≤ L.length) (i : Nat) (h1 : off ≤ i) (h2 : i < off + cs.length) : (splice L off cs)[i]? = cs[i - off]? := by
  rw [splice_get? L off cs h, if_pos ⟨h1, h2⟩]
theorem splice_out (L : List α) (off : Nat) (cs : List α) (h : off + cs.length ≤ L.length) (i : Nat) (h1 : i < off ∨ off + cs.length ≤ i) : (splice L off cs)[i]? = L[i]? := by
  rw [splice_get? L off cs h, if_neg (by omega)]
theorem splice_nil (L : List α) (off : Nat) : splice L off [] = L := by simp [splice]
theorem splice_take_step (L : List α) (off : Nat) (cs : List α) (k : Nat) (c : α) (h : off + cs.length ≤ L.length) (hc : cs[k]? = some c) :
    (splice L off (cs.take k)).set (off + k) c = splice L off (cs.take (k + 1)) := by
  have hk : k < cs.length := (List.getElem?_eq_some_iff.1 hc).1
  have l1 : (cs.take k).length = k := by simp; omega
  have l2 : (cs.take (k + 1)).length = k + 1 := by simp; omega
  apply List.ext_getElem?
  intro i
  rw [List.getElem?_set, splice_len _ _ _ (by rw [l1]; omega), splice_get? _ _ _ (by rw [l1]; omega), splice_get? _ _ _ (by rw [l2]; omega), l1, l2]
  by_cases e : off + k = i
  · subst e
    rw [if_pos rfl, if_pos (by omega), if_pos (by omega), List.getElem?_take, if_pos (by omega), show off + k - off = k by omega, hc]
  · rw [if_neg e]
    by_cases e2 : off ≤ i ∧ i < off + k
    · rw [if_pos e2, if_pos (by omega), List.getElem?_take, List.getElem?_take, if_pos (by omega), if_pos (by omega)]
    · rw [if_neg e2, if_neg (by omega)]
theorem splice_splice_next (L : List α) (off : Nat) (a b : List α) (h : off + a.length + b.length ≤ L.length) : splice (splice L off a) (off + a.length) b = splice L off (a ++ b) := by
  apply List.ext_getElem?
  intro i
  rw [splice_get? _ _ _ (by rw [splice_len _ _ _ (by omega)]; omega), splice_get? _ _ _ (by omega), splice_get? _ _ _ (by simp; omega)]
  simp only [List.length_append]
  by_cases h1 : off + a.length ≤ i ∧ i < off + a.length + b.length
  · rw [if_pos h1, if_pos (by omega), List.getElem?_append_right (by omega)]; congr 1; omega
  · rw [if_neg h1]
    by_cases h2 : off ≤ i ∧ i < off + a.length
    · rw [if_pos h2, if_pos (by omega), List.getElem?_append_left (by omega)]
    · rw [if_neg h2, if_neg (by omega)]
theorem splice_map {β : Type} (f : α → β) (L : List α) (off : Nat) (cs : List α) : (splice L off cs).map f = splice (L.map f) off (cs.map f) := by
  simp [splice, List.map_take, List.map_drop]
theorem splice_whole (L cs : List α) (h : cs.length = L.length) : splice L 0 cs = cs := by simp [splice, h]
end
/-- the number whose bytes these are, the lowest first -/
def leN : List UInt8 → Nat
  | [] => 0
  | b :: t => b.toNat + 256 * leN t
/-- the low w bytes of v, the lowest first -/
def leB : Nat → Nat → List UInt8
  | 0, _ => []
  | w + 1, v => UInt8.ofNat (v % 256) :: leB w (v / 256)
theorem leB_len (w v : Nat) : (leB w v).length = w := by
  induction w generalizing v with
  | zero => rfl
  | succ w ih => simp [leB, ih]
theorem leN_lt (l : List UInt8) : leN l < 256 ^ l.length := by
  induction l with
  | nil => simp [leN]
  | cons b t ih =>
    have hb : b.toNat < 256 := b.toNat_lt
    simp only [leN, List.length_cons, Nat.pow_succ]
    omega
theorem leN_append (a b : List UInt8) : leN (a ++ b) = leN a + 256 ^ a.length * leN b := by
  induction a with
  | nil => simp [leN]
  | cons x t ih =>
    simp only [List.cons_append, leN, ih, List.length_cons, Nat.pow_succ, Nat.mul_add]
    rw [Nat.mul_comm (256 ^ t.length) 256, Nat.mul_assoc]; omega
theorem leN_take_succ (l : List UInt8) (k : Nat) (b : UInt8) (h : l[k]? = some b) : leN (l.take (k + 1)) = leN (l.take k) + 256 ^ k * b.toNat := by
  have hk : k < l.length := (List.getElem?_eq_some_iff.1 h).1
  have e : l.take (k + 1) = l.take k ++ [b] := by rw [List.take_add_one, h]; rfl
  rw [e, leN_append]
  simp only [leN, List.length_take, Nat.min_eq_left (Nat.le_of_lt hk), Nat.mul_zero, Nat.add_zero]
theorem leN_leB (w v : Nat) : leN (leB w v) = v % 256 ^ w := by
  induction w generalizing v with
  | zero => simp [leB, leN, Nat.mod_one]
  | succ w ih =>
    have e : (UInt8.ofNat (v % 256)).toNat = v % 256 := by simp
    simp only [leB, leN, ih, e, Nat.pow_succ]
    rw [Nat.mul_comm (256 ^ w) 256, Nat.mod_mul]
theorem leB_get? (w v k : Nat) (h : k < w) : (leB w v)[k]? = some (UInt8.ofNat (v / 256 ^ k % 256)) := by
  induction w generalizing v k with
  | zero => omega
  | succ w ih =>
    cases k with
    | zero => simp [leB]
    | succ k =>
      simp only [leB, List.getElem?_cons_succ]
      rw [ih _ _ (by omega), Nat.pow_succ, Nat.div_div_eq_div_mul, Nat.mul_comm 256]
theorem wrap_u64 (n : Int) : IntKind.u64.wrap n = n % 18446744073709551616 := by simp [IntKind.wrap, IntKind.bits, IntKind.signed]
theorem wraps_u64 (n : Int) (h0 : 0 ≤ n) (h1 : n < 2 ^ 64) : IntKind.u64.wrap n = n := by rw [wrap_u64]; omega
theorem pow_256 (j : Nat) : 256 ^ j = 2 ^ (8 * j) := by rw [Nat.pow_mul]
theorem pow_mono {j m : Nat} (h : j ≤ m) : 2 ^ j ≤ 2 ^ m := Nat.pow_le_pow_right (by decide) h
theorem splice_mid {α : Type} (L : List α) (off : Nat) (cs : List α) (h : off + cs.length ≤ L.length) : ((splice L off cs).drop off).take cs.length = cs := by
  unfold splice
  have e : (L.take off).length = off := by simp; omega
  rw [List.drop_append, List.drop_of_length_le (by omega), List.nil_append, e, Nat.sub_self, List.drop_zero, List.take_append_of_le_length (Nat.le_refl _), List.take_length]
/-- a byte of a number that was cut -/
theorem cut_byte (v k t : Nat) (h : t < k) : v % 256 ^ k / 256 ^ t % 256 = v / 256 ^ t % 256 := by
  obtain ⟨m, rfl⟩ : ∃ m, k = t + 1 + m := ⟨k - t - 1, by omega⟩
  have e : 256 ^ (t + 1 + m) = 256 ^ t * (256 * 256 ^ m) := by rw [Nat.pow_add, Nat.pow_succ, Nat.mul_assoc]
  rw [e, Nat.mod_mul_right_div_self, Nat.mod_mul_right_mod]
theorem byte_at (v j : Nat) : (v : Int) / 2 ^ (8 * j) % 256 = ((UInt8.ofNat (v / 256 ^ j % 256)).toNat : Int) := by
  have e : (UInt8.ofNat (v / 256 ^ j % 256)).toNat = v / 256 ^ j % 256 := by simp
  rw [e, pow_256]
  simp
theorem byte_cut (v k t : Nat) (h : t < k) (hv : v < 2 ^ 64) : (v : Int) % 256 ^ k / 2 ^ (8 * t) % 256 = ((v / 256 ^ t % 256 : Nat) : Int) := by
  rw [← cut_byte v k t h, pow_256 t]
  simp
/-- a byte of a number, cut out and taken for an int -/
theorem end_byte (v k t : Nat) (X : Int) (hX : X = ((v % 256 ^ k : Nat) : Int)) (h : t < k) : ((v : Int) / 256 ^ t % 256 == IntKind.i64.wrap ((X / 2 ^ (8 * (t : Int)).toNat).tmod 256)) = true := by
  subst hX
  rw [show (8 * (t : Int)).toNat = 8 * t by omega]
  have e : ((v % 256 ^ k : Nat) : Int) / 2 ^ (8 * t) = ((v % 256 ^ k / 256 ^ t : Nat) : Int) := by rw [pow_256 t]; simp
  have e2 : ((v % 256 ^ k / 256 ^ t : Nat) : Int).tmod 256 = ((v % 256 ^ k / 256 ^ t % 256 : Nat) : Int) := by
    rw [Int.tmod_eq_emod_of_nonneg (Int.natCast_nonneg _)]; simp
  rw [e, e2, cut_byte v k t h, IntKind.wrap_i64]
  have e3 : (v : Int) / 256 ^ t % 256 = ((v / 256 ^ t % 256 : Nat) : Int) := by simp
  rw [e3, beq_iff_eq]
  omega
/-- a number is made of its halves -/
theorem leN_halves (L : List UInt8) (off h : Nat) (hl : off + 2 * h ≤ L.length) : leN ((L.drop off).take (2 * h)) = leN ((L.drop off).take h) + 256 ^ h * leN ((L.drop (off + h)).take h) := by
  have e : (L.drop off).take (2 * h) = (L.drop off).take h ++ (L.drop (off + h)).take h := by
    rw [show 2 * h = h + h by omega, List.take_add, List.drop_drop]
  have e2 : ((L.drop off).take h).length = h := by rw [List.length_take, List.length_drop]; omega
  rw [e, leN_append, e2]
theorem leN_take_lt (L : List UInt8) (h : Nat) : leN (L.take h) < 256 ^ h := by
  have h1 := leN_lt (L.take h)
  have h2 : (L.take h).length ≤ h := List.length_take_le _ _
  exact Nat.lt_of_lt_of_le h1 (Nat.pow_le_pow_right (by decide) h2)
theorem leN_one (L : List UInt8) (off : Nat) (b : UInt8) (h : L[off]? = some b) : leN ((L.drop off).take 1) = b.toNat := by
  have hl := (List.getElem?_eq_some_iff.1 h)
  obtain ⟨hlt, he⟩ := hl
  rw [List.drop_eq_getElem_cons hlt, he]
  simp [leN]
/-- the next byte is laid over a number of j bytes -/
theorem or_step (x b j : Nat) (hx : x < 256 ^ j) (hb : b < 256) (hj : j < 8) : bits .or .u64 (x : Int) (IntKind.u64.wrap ((b : Int) * 2 ^ (8 * j))) = ((x + 256 ^ j * b : Nat) : Int) := by
  have hx2 : x < 2 ^ (8 * j) := by rw [← pow_256]; exact hx
  have hx3 : x < 2 ^ 64 := Nat.lt_of_lt_of_le hx2 (pow_mono (by omega))
  have hs : b * 2 ^ (8 * j) < 2 ^ 64 := by
    have h1 : b * 2 ^ (8 * j) < 2 ^ 8 * 2 ^ (8 * j) := Nat.mul_lt_mul_of_pos_right hb (Nat.pow_pos (by decide))
    rw [← Nat.pow_add] at h1
    exact Nat.lt_of_lt_of_le h1 (pow_mono (by omega))
  have e : (b : Int) * 2 ^ (8 * j) = ((b * 2 ^ (8 * j) : Nat) : Int) := by simp
  rw [e, wraps_u64 _ (by omega) (by exact_mod_cast hs), (bits_nat .u64 64 (by decide) wraps_u64 x (b * 2 ^ (8 * j)) hx3 hs).2]
  have h2 := Nat.shiftLeft_add_eq_or_of_lt hx2 b
  rw [Nat.shiftLeft_eq] at h2
  rw [Nat.or_comm, ← h2, pow_256, Nat.mul_comm (2 ^ (8 * j)) b, Nat.add_comm]
end Go.Proofs.Ytpbalilnemjeeaa.Pm
/- What is proved here: a memory's two blocks, and what a call that writes into some blocks leaves alone. No condition. -/
namespace Go.Proofs.Ytpbalilnemjeeaa
set_option linter.unusedVariables false
set_option linter.unusedSimpArgs false
open Go.RowKit Pm
/-- bytes as cells -/
def bv (l : List UInt8) : Array Value := (l.map fun b => Value.int .u8 (b.toNat : Int)).toArray
theorem bv_get? (l : List UInt8) (i : Nat) : (bv l)[i]? = (l[i]?).map fun b => Value.int .u8 (b.toNat : Int) := by simp [bv]
theorem bv_set (l : List UInt8) (i : Nat) (b : UInt8) : (bv l).setIfInBounds i (.int .u8 (b.toNat : Int)) = bv (l.set i b) := by
  apply Array.ext'
  simp [bv, List.map_set]
theorem bv_size (l : List UInt8) : (bv l).size = l.length := by simp [bv]
/-- w' is w but for new blocks and the blocks of S -/
structure Turns (S : List Nat) (w w' : World) : Prop where
  os : w'.os = w.os
  tape : w'.tape = w.tape
  output : w'.output = w.output
  size : w.heap.size ≤ w'.heap.size
  block : ∀ k, k < w.heap.size → ¬ k ∈ S → w'.heap[k]? = w.heap[k]?
section
variable {S : List Nat} {w w1 w2 : World}
theorem Turns.refl (S : List Nat) (w : World) : Turns S w w := ⟨rfl, rfl, rfl, Nat.le_refl _, fun _ _ _ => rfl⟩
theorem Turns.trans (h : Turns S w w1) (k : Turns S w1 w2) : Turns S w w2 :=
  ⟨k.os.trans h.os, k.tape.trans h.tape, k.output.trans h.output, Nat.le_trans h.size k.size, fun i hi hn => (k.block i (Nat.lt_of_lt_of_le hi h.size) hn).trans (h.block i hi hn)⟩
theorem Turns.more {S' : List Nat} (h : Turns S w w1) (hs : ∀ x, x ∈ S → x ∈ S' ∨ w.heap.size ≤ x) : Turns S' w w1 :=
  ⟨h.os, h.tape, h.output, h.size, fun i hi hn => h.block i hi (fun hm => by rcases hs i hm with a | a; exact hn a; omega)⟩
theorem Turns.next {S' : List Nat} (h : Turns S w w1) (k : Turns S' w1 w2) (hs : ∀ x, x ∈ S' → x ∈ S ∨ w.heap.size ≤ x) : Turns S w w2 :=
  ⟨k.os.trans h.os, k.tape.trans h.tape, k.output.trans h.output, Nat.le_trans h.size k.size, fun i hi hn => (k.block i (Nat.lt_of_lt_of_le hi h.size) (fun hm => by rcases hs i hm with a | a; exact hn a; omega)).trans (h.block i hi hn)⟩
theorem Turns.of_below (hb : Below w.heap.size w w1) : Turns S w w1 := ⟨hb.os, hb.tape, hb.output, hb.size, fun k hk _ => hb.block k hk⟩
theorem Turns.thenB (h : Turns S w w1) (hb : Below w1.heap.size w1 w2) : Turns S w w2 := h.trans (Turns.of_below hb)
theorem Turns.drew (h : Turns S w w1) : Turns S w w1.drew := h.thenB (Below.refl _ _).drew
theorem Turns.drewN (h : Turns S w w1) (n : Nat) : Turns S w (w1.drewN n) := h.thenB (below_drewN (Below.refl _ _) n)
theorem Turns.alloc (h : Turns S w w1) (o : Obj) : Turns S w (w1.alloc o) := h.thenB ((Below.refl _ _).alloc (Nat.le_refl _) o)
theorem Turns.set (h : Turns S w w1) (q i : Nat) (v : Value) (hq : q ∈ S ∨ w.heap.size ≤ q) : Turns S w (w1.setCell ⟨q, i, none⟩ v) :=
  ⟨h.os, h.tape, h.output, by simpa [World.setCell] using h.size, fun k hk hn => (Below.heap_setCell w1 ⟨q, i, none⟩ v k (fun e => by subst e; rcases hq with a | a; exact hn a; exact Nat.lt_irrefl _ (Nat.lt_of_lt_of_le hk a))).trans (h.block k hk hn)⟩
/-- what lies outside the turned blocks is as it was since an elder world -/
theorem Turns.below {B : Nat} {w0 : World} (hb : Below B w0 w) (h : Turns S w w1) (hs : ∀ x, x ∈ S → B ≤ x) (hB : B ≤ w.heap.size) : Below B w0 w1 :=
  hb.trans ⟨h.os, h.tape, h.output, h.size, fun k hk => h.block k (by omega) (fun hm => by have := hs k hm; omega)⟩
theorem Blk.turn {g : Nat} {cs : Array Value} {t : TypeId} (hg : Blk w g cs t) (h : Turns S w w1) (hn : ¬ g ∈ S) : Blk w1 g cs t := (h.block g hg.lt hn).trans hg
end
/-- a memory at block p, its bytes in block q: L is its whole room, n its length -/
structure MemAt (w : World) (p q : Nat) (L : List UInt8) (n : Nat) : Prop where
  ptr : Blk w p #[.slice (some ⟨q, 0, none⟩) n L.length] 170
  dat : Blk w q (bv L) 5
  ne : p ≠ q
  le : n ≤ L.length
  cap : L.length ≤ 134217728
  zer : ∀ i, n ≤ i → i < L.length → L[i]? = some 0
section
variable {w w1 : World} {p q n : Nat} {L : List UInt8}
theorem MemAt.keep (h : MemAt w p q L n) (hb : Below w.heap.size w w1) : MemAt w1 p q L n := ⟨h.ptr.keep hb, h.dat.keep hb, h.ne, h.le, h.cap, h.zer⟩
theorem MemAt.turn {S : List Nat} (h : MemAt w p q L n) (ht : Turns S w w1) (hp : ¬ p ∈ S) (hq : ¬ q ∈ S) : MemAt w1 p q L n := ⟨h.ptr.turn ht hp, h.dat.turn ht hq, h.ne, h.le, h.cap, h.zer⟩
theorem MemAt.drew (h : MemAt w p q L n) : MemAt w.drew p q L n := ⟨h.ptr, h.dat, h.ne, h.le, h.cap, h.zer⟩
theorem MemAt.drewN (h : MemAt w p q L n) (m : Nat) : MemAt (w.drewN m) p q L n := ⟨h.ptr, h.dat, h.ne, h.le, h.cap, h.zer⟩
theorem MemAt.alloc (h : MemAt w p q L n) (o : Obj) : MemAt (w.alloc o) p q L n := h.keep ((Below.refl _ _).alloc (Nat.le_refl _) o)
theorem MemAt.setO (h : MemAt w p q L n) (g i : Nat) (v : Value) (h1 : g ≠ p) (h2 : g ≠ q) : MemAt (w.setCell ⟨g, i, none⟩ v) p q L n := ⟨h.ptr.other g i v h1, h.dat.other g i v h2, h.ne, h.le, h.cap, h.zer⟩
theorem MemAt.ptrc (h : MemAt w p q L n) : w.cell? ⟨p, 0, none⟩ = some (.slice (some ⟨q, 0, none⟩) n L.length) := h.ptr.cell 0
theorem MemAt.ptrf (h : MemAt w p q L n) : w.frozen? ⟨p, 0, none⟩ = false := h.ptr.free 0
theorem MemAt.datf (h : MemAt w p q L n) (i : Nat) : w.frozen? ⟨q, i, none⟩ = false := h.dat.free i
theorem MemAt.datc (h : MemAt w p q L n) (i : Nat) (b : UInt8) (hb : L[i]? = some b) : w.cell? ⟨q, i, none⟩ = some (.int .u8 (b.toNat : Int)) := by
  rw [h.dat.cell, bv_get?, hb]; rfl
/-- a byte is stored inside -/
theorem MemAt.put (h : MemAt w p q L n) (i : Nat) (hi : i < n) (b : UInt8) : MemAt (w.setCell ⟨q, i, none⟩ (.int .u8 (b.toNat : Int))) p q (L.set i b) n := by
  refine ⟨by simpa using h.ptr.other q i _ (fun e => h.ne e.symm), ?_, h.ne, by simpa using h.le, by simpa using h.cap, fun j hj hl => ?_⟩
  · have := h.dat.set i (.int .u8 (b.toNat : Int))
    rwa [bv_set] at this
  · rw [List.getElem?_set, if_neg (by omega)]
    exact h.zer j hj (by simpa using hl)
/-- a span is laid inside -/
theorem MemAt.spliced (h : MemAt w p q L n) (off : Nat) (cs : List UInt8) (hf : off + cs.length ≤ n) (hp : Blk w1 p #[.slice (some ⟨q, 0, none⟩) n L.length] 170) (hq : Blk w1 q (bv (splice L off cs)) 5) : MemAt w1 p q (splice L off cs) n := by
  have hl := splice_len L off cs (by have := h.le; omega)
  refine ⟨by rw [hl]; exact hp, hq, h.ne, by rw [hl]; exact h.le, by rw [hl]; exact h.cap, fun j hj hj2 => ?_⟩
  rw [hl] at hj2
  rw [splice_out _ _ _ (by have := h.le; omega) j (by omega)]
  exact h.zer j hj hj2
end
/-- a memory that the call itself has made, and nothing old has turned -/
structure MS (w0 : World) (p q : Nat) (L : List UInt8) (n : Nat) (w : World) : Prop where
  below : Below w0.heap.size w0 w
  mem : MemAt w p q L n
  hp : w0.heap.size ≤ p
  hq : w0.heap.size ≤ q
section
variable {w0 w w1 : World} {p q n : Nat} {L : List UInt8}
theorem MS.keep (h : MS w0 p q L n w) (hb : Below w.heap.size w w1) : MS w0 p q L n w1 := ⟨Below.then h.below hb, h.mem.keep hb, h.hp, h.hq⟩
theorem MS.drew (h : MS w0 p q L n w) : MS w0 p q L n w.drew := ⟨h.below.drew, h.mem.drew, h.hp, h.hq⟩
theorem MS.drewN (h : MS w0 p q L n w) (m : Nat) : MS w0 p q L n (w.drewN m) := ⟨below_drewN h.below m, h.mem.drewN m, h.hp, h.hq⟩
theorem MS.alloc (h : MS w0 p q L n w) (o : Obj) : MS w0 p q L n (w.alloc o) := h.keep ((Below.refl _ _).alloc (Nat.le_refl _) o)
theorem MS.turned {L' : List UInt8} {n' q' : Nat} (h : MS w0 p q L n w) (ht : Turns [p, q] w w1) (hm : MemAt w1 p q' L' n') (hq' : w0.heap.size ≤ q') : MS w0 p q' L' n' w1 :=
  ⟨Turns.below h.below ht (fun x hx => by simp at hx; rcases hx with rfl | rfl; exact h.hp; exact h.hq) h.below.size, hm, h.hp, hq'⟩
end
end Go.Proofs.Ytpbalilnemjeeaa
/- What is proved here: make, copy and clear of bytes, as steps of a walk. No condition. -/
namespace Go.Proofs.Ytpbalilnemjeeaa
set_option linter.unusedVariables false
set_option linter.unusedSimpArgs false
open Go.RowKit Pm
theorem infoU8 : (Try.prog.info? 5).map (fun i => (i.zero, i.size, i.bytes)) = some (some (.int .u8 0), 1, 1) := by kernel_rfl
theorem infoU8s : (Try.prog.info? 5).map (·.size) = some 1 := by kernel_rfl
theorem made_zero (n : Nat) : madeCells #[Value.int .u8 0] n = bv (List.replicate n 0) := by
  apply Array.ext
  · simp [madeCells, bv]
  · intro i h1 h2
    simp [madeCells, bv, Nat.mod_one]
theorem zero_cells (n : Nat) : Builtin.zeroCells #[Value.int .u8 0] n = bv (List.replicate n 0) := by
  apply Array.ext
  · simp [Builtin.zeroCells, bv]
  · intro i h1 h2
    simp [Builtin.zeroCells, bv, Nat.mod_one]
theorem bv_list (l : List UInt8) : (bv l).toList = l.map fun b => Value.int .u8 (b.toNat : Int) := by simp [bv]
theorem bv_one (l : List UInt8) : ∀ v ∈ (bv l).toList, v.oneCell' = true := by
  intro v hv
  rw [bv_list] at hv
  obtain ⟨b, _, rfl⟩ := List.mem_map.1 hv
  rfl
theorem bv_splice (D : List UInt8) (off : Nat) (cs : List UInt8) : ((bv D).toList.take off ++ (bv cs).toList ++ (bv D).toList.drop (off + (bv cs).toList.length)).toArray = bv (splice D off cs) := by
  apply Array.ext'
  simp only [bv_list, splice, List.map_append, List.map_take, List.map_drop, List.length_map]
  simp
theorem turns_setRow (w : World) (g : Nat) (cs : Array Value) : Turns [g] w (w.setRow g cs) :=
  ⟨rfl, rfl, rfl, by simp [World.setRow], fun k hk hn => setRow_other w g k cs (fun e => hn (by simp [e]))⟩
section
variable {w : World} {ops : Array Oper} {rest : List Oper} {o : Oper} {a : Act} {Q : Exit → Act → World → Prop}
/-- make([]byte, l, c) -/
theorem wpList_make_bytes (hg : o.guard = none) (l c : Operand) (hop : o.op = Op.makeSlice 131 l c) (L C : Nat) (hl : a.eval l = .int .i64 (L : Int)) (hc : a.eval c = .int .i64 (C : Int)) (h1 : L ≤ C) (h2 : C ≤ 281474976710656)
    (h : wpList Try.prog ops Q rest (a.put o.dst (.slice (some ⟨w.heap.size, 0, none⟩) L C)) (w.alloc (.cells (bv (List.replicate C 0)) 5))) : wpList Try.prog ops Q (o :: rest) a w := by
  obtain ⟨i0, hi, hz0, hz1, hz2⟩ := info_parts infoU8
  refine wpList_plain hg fun K hK' => ?_
  have hr := run_make (P := Try.prog) w 131 5 i0 (.int .u8 0) Try.underlying131 hi hz0 .i64 .i64 L C (by omega) (by omega) (by rw [hz2]; omega) (by omega)
  rw [hz1, Nat.mul_one] at hr
  have e : madeCells (Value.int .u8 0).cells (C : Int).toNat = bv (List.replicate C 0) := by rw [Int.toNat_natCast]; exact made_zero _
  rw [e, Int.toNat_natCast, Int.toNat_natCast] at hr
  unfold Oper.wp
  simp [execOp, hop, hl, hc, hr, Result.andThen]
  exact hK' _ _ h
/-- copy(dst, src), dst in a block of bytes -/
theorem wpList_copy_bytes (hgd : o.guard = none) (d s : Operand) (ho : o.op = .call { callee := .builtin .copy, args := #[d, s], argTypes := #[131, 131] })
    (dp sp : Option Addr) (dLen dCap sLen sCap : Nat) (hd : a.eval d = .slice dp dLen dCap) (hs : a.eval s = .slice sp sLen sCap)
    (g off : Nat) (D cs : List UInt8) (hg : Blk w g (bv D) 5) (hn : cs.length = Nat.min sLen dLen)
    (ad : Addr) (hdp : 0 < cs.length → dp = some ⟨g, off, none⟩) (hsp : 0 < cs.length → sp = some ad) (hsrc : ∀ j b, cs[j]? = some b → w.cell? (ad.add j) = some (.int .u8 (b.toNat : Int)))
    (hfit : off + cs.length ≤ D.length)
    (h : ∀ w', Blk w' g (bv (splice D off cs)) 5 → Turns [g] w w' → wpList Try.prog ops Q rest (a.put o.dst (goInt cs.length)) w') : wpList Try.prog ops Q (o :: rest) a w := by
  by_cases h0 : cs.length = 0
  · obtain rfl : cs = [] := List.eq_nil_of_length_eq_zero h0
    refine wpList_copy_nothing hgd d s 131 131 ho 5 Try.underlying131 infoU8s dp sp dLen dCap sLen sCap hd hs (by simpa using hn.symm) ?_
    exact h w (by rw [splice_nil]; exact hg) (Turns.refl _ _)
  · obtain rfl := hdp (by omega)
    obtain rfl := hsp (by omega)
    have hl : (bv cs).toList.length = cs.length := by simp [bv]
    refine wpList_copy_own hgd d s 131 131 ho 5 Try.underlying131 infoU8s g off dLen dCap ad sLen sCap hd hs (bv D) 5 hg (bv cs).toList (by rw [hl]; exact hn) ?_ (by rw [hl, bv_size]; exact hfit) (bv_one cs) ?_
    · intro j v hv
      rw [bv_list, List.getElem?_map] at hv
      obtain ⟨b, hb, rfl⟩ := Option.map_eq_some_iff.1 hv
      exact hsrc j b hb
    · have e := bv_splice D off cs
      rw [List.append_assoc] at e
      rw [e, hl]
      refine h _ ?_ (turns_setRow _ _ _)
      exact setRow_heap w g (bv D) _ 5 _ hg
/-- the same as one step of a region that draws its order -/
theorem step_copy_bytes {K : Act → World → Prop} {E : Prop} (hgd : o.guard = none) (d s : Operand) (ho : o.op = .call { callee := .builtin .copy, args := #[d, s], argTypes := #[131, 131] })
    (dp sp : Option Addr) (dLen dCap sLen sCap : Nat) (hd : a.eval d = .slice dp dLen dCap) (hs : a.eval s = .slice sp sLen sCap)
    (g off : Nat) (D cs : List UInt8) (hg : Blk w g (bv D) 5) (hn : cs.length = Nat.min sLen dLen)
    (ad : Addr) (hdp : 0 < cs.length → dp = some ⟨g, off, none⟩) (hsp : 0 < cs.length → sp = some ad) (hsrc : ∀ j b, cs[j]? = some b → w.cell? (ad.add j) = some (.int .u8 (b.toNat : Int)))
    (hfit : off + cs.length ≤ D.length)
    (h : ∀ w', Blk w' g (bv (splice D off cs)) 5 → Turns [g] w w' → K (a.put o.dst (goInt cs.length)) w') : if Region.wanted o (yielded ops a.tmps) = true then Oper.wp Try.prog o a w K Q else E := by
  have hw : Region.wanted o (yielded ops a.tmps) = true := by simp [Region.wanted, hgd]
  rw [if_pos hw]
  by_cases h0 : cs.length = 0
  · obtain rfl : cs = [] := List.eq_nil_of_length_eq_zero h0
    have hrun := run_copy_none (P := Try.prog) w 131 131 o.type 5 dp sp dLen dCap sLen sCap Try.underlying131 infoU8s (by simpa using hn.symm)
    unfold Oper.wp
    simp [execOp, ho, resolve, invoke, builtin, hd, hs, hrun, Result.andThen]
    exact h w (by rw [splice_nil]; exact hg) (Turns.refl _ _)
  · obtain rfl := hdp (by omega)
    obtain rfl := hsp (by omega)
    have hl : (bv cs).toList.length = cs.length := by simp [bv]
    have hrun := run_copy_row (P := Try.prog) w 131 131 o.type 5 g off dLen dCap ad sLen sCap (bv D) 5 (bv cs).toList Try.underlying131 infoU8s hg (by rw [hl]; exact hn) ?_ (by rw [hl, bv_size]; exact hfit) (bv_one cs)
    · have e := bv_splice D off cs
      rw [e, hl] at hrun
      unfold Oper.wp
      simp only [execOp, ho, resolve, invoke, builtin, List.map_toArray, List.map_cons, List.map_nil, hd, hs]
      simp [hrun, Result.andThen]
      exact h _ (setRow_heap w g (bv D) _ 5 _ hg) (turns_setRow _ _ _)
    · intro j v hv
      rw [bv_list, List.getElem?_map] at hv
      obtain ⟨b, hb, rfl⟩ := Option.map_eq_some_iff.1 hv
      exact hsrc j b hb
theorem run_clear_bytes (g off n cap : Nat) (ty : TypeId) (D : List UInt8) (hg : Blk w g (bv D) 5) (hn : 0 < n) (hfit : off + n ≤ D.length) :
    (Builtin.clear_ #[131] ty #[.slice (some ⟨g, off, none⟩) n cap]).run Try.prog w = .ok (.tuple #[]) (w.setRow g (bv (splice D off (List.replicate n 0)))) := by
  obtain ⟨i0, hi, hz0, hz1, hz2⟩ := info_parts infoU8
  have hl : (bv (List.replicate n (0 : UInt8))).toList.length = n := by simp [bv]
  have hst := run_storeCells_at Try.prog g off 5 (bv (List.replicate n 0)).toList 0 (bv D) w hg (by rw [hl, bv_size]; omega) (bv_one _)
  have hz : (zeroValue 5).run Try.prog w = .ok (.int .u8 0) w := by kernel_rfl
  have e := bv_splice D off (List.replicate n 0)
  rw [Nat.add_zero] at hst
  rw [e] at hst
  obtain ⟨m, rfl⟩ : ∃ m, n = m + 1 := ⟨n - 1, by omega⟩
  have e2 : Builtin.zeroCells (Value.int .u8 0).cells (m + 1) = bv (List.replicate (m + 1) 0) := zero_cells _
  simp [Builtin.clear_, run_underlying Try.underlying131, hz, e2, hst]
theorem run_clear_none (A : Option Addr) (cap : Nat) (ty : TypeId) : (Builtin.clear_ #[131] ty #[.slice A 0 cap]).run Try.prog w = .ok (.tuple #[]) w := by
  cases A <;> simp [Builtin.clear_, run_underlying Try.underlying131]
/-- clear(span), the span in a block of bytes -/
theorem wpList_clear_bytes (hgd : o.guard = none) (x : Operand) (ho : o.op = .call { callee := .builtin .clear, args := #[x], argTypes := #[131] })
    (A : Option Addr) (n cap : Nat) (hx : a.eval x = .slice A n cap) (g off : Nat) (D : List UInt8) (hg : Blk w g (bv D) 5) (hA : 0 < n → A = some ⟨g, off, none⟩) (hfit : off + n ≤ D.length)
    (h : ∀ w', Blk w' g (bv (splice D off (List.replicate n 0))) 5 → Turns [g] w w' → wpList Try.prog ops Q rest (a.put o.dst (.tuple #[])) w') : wpList Try.prog ops Q (o :: rest) a w := by
  refine wpList_plain hgd fun K hK => ?_
  by_cases h0 : n = 0
  · subst h0
    have hr := run_clear_none (w := w) A cap o.type
    unfold Oper.wp
    simp [execOp, ho, resolve, invoke, builtin, hx, hr, Result.andThen]
    exact hK _ _ (h w (by simpa [splice_nil] using hg) (Turns.refl _ _))
  · obtain rfl := hA (by omega)
    have hr := run_clear_bytes (w := w) g off n cap o.type D hg (by omega) hfit
    unfold Oper.wp
    simp [execOp, ho, resolve, invoke, builtin, hx, hr, Result.andThen]
    exact hK _ _ (h _ (setRow_heap w g (bv D) _ 5 _ hg) (turns_setRow _ _ _))
end
end Go.Proofs.Ytpbalilnemjeeaa
/- What is proved here: the contracts of a memory's New, Len, inside, number and Read. Conditions: a memory that is there. -/
namespace Go.Proofs.Ytpbalilnemjeeaa
set_option linter.unusedVariables false
set_option linter.unusedSimpArgs false
open Go.RowKit Pm
/-- does the span (off, k) lie inside n bytes? -/
def insF (n : Nat) (off k : Int) : Bool := decide (0 ≤ off) && decide (0 ≤ k) && decide (k ≤ n) && decide (off ≤ n - k)
theorem insF_iff (n : Nat) (off k : Int) : insF n off k = true ↔ 0 ≤ off ∧ 0 ≤ k ∧ off + k ≤ n := by
  simp only [insF, Bool.and_eq_true, decide_eq_true_eq]; omega
theorem ret_tup2 {a b c d : Value} (h : a = b) (k : c = d) : Ending.returned (.tuple #[a, c]) = .returned (.tuple #[b, d]) := by rw [h, k]
theorem new_no (size : Int) (w : World) (h : size < 0 ∨ 134217728 < size) : Calls Try.prog 64 #[.int .i64 size] w fun e w' => e = .returned (.tuple #[.pointer none, .int .i64 12]) ∧ w = w' := by
  rcases h with h | h
  · go_enter Try.func64, Try.ntmps64
    go_wp2_with fail
    go_ret2
    exact ⟨rfl, rfl⟩
  · have h0 : ¬ size < 0 := by omega
    go_enter Try.func64, Try.ntmps64
    go_wp2_with fail
    go_ret2
    exact ⟨rfl, rfl⟩
theorem new_yes (size : Nat) (w : World) (h1 : size ≤ 134217728) : Calls Try.prog 64 #[.int .i64 size] w fun e w' => e = .returned (.tuple #[.pointer (some ⟨w.heap.size + 1, 0, none⟩), .int .i64 0]) ∧
    MemAt w' (w.heap.size + 1) w.heap.size (List.replicate size 0) size ∧ Below w.heap.size w w' := by
  go_enter Try.func64, Try.ntmps64
  go_wp2_with (at_make; refine wpList_make_bytes rfl _ _ rfl size size rfl rfl (by omega) (by omega) ?_)
  go_ret2
  refine ⟨rfl, ⟨?_, (Blk.new _ _ _).alloc _, by omega, by simp, by simp; omega, fun i hi hl => by rw [List.length_replicate] at hl; omega⟩, ((Below.refl _ _).alloc (Nat.le_refl _) _).alloc (by simp) _⟩
  have hb := Blk.new (w.alloc (.cells (bv (List.replicate size 0)) 5)) #[.slice (some ⟨w.heap.size, 0, none⟩) size size] 170
  simpa using hb
section
variable {w : World} {p q n : Nat} {L : List UInt8}
theorem len_any (h : MemAt w p q L n) : Calls Try.prog 78 #[.pointer (some ⟨p, 0, none⟩)] w fun e w' => e = .returned (.int .i64 n) ∧ w = w' := by
  have hc := h.ptrc
  replace h := Lib.hid h
  go_enter Try.func78, Try.ntmps78
  go_wp2_with fail
  go_ret
  exact ⟨rfl, rfl⟩
theorem inside_to (h : MemAt w p q L n) (off k : Int) (r : Bool) (hr : insF n off k = r) : Calls Try.prog 104 #[.pointer (some ⟨p, 0, none⟩), .int .i64 off, .int .i64 k] w fun e w' => e = .returned (.bool r) ∧ w = w' := by
  have hc := h.ptrc
  have hn : n ≤ 134217728 := Nat.le_trans h.le h.cap
  replace h := Lib.hid h
  have hi := insF_iff n off k
  rw [hr] at hi
  by_cases h1 : 0 ≤ off
  · by_cases h2 : 0 ≤ k
    · by_cases h3 : k ≤ n
      · by_cases h4 : off ≤ n - k
        · have hr2 : Hid (r = true) := hi.2 ⟨h1, h2, by omega⟩
          clear hi hr
          go_enter Try.func104, Try.ntmps104
          go_wp2_with fail
          go_ret
          exact ⟨ret_bool hr2.out.symm, rfl⟩
        · have hr2 : Hid (r = false) := by cases r with
            | false => rfl
            | true => exact absurd (hi.1 rfl).2.2 (by omega)
          clear hi hr
          go_enter Try.func104, Try.ntmps104
          go_wp2_with fail
          go_ret
          exact ⟨ret_bool hr2.out.symm, rfl⟩
      · have hr2 : Hid (r = false) := by cases r with
          | false => rfl
          | true => exact absurd (hi.1 rfl).2.2 (by omega)
        clear hi hr
        go_enter Try.func104, Try.ntmps104
        go_wp2_with fail
        go_ret
        exact ⟨ret_bool hr2.out.symm, rfl⟩
    · have hr2 : Hid (r = false) := by cases r with
        | false => rfl
        | true => exact absurd (hi.1 rfl).2.1 (by omega)
      clear hi hr
      go_enter Try.func104, Try.ntmps104
      go_wp2_with fail
      go_ret
      exact ⟨ret_bool hr2.out.symm, rfl⟩
  · have hr2 : Hid (r = false) := by cases r with
      | false => rfl
      | true => exact absurd (hi.1 rfl).1 (by omega)
    clear hi hr
    go_enter Try.func104, Try.ntmps104
    go_wp2_with fail
    go_ret
    exact ⟨ret_bool hr2.out.symm, rfl⟩
theorem ins_true {off k : Int} (h0 : 0 ≤ off) (h1 : 0 ≤ k) (h2 : off + k ≤ n) : insF n off k = true := (insF_iff n off k).2 ⟨h0, h1, h2⟩
theorem ins_false {off k : Int} (h : ¬ (0 ≤ off ∧ 0 ≤ k ∧ off + k ≤ n)) : insF n off k = false := by
  cases e : insF n off k with
  | false => rfl
  | true => exact absurd ((insF_iff n off k).1 e) h
/-- a width that is none -/
theorem number_width (h : MemAt w p q L n) (off k : Int) (hk : ¬ (k = 1 ∨ k = 2 ∨ k = 4 ∨ k = 8)) : Calls Try.prog 105 #[.pointer (some ⟨p, 0, none⟩), .int .i64 off, .int .i64 k] w fun e w' => e = .returned (.tuple #[.slice none 0 0, .int .i64 10]) ∧ w = w' := by
  have k1 : (k == 1) = false := by simp; omega
  have k2 : (k == 2) = false := by simp; omega
  have k4 : (k == 4) = false := by simp; omega
  have k8 : (k == 8) = false := by simp; omega
  clear hk
  replace h := Lib.hid h
  go_enter Try.func105, Try.ntmps105
  go_wp2_with fail
  go_ret2
  exact ⟨rfl, rfl⟩
theorem number_out (h : MemAt w p q L n) (off k : Int) (hk : k = 1 ∨ k = 2 ∨ k = 4 ∨ k = 8) (hi : insF n off k = false) : Calls Try.prog 105 #[.pointer (some ⟨p, 0, none⟩), .int .i64 off, .int .i64 k] w fun e w' => e = .returned (.tuple #[.slice none 0 0, .int .i64 11]) ∧ w = w' := by
  replace h := Lib.hid h
  replace hi := Lib.hid hi
  rcases hk with rfl | rfl | rfl | rfl
  all_goals
    go_enter Try.func105, Try.ntmps105
    go_wp2_with (go_at_call 104; (with_reducible refine (inside_to h.out off _ false hi.out).mono ?_); rintro e w' ⟨rfl, rfl⟩)
    go_ret2
    exact ⟨rfl, rfl⟩
theorem number_in (h : MemAt w p q L n) (off k : Nat) (hk : k = 1 ∨ k = 2 ∨ k = 4 ∨ k = 8) (hf : off + k ≤ n) : Calls Try.prog 105 #[.pointer (some ⟨p, 0, none⟩), .int .i64 off, .int .i64 k] w fun e w' => e = .returned (.tuple #[.slice (some ⟨q, off, none⟩) k (L.length - off), .int .i64 0]) ∧ w = w' := by
  have hc := h.ptrc
  have hn : n ≤ L.length := h.le
  have hn2 : L.length ≤ 134217728 := h.cap
  replace h := Lib.hid h
  rcases hk with rfl | rfl | rfl | rfl
  all_goals
    go_enter Try.func105, Try.ntmps105
    go_wp2_with (go_at_call 104; (with_reducible refine (inside_to h.out off _ true (ins_true (by omega) (by omega) (by omega))).mono ?_); rintro e w' ⟨rfl, rfl⟩)
    go_ret2
    exact ⟨ret_tup2 (by first | rfl | exact congrArg (fun x => Value.slice (some ⟨q, off, none⟩) x (L.length - off)) (Nat.add_sub_cancel_left off _)) rfl, rfl⟩
end
end Go.Proofs.Ytpbalilnemjeeaa
/- What is proved here: the contracts of a memory's Read, Load. Conditions: a memory that is there. -/
namespace Go.Proofs.Ytpbalilnemjeeaa
set_option linter.unusedVariables false
set_option linter.unusedSimpArgs false
open Go.RowKit Pm
section
variable {w : World} {p q n : Nat} {L : List UInt8}
theorem MemAt.src (h : MemAt w p q L n) (off k : Nat) : ∀ j b, ((L.drop off).take k)[j]? = some b → w.cell? ((⟨q, off, none⟩ : Addr).add j) = some (.int .u8 (b.toNat : Int)) := by
  intro j b hb
  rw [List.getElem?_take] at hb
  split at hb
  · rw [List.getElem?_drop] at hb
    have e : (⟨q, off, none⟩ : Addr).add j = ⟨q, off + j, none⟩ := by unfold Addr.add; split <;> simp_all
    rw [e]
    exact h.datc (off + j) b hb
  · cases hb
theorem MemAt.srci (h : MemAt w p q L n) (off k j : Nat) (b : UInt8) (hb : ((L.drop off).take k)[j]? = some b) : w.cell? ⟨q, off + j, none⟩ = some (.int .u8 (b.toNat : Int)) := by
  have e : (⟨q, off, none⟩ : Addr).add j = ⟨q, off + j, none⟩ := by unfold Addr.add; split <;> simp_all
  rw [← e]
  exact h.src off k j b hb
theorem read_out (h : MemAt w p q L n) (off k : Int) (hi : insF n off k = false) : Calls Try.prog 70 #[.pointer (some ⟨p, 0, none⟩), .int .i64 off, .int .i64 k] w fun e w' => e = .returned (.tuple #[.slice none 0 0, .int .i64 11]) ∧ w = w' := by
  replace h := Lib.hid h
  replace hi := Lib.hid hi
  go_enter Try.func70, Try.ntmps70
  go_wp2_with (go_at_call 104; (with_reducible refine (inside_to h.out off _ false hi.out).mono ?_); rintro e w' ⟨rfl, rfl⟩)
  go_ret2
  exact ⟨rfl, rfl⟩
set_option maxRecDepth 100000 in
theorem read_in (h : MemAt w p q L n) (off k : Nat) (hf : off + k ≤ n) : Calls Try.prog 70 #[.pointer (some ⟨p, 0, none⟩), .int .i64 off, .int .i64 k] w fun e w' =>
    e = .returned (.tuple #[.slice (some ⟨w.heap.size, 0, none⟩) k k, .int .i64 0]) ∧ Blk w' w.heap.size (bv ((L.drop off).take k)) 5 ∧ Below w.heap.size w w' := by
  have hc := h.ptrc
  have hn : n ≤ L.length := h.le
  have hn2 : L.length ≤ 134217728 := h.cap
  have hpl := h.ptr.lt
  have hl : Hid (((L.drop off).take k).length = k) := by unfold Hid; simp; omega
  replace h := Lib.hid h
  go_enter Try.func70, Try.ntmps70
  have hb0 : Blk (w.alloc (.cells (bv (List.replicate k 0)) 5)) w.heap.size (bv (List.replicate k 0)) 5 := Blk.new w _ _
  replace hb0 := Lib.hid hb0
  have hm : Hid (((L.drop off).take k).length = Nat.min (n - off) k) := by unfold Hid; rw [hl.out]; exact (Nat.min_eq_right (by omega)).symm
  by_cases hk0 : k = 0
  · subst hk0
    by_cases hz : L.length = off
    all_goals
      go_wp2_with (first | (go_at_call 104; (with_reducible refine (inside_to h.out off _ true (ins_true (by omega) (by omega) (by omega))).mono ?_); rintro e w' ⟨rfl, rfl⟩) | (at_make; refine wpList_make_bytes rfl _ _ rfl 0 0 rfl rfl (by omega) (by omega) ?_) | ((with_reducible show wpList _ _ _ (⟨some 23, _, _, _, _, _⟩ :: _) _ _); refine wpList_copy_bytes rfl (.tmp 16) (.tmp 22) rfl _ _ _ _ _ _ rfl rfl w.heap.size 0 [] [] (Blk.new w _ _) (by simp [Nat.min_def]) ⟨q, off, none⟩ (fun h0 => absurd h0 (by simp)) (fun h0 => absurd h0 (by simp)) (fun j b hb => by simp at hb) (by simp) ?_; intro w2 hb ht; replace hb := Lib.hid hb; replace ht := Lib.hid ht))
      go_ret2
      exact ⟨rfl, by rw [List.take_zero]; exact hb.out, Turns.below ((Below.refl _ _).alloc (Nat.le_refl _) _) ht.out (by simp) (by simp)⟩
  · have hz : ¬ L.length = off := by omega
    go_wp2_with (first | (go_at_call 104; (with_reducible refine (inside_to h.out off _ true (ins_true (by omega) (by omega) (by omega))).mono ?_); rintro e w' ⟨rfl, rfl⟩) | (at_make; refine wpList_make_bytes rfl _ _ rfl k k rfl rfl (by omega) (by omega) ?_) | ((with_reducible show wpList _ _ _ (⟨some 23, _, _, _, _, _⟩ :: _) _ _); refine wpList_copy_bytes rfl (.tmp 16) (.tmp 22) rfl _ _ _ _ _ _ rfl rfl w.heap.size 0 (List.replicate k 0) ((L.drop off).take k) hb0.out hm.out ⟨q, off, none⟩ (fun _ => rfl) (fun _ => rfl) ((h.out.alloc _).src off k) (by rw [hl.out]; simp) ?_; intro w2 hb ht; replace hb := Lib.hid hb; replace ht := Lib.hid ht))
    go_ret2
    refine ⟨rfl, ?_, Turns.below ((Below.refl _ _).alloc (Nat.le_refl _) _) ht.out (by simp) (by simp)⟩
    have hb := hb.out
    rwa [splice_whole _ _ (by rw [hl.out]; simp)] at hb
theorem load_width (h : MemAt w p q L n) (off k : Int) (hk : ¬ (k = 1 ∨ k = 2 ∨ k = 4 ∨ k = 8)) : Calls Try.prog 74 #[.pointer (some ⟨p, 0, none⟩), .int .i64 off, .int .i64 k] w fun e w' => e = .returned (.tuple #[.int .u64 0, .int .i64 10]) ∧ w = w' := by
  replace h := Lib.hid h
  replace hk := Lib.hid hk
  go_enter Try.func74, Try.ntmps74
  go_wp2_with (go_at_call 105; (with_reducible refine (number_width h.out off _ hk.out).mono ?_); rintro e w' ⟨rfl, rfl⟩)
  go_ret2
  exact ⟨rfl, rfl⟩
theorem load_out (h : MemAt w p q L n) (off k : Int) (hk : k = 1 ∨ k = 2 ∨ k = 4 ∨ k = 8) (hi : insF n off k = false) : Calls Try.prog 74 #[.pointer (some ⟨p, 0, none⟩), .int .i64 off, .int .i64 k] w fun e w' => e = .returned (.tuple #[.int .u64 0, .int .i64 11]) ∧ w = w' := by
  replace h := Lib.hid h
  replace hi := Lib.hid hi
  replace hk := Lib.hid hk
  go_enter Try.func74, Try.ntmps74
  go_wp2_with (go_at_call 105; (with_reducible refine (number_out h.out off _ hk.out hi.out).mono ?_); rintro e w' ⟨rfl, rfl⟩)
  go_ret2
  exact ⟨rfl, rfl⟩
set_option maxRecDepth 100000 in
theorem load_in (h : MemAt w p q L n) (off k : Nat) (hk : k = 1 ∨ k = 2 ∨ k = 4 ∨ k = 8) (hf : off + k ≤ n) : Calls Try.prog 74 #[.pointer (some ⟨p, 0, none⟩), .int .i64 off, .int .i64 k] w fun e w' =>
    e = .returned (.tuple #[.int .u64 (leN ((L.drop off).take k)), .int .i64 0]) ∧ w = w' := by
  have hn : n ≤ L.length := h.le
  have hn2 : L.length ≤ 134217728 := h.cap
  have hk8 : k ≤ 8 := by omega
  replace hk := Lib.hid hk
  have hl : Hid (((L.drop off).take k).length = k) := by unfold Hid; simp; omega
  replace h := Lib.hid h
  go_enter Try.func74, Try.ntmps74
  go_wp2_with (go_at_call 105; (with_reducible refine (number_in h.out off k hk.out hf).mono ?_); rintro e w' ⟨rfl, rfl⟩)
  go_loop [10, 25] (fun v i => ∃ j : Nat, j ≤ k ∧ i = .int .i64 j ∧ v = .int .u64 (leN (((L.drop off).take k).take j))) (fun _ i => (k - (intOf i).toNat))
  case atStart => exact ⟨0, by omega, rfl, by simp [leN]⟩
  case round =>
    obtain ⟨j, hj, rfl, rfl⟩ := hrel
    by_cases hlt : j < k
    · obtain ⟨b, hb⟩ : ∃ b, Hid (((L.drop off).take k)[j]? = some b) := ⟨_, List.getElem?_eq_getElem (by rw [hl.out]; exact hlt)⟩
      have hcell := h.out.srci off k j b hb.out
      have hb2 : (b.toNat : Int) < 256 := by have := b.toNat_lt; omega
      have hx := leN_lt (((L.drop off).take k).take j)
      rw [show (((L.drop off).take k).take j).length = j by rw [List.length_take, hl.out]; omega] at hx
      have HX := Lib.hid (or_step _ b.toNat j hx b.toNat_lt (by omega))
      have HT := Lib.hid (leN_take_succ _ _ _ hb.out)
      clear hx
      go_wp2_with fail
      go_round
      case rel => exact ⟨j + 1, by omega, by go_num, by rw [HT.out]; exact congrArg _ HX.out⟩
      case measure => simp [intOf]; omega
    · have hje : j = k := by omega
      have he : Hid (leN (((L.drop off).take k).take j) = leN ((L.drop off).take k)) := by unfold Hid; rw [List.take_of_length_le (by rw [hl.out]; omega)]
      clear hje
      go_wp2_with fail
      go_ret2
      exact ⟨ret_tup2 (by rw [← he.out]; rfl) rfl, rfl⟩
end
end Go.Proofs.Ytpbalilnemjeeaa
/- What is proved here: the contracts of a memory's Store and Fill. Conditions: a memory that is there. -/
namespace Go.Proofs.Ytpbalilnemjeeaa
set_option linter.unusedVariables false
set_option linter.unusedSimpArgs false
open Go.RowKit Pm
section
variable {w : World} {p q n : Nat} {L : List UInt8}
theorem MemAt.has (h : MemAt w p q L n) (i : Nat) (hi : i < L.length) : ∃ b : UInt8, w.cell? ⟨q, i, none⟩ = some (.int .u8 (b.toNat : Int)) := ⟨L[i], h.datc i _ (List.getElem?_eq_getElem hi)⟩
theorem store_width (h : MemAt w p q L n) (off k : Int) (v : Int) (hk : ¬ (k = 1 ∨ k = 2 ∨ k = 4 ∨ k = 8)) : Calls Try.prog 73 #[.pointer (some ⟨p, 0, none⟩), .int .i64 off, .int .i64 k, .int .u64 v] w fun e w' => e = .returned (.int .i64 10) ∧ w = w' := by
  replace h := Lib.hid h
  replace hk := Lib.hid hk
  go_enter Try.func73, Try.ntmps73
  go_wp2_with (go_at_call 105; (with_reducible refine (number_width h.out off _ hk.out).mono ?_); rintro e w' ⟨rfl, rfl⟩)
  go_ret
  exact ⟨rfl, rfl⟩
theorem store_out (h : MemAt w p q L n) (off k : Int) (v : Int) (hk : k = 1 ∨ k = 2 ∨ k = 4 ∨ k = 8) (hi : insF n off k = false) : Calls Try.prog 73 #[.pointer (some ⟨p, 0, none⟩), .int .i64 off, .int .i64 k, .int .u64 v] w fun e w' => e = .returned (.int .i64 11) ∧ w = w' := by
  replace h := Lib.hid h
  replace hi := Lib.hid hi
  replace hk := Lib.hid hk
  go_enter Try.func73, Try.ntmps73
  go_wp2_with (go_at_call 105; (with_reducible refine (number_out h.out off _ hk.out hi.out).mono ?_); rintro e w' ⟨rfl, rfl⟩)
  go_ret
  exact ⟨rfl, rfl⟩
set_option maxRecDepth 100000 in
theorem store_in (h : MemAt w p q L n) (off k v : Nat) (hk : k = 1 ∨ k = 2 ∨ k = 4 ∨ k = 8) (hf : off + k ≤ n) (hv : v < 2 ^ 64) : Calls Try.prog 73 #[.pointer (some ⟨p, 0, none⟩), .int .i64 off, .int .i64 k, .int .u64 v] w fun e w' =>
    e = .returned (.int .i64 0) ∧ MemAt w' p q (splice L off (leB k v)) n ∧ Turns [q] w w' := by
  have hn : n ≤ L.length := h.le
  have hn2 : L.length ≤ 134217728 := h.cap
  have hk8 : k ≤ 8 := by omega
  replace hk := Lib.hid hk
  replace hv := Lib.hid hv
  replace h := Lib.hid h
  have hsl := fun j (hj : j ≤ k) => splice_len L off ((leB k v).take j) (by rw [List.length_take, leB_len]; omega)
  replace hsl := Lib.hid hsl
  go_enter Try.func73, Try.ntmps73
  go_wp2_with (go_at_call 105; (with_reducible refine (number_in h.out off k hk.out hf).mono ?_); rintro e w' ⟨rfl, rfl⟩)
  go_loopw [24] (fun i wr => ∃ j : Nat, j ≤ k ∧ i = .int .i64 j ∧ MemAt wr p q (splice L off ((leB k v).take j)) n ∧ Turns [q] w wr) (fun i _ => (k - (intOf i).toNat))
  case atStart => exact ⟨0, by omega, rfl, by rw [List.take_zero, splice_nil]; exact h.out, Turns.refl _ _⟩
  case round =>
    obtain ⟨j, hj, rfl, hm, ht⟩ := hrel
    replace ht := Lib.hid ht
    by_cases hlt : j < k
    · obtain ⟨b0, hb0⟩ := hm.has (off + j) (by rw [hsl.out j hj]; omega)
      have hfz := hm.datf (off + j)
      have HM := Lib.hid hm
      clear hm
      have HB := Lib.hid (leB_get? k v j hlt)
      go_wp2_with fail
      go_roundw
      case rel =>
        have hp := HM.out.put (off + j) (by omega) (UInt8.ofNat (v / 256 ^ j % 256))
        rw [splice_take_step L off (leB k v) j _ (by rw [leB_len]; omega) HB.out] at hp
        exact ⟨j + 1, by omega, by go_num, by rw [byte_at]; exact hp, ht.out.set _ _ _ (Or.inl (by simp))⟩
      case measure => simp [intOf]; omega
    · have hje : j = k := by omega
      have he : Hid (MemAt wr p q (splice L off (leB k v)) n) := by unfold Hid; rw [List.take_of_length_le (by rw [leB_len]; omega)] at hm; exact hm
      clear hje hm
      go_wp2_with fail
      go_ret
      exact ⟨rfl, he.out, ht.out⟩
theorem fill_out (h : MemAt w p q L n) (off k : Int) (v : Int) (hi : insF n off k = false) : Calls Try.prog 71 #[.pointer (some ⟨p, 0, none⟩), .int .i64 off, .int .i64 k, .int .u8 v] w fun e w' => e = .returned (.int .i64 11) ∧ w = w' := by
  replace h := Lib.hid h
  replace hi := Lib.hid hi
  go_enter Try.func71, Try.ntmps71
  go_wp2_with (go_at_call 104; (with_reducible refine (inside_to h.out off k false hi.out).mono ?_); rintro e w' ⟨rfl, rfl⟩)
  go_ret
  exact ⟨rfl, rfl⟩
set_option maxRecDepth 100000 in
theorem fill_in (h : MemAt w p q L n) (off k : Nat) (c : UInt8) (hf : off + k ≤ n) : Calls Try.prog 71 #[.pointer (some ⟨p, 0, none⟩), .int .i64 off, .int .i64 k, .int .u8 (c.toNat : Int)] w fun e w' =>
    e = .returned (.int .i64 0) ∧ MemAt w' p q (splice L off (List.replicate k c)) n ∧ Turns [q] w w' := by
  have hn : n ≤ L.length := h.le
  have hn2 : L.length ≤ 134217728 := h.cap
  have hc := h.ptrc
  have hdat := Lib.hid h.dat
  have hpp := Lib.hid h.ptr
  have hne := Lib.hid h.ne
  replace h := Lib.hid h
  have hsl := fun j (hj : j ≤ k) => splice_len L off ((List.replicate k c).take j) (by rw [List.length_take, List.length_replicate]; omega)
  replace hsl := Lib.hid hsl
  have hz2 : L.length = off ∨ ¬ L.length = off := by omega
  by_cases h0 : c = 0
  · subst h0
    rcases hz2 with hz | hz
    all_goals
      go_enter Try.func71, Try.ntmps71
      go_wp2_with (first | (go_at_call 104; (with_reducible refine (inside_to h.out off k true (ins_true (by omega) (by omega) (by omega))).mono ?_); rintro e w' ⟨rfl, rfl⟩) | ((with_reducible show wpList _ _ _ (⟨none, .call ⟨.builtin .clear, _, _⟩, _, _, _, _⟩ :: _) _ _); refine wpList_clear_bytes rfl (.tmp 27) rfl _ _ _ rfl q off L hdat.out (fun h0 => by first | rfl | omega) (by omega) ?_; intro w2 hb ht; replace hb := Lib.hid hb; replace ht := Lib.hid ht))
      go_ret
      exact ⟨rfl, h.out.spliced off _ (by simp; omega) (hpp.out.turn ht.out (by have := hne.out; simp; exact this)) (by have hb' := hb.out; (try rw [Nat.add_sub_cancel_left] at hb'); exact hb'), ht.out⟩
  · have hcn : ((c.toNat : Int) == 0) = false := by
      rw [beq_eq_false_iff_ne]
      intro e
      exact h0 (UInt8.toNat_inj.1 (by rw [show (0 : UInt8).toNat = 0 from rfl]; omega))
    clear h0
    rcases hz2 with hz | hz
    · have hk0 : k = 0 := by omega
      subst hk0
      go_enter Try.func71, Try.ntmps71
      go_wp2_with (go_at_call 104; (with_reducible refine (inside_to h.out off _ true (ins_true (by omega) (by omega) (by omega))).mono ?_); rintro e w' ⟨rfl, rfl⟩)
      go_loopw [30] (fun i wr => i = .int .i64 0 ∧ w = wr) (fun i _ => 0)
      case atStart => exact ⟨rfl, rfl⟩
      case round =>
        obtain ⟨rfl, rfl⟩ := hrel
        go_wp2_with fail
        go_ret
        exact ⟨rfl, by rw [List.replicate_zero, splice_nil]; exact h.out, Turns.refl _ _⟩
    · go_enter Try.func71, Try.ntmps71
      go_wp2_with (go_at_call 104; (with_reducible refine (inside_to h.out off _ true (ins_true (by omega) (by omega) (by omega))).mono ?_); rintro e w' ⟨rfl, rfl⟩)
      go_loopw [30] (fun i wr => ∃ j : Nat, j ≤ k ∧ i = .int .i64 j ∧ MemAt wr p q (splice L off ((List.replicate k c).take j)) n ∧ Turns [q] w wr) (fun i _ => (k - (intOf i).toNat))
      case atStart => exact ⟨0, by omega, rfl, by rw [List.take_zero, splice_nil]; exact h.out, Turns.refl _ _⟩
      case round =>
        obtain ⟨j, hj, rfl, hm, ht⟩ := hrel
        replace ht := Lib.hid ht
        by_cases hlt : j < k
        · obtain ⟨b0, hb0⟩ := hm.has (off + j) (by rw [hsl.out j hj]; omega)
          have hfz := hm.datf (off + j)
          have HM := Lib.hid hm
          clear hm
          have HB : Hid ((List.replicate k c)[j]? = some c) := by unfold Hid; rw [List.getElem?_replicate, if_pos hlt]
          go_wp2_with fail
          go_roundw
          case rel =>
            have hp := HM.out.put (off + j) (by omega) c
            rw [splice_take_step L off (List.replicate k c) j _ (by rw [List.length_replicate]; omega) HB.out] at hp
            exact ⟨j + 1, by omega, by go_num, hp, ht.out.set _ _ _ (Or.inl (by simp))⟩
          case measure => simp [intOf]; omega
        · have hje : j = k := by omega
          have he : Hid (MemAt wr p q (splice L off (List.replicate k c)) n) := by unfold Hid; rw [List.take_of_length_le (by rw [List.length_replicate]; omega)] at hm; exact hm
          clear hje hm
          go_wp2_with fail
          go_ret
          exact ⟨rfl, he.out, ht.out⟩
end
end Go.Proofs.Ytpbalilnemjeeaa
/- What is proved here: the contracts of a memory's Copy and Equal. Conditions: a memory that is there. -/
namespace Go.Proofs.Ytpbalilnemjeeaa
set_option linter.unusedVariables false
set_option linter.unusedSimpArgs false
open Go.RowKit Pm
section
variable {w : World} {p q n : Nat} {L : List UInt8}
theorem copy_out (h : MemAt w p q L n) (dst src k : Int) (hi : insF n dst k = false ∨ insF n src k = false) : Calls Try.prog 69 #[.pointer (some ⟨p, 0, none⟩), .int .i64 dst, .int .i64 src, .int .i64 k] w fun e w' => e = .returned (.int .i64 11) ∧ w = w' := by
  replace h := Lib.hid h
  cases h1 : insF n dst k with
  | false =>
    replace h1 := Lib.hid h1
    clear hi
    go_enter Try.func69, Try.ntmps69
    go_wp2_with (go_at_call 104; (with_reducible refine (inside_to h.out dst k false h1.out).mono ?_); rintro e w' ⟨rfl, rfl⟩)
    go_ret
    exact ⟨rfl, rfl⟩
  | true =>
    have h2 : Hid (insF n src k = false) := by rcases hi with hi | hi; rw [h1] at hi; cases hi; exact hi
    replace h1 := Lib.hid h1
    clear hi
    go_enter Try.func69, Try.ntmps69
    go_wp2_with (go_at_call 104; first | ((with_reducible refine (inside_to h.out dst k true h1.out).mono ?_); rintro e w' ⟨rfl, rfl⟩) | ((with_reducible refine (inside_to h.out src k false h2.out).mono ?_); rintro e w' ⟨rfl, rfl⟩))
    go_ret
    exact ⟨rfl, rfl⟩
set_option maxRecDepth 100000 in
set_option maxHeartbeats 1000000 in
theorem copy_in (h : MemAt w p q L n) (dst src k : Nat) (hd : dst + k ≤ n) (hs : src + k ≤ n) : Calls Try.prog 69 #[.pointer (some ⟨p, 0, none⟩), .int .i64 dst, .int .i64 src, .int .i64 k] w fun e w' =>
    e = .returned (.int .i64 0) ∧ MemAt w' p q (splice L dst ((L.drop src).take k)) n ∧ Turns [q] w w' := by
  have hn : n ≤ L.length := h.le
  have hn2 : L.length ≤ 134217728 := h.cap
  have hc := h.ptrc
  have hdat := Lib.hid h.dat
  have hpp := Lib.hid h.ptr
  have hne := Lib.hid h.ne
  have hl : Hid (((L.drop src).take k).length = k) := by unfold Hid; simp; omega
  replace h := Lib.hid h
  go_enter Try.func69, Try.ntmps69
  go_wp2_with (go_at_call 104; first | ((with_reducible refine (inside_to h.out dst k true (ins_true (by omega) (by omega) (by omega))).mono ?_); rintro e w' ⟨rfl, rfl⟩) | ((with_reducible refine (inside_to h.out src k true (ins_true (by omega) (by omega) (by omega))).mono ?_); rintro e w' ⟨rfl, rfl⟩))
  have i1 : (0 : Int) ≤ dst := by omega
  have i2 : (0 : Int) ≤ src := by omega
  have i3 : (dst : Int) + k ≤ L.length := by omega
  have i4 : (src : Int) + k ≤ L.length := by omega
  have i5 : (dst : Int) ≤ dst + k := by omega
  have i6 : (src : Int) ≤ src + k := by omega
  have i7 : (0 : Int) ≤ dst + k := by omega
  have i8 : (0 : Int) ≤ src + k := by omega
  have f1 : IntKind.i64.wrap ((dst : Int) + k) = dst + k := IntWalk.i64_in _ (by omega)
  have f2 : IntKind.i64.wrap ((src : Int) + k) = src + k := IntWalk.i64_in _ (by omega)
  have hpq : Hid (¬ p ∈ [q]) := by have := hne.out; unfold Hid; simp; exact this
  have hkk : Hid (∀ w2, Turns [q] w.drew w2 → w2.cell? ⟨p, 0, none⟩ = some (.slice (some ⟨q, 0, none⟩) n L.length)) := fun w2 ht => (hpp.out.drew.turn ht hpq.out).cell 0
  by_cases hk0 : k = 0
  · have hz1 : L.length = dst ∨ ¬ L.length = dst := by omega
    have hz2 : L.length = src ∨ ¬ L.length = src := by omega
    replace hk0 := Lib.hid hk0
    rcases hz1 with rfl | hz1
    all_goals
      rcases hz2 with rfl | hz2
    all_goals
      go_region_held_law (fun w' => w'.cell? ⟨p, 0, none⟩ = some (.slice (some ⟨q, 0, none⟩) n L.length)) (go_keep) ((refine step_copy_bytes rfl (.tmp 29) (.tmp 38) rfl _ _ _ _ _ _ (by rfl) (by rfl) q _ L [] hdat.out (by have := hk0.out; simp only [Nat.min_def, List.length_nil]; split <;> omega) ⟨q, 0, none⟩ (fun h0 => absurd h0 (by simp)) (fun h0 => absurd h0 (by simp)) (fun j b hb => by simp at hb) (by simp; omega) ?_; intro w2 hb ht; have hw2 := hkk.out w2 ht; replace hb := Lib.hid hb; replace ht := Lib.hid ht))
      go_wp2_with fail
      go_ret
      exact ⟨rfl, h.out.spliced _ _ (by rw [hk0.out, List.take_zero]; simp; omega) (hpp.out.drew.turn ht.out hpq.out) (by rw [hk0.out, List.take_zero, splice_nil]; have hb' := hb.out; rwa [splice_nil] at hb'), (Turns.refl _ _).drew.trans (ht.out.more (by simp))⟩
  · have hz1 : ¬ L.length = dst := by omega
    have hz2 : ¬ L.length = src := by omega
    go_region_held_law (fun w' => w'.cell? ⟨p, 0, none⟩ = some (.slice (some ⟨q, 0, none⟩) n L.length)) (go_keep) ((refine step_copy_bytes rfl (.tmp 29) (.tmp 38) rfl _ _ _ _ _ _ (by rfl) (by rfl) q dst L ((L.drop src).take k) hdat.out (by rw [hl.out]; simp only [Nat.min_def]; split <;> omega) ⟨q, src, none⟩ (fun _ => rfl) (fun _ => rfl) (h.out.src src k) (by rw [hl.out]; omega) ?_; intro w2 hb ht; have hw2 := hkk.out w2 ht; replace hb := Lib.hid hb; replace ht := Lib.hid ht))
    go_wp2_with fail
    go_ret
    exact ⟨rfl, h.out.spliced dst _ (by rw [hl.out]; omega) (hpp.out.drew.turn ht.out hpq.out) hb.out, (Turns.refl _ _).drew.trans (ht.out.more (by simp))⟩
theorem equal_out (h : MemAt w p q L n) (x y k : Int) (hi : insF n x k = false ∨ insF n y k = false) : Calls Try.prog 68 #[.pointer (some ⟨p, 0, none⟩), .int .i64 x, .int .i64 y, .int .i64 k] w fun e w' => e = .returned (.tuple #[.bool false, .int .i64 11]) ∧ w = w' := by
  replace h := Lib.hid h
  cases h1 : insF n x k with
  | false =>
    replace h1 := Lib.hid h1
    clear hi
    go_enter Try.func68, Try.ntmps68
    go_wp2_with (go_at_call 104; (with_reducible refine (inside_to h.out x k false h1.out).mono ?_); rintro e w' ⟨rfl, rfl⟩)
    go_ret2
    exact ⟨rfl, rfl⟩
  | true =>
    have h2 : Hid (insF n y k = false) := by rcases hi with hi | hi; rw [h1] at hi; cases hi; exact hi
    replace h1 := Lib.hid h1
    clear hi
    go_enter Try.func68, Try.ntmps68
    go_wp2_with (go_at_call 104; first | ((with_reducible refine (inside_to h.out x k true h1.out).mono ?_); rintro e w' ⟨rfl, rfl⟩) | ((with_reducible refine (inside_to h.out y k false h2.out).mono ?_); rintro e w' ⟨rfl, rfl⟩))
    go_ret2
    exact ⟨rfl, rfl⟩
set_option maxRecDepth 100000 in
theorem equal_in (h : MemAt w p q L n) (x y k : Nat) (hd : x + k ≤ n) (hs : y + k ≤ n) : Calls Try.prog 68 #[.pointer (some ⟨p, 0, none⟩), .int .i64 x, .int .i64 y, .int .i64 k] w fun e w' =>
    e = .returned (.tuple #[.bool (decide ((L.drop x).take k = (L.drop y).take k)), .int .i64 0]) ∧ ∃ m, w' = w.drewN m := by
  have hn : n ≤ L.length := h.le
  have hn2 : L.length ≤ 134217728 := h.cap
  have hlx : Hid (((L.drop x).take k).length = k) := by unfold Hid; simp; omega
  have hly : Hid (((L.drop y).take k).length = k) := by unfold Hid; simp; omega
  replace h := Lib.hid h
  go_enter Try.func68, Try.ntmps68
  go_wp2_with (go_at_call 104; first | ((with_reducible refine (inside_to h.out x k true (ins_true (by omega) (by omega) (by omega))).mono ?_); rintro e w' ⟨rfl, rfl⟩) | ((with_reducible refine (inside_to h.out y k true (ins_true (by omega) (by omega) (by omega))).mono ?_); rintro e w' ⟨rfl, rfl⟩))
  go_loopw [24] (fun i wr => ∃ j m : Nat, j ≤ k ∧ i = .int .i64 j ∧ Hid (((L.drop x).take k).take j = ((L.drop y).take k).take j) ∧ wr = w.drewN m) (fun i _ => (k - (intOf i).toNat))
  case atStart => exact ⟨0, 0, by omega, rfl, by unfold Hid; simp, rfl⟩
  case round =>
    obtain ⟨j, m, hj, rfl, hq, rfl⟩ := hrel
    by_cases hlt : j < k
    · obtain ⟨b, hb⟩ : ∃ b, Hid (((L.drop x).take k)[j]? = some b) := ⟨_, List.getElem?_eq_getElem (by rw [hlx.out]; exact hlt)⟩
      obtain ⟨c, hc⟩ : ∃ c, Hid (((L.drop y).take k)[j]? = some c) := ⟨_, List.getElem?_eq_getElem (by rw [hly.out]; exact hlt)⟩
      have hp := h.out.ptrc
      have hcb := h.out.srci x k j b hb.out
      have hcc := h.out.srci y k j c hc.out
      have i1 : (0 : Int) ≤ x + j := by omega
      have i2 : (x : Int) + j < n := by omega
      have i3 : (0 : Int) ≤ y + j := by omega
      have i4 : (y : Int) + j < n := by omega
      have f1 : IntKind.i64.wrap ((x : Int) + j) = x + j := IntWalk.i64_in _ (by omega)
      have f2 : IntKind.i64.wrap ((y : Int) + j) = y + j := IntWalk.i64_in _ (by omega)
      by_cases hbc : b = c
      · subst hbc
        have hbt : ((b.toNat : Int) != (b.toNat : Int)) = false := by simp
        go_wp2_with fail
        go_quiet (fail)
        go_wp2_with fail
        go_roundw
        case rel =>
          exact ⟨j + 1, _, by omega, by go_num, by unfold Hid; rw [List.take_add_one, List.take_add_one, hb.out, hc.out, hq.out], rfl⟩
        case measure => simp [intOf]; omega
      · have hbt : ((b.toNat : Int) != (c.toNat : Int)) = true := by
          rw [bne_iff_ne]; intro e; exact hbc (UInt8.toNat_inj.1 (by omega))
        have hr : Hid (decide ((L.drop x).take k = (L.drop y).take k) = false) := by
          unfold Hid
          rw [decide_eq_false_iff_not]
          intro e
          have h1 := hb.out
          rw [e, hc.out] at h1
          exact hbc (Option.some.inj h1).symm
        clear hbc
        go_wp2_with fail
        go_quiet (fail)
        go_wp2_with fail
        go_ret2
        exact ⟨ret_tup2 (by rw [hr.out]; rfl) rfl, _, World.drewN_drewN _ _ _⟩
    · have hje : j = k := by omega
      have hr : Hid (decide ((L.drop x).take k = (L.drop y).take k) = true) := by
        have h1 := hq.out
        rw [List.take_take, List.take_take, Nat.min_eq_left (by omega), hje] at h1
        unfold Hid
        rw [decide_eq_true_eq]; exact h1
      clear hje
      go_wp2_with fail
      go_ret2
      exact ⟨ret_tup2 (by rw [hr.out]; rfl) rfl, _, rfl⟩
end
end Go.Proofs.Ytpbalilnemjeeaa
/- What is proved here: the contract of a memory's Grow. Conditions: a memory that is there. -/
namespace Go.Proofs.Ytpbalilnemjeeaa
set_option linter.unusedVariables false
set_option linter.unusedSimpArgs false
open Go.RowKit Pm
section
variable {w : World} {p q n : Nat} {L : List UInt8}
theorem run_max_int (x y : Int) (ts : Array TypeId) (ty : TypeId) (w : World) : (Builtin.max_ ts ty #[.int .i64 x, .int .i64 y]).run Try.prog w = .ok (.int .i64 (max x y)) w := by
  simp only [Builtin.max_, List.foldlM, Builtin.max2]
  rw [show (if y > x then y else x) = max x y by omega]
  rfl
theorem run_min_int (x y : Int) (ts : Array TypeId) (ty : TypeId) (w : World) : (Builtin.min_ ts ty #[.int .i64 x, .int .i64 y]).run Try.prog w = .ok (.int .i64 (min x y)) w := by
  simp only [Builtin.min_, List.foldlM, Builtin.min2]
  rw [show (if y < x then y else x) = min x y by omega]
  rfl
theorem grow_no (h : MemAt w p q L n) (size : Int) (hb : size < n ∨ 134217728 < size) : Calls Try.prog 85 #[.pointer (some ⟨p, 0, none⟩), .int .i64 size] w fun e w' => e = .returned (.int .i64 12) ∧ w = w' := by
  have hc := h.ptrc
  replace h := Lib.hid h
  rcases hb with hb | hb
  · go_enter Try.func85, Try.ntmps85
    go_wp2_with fail
    go_ret
    exact ⟨rfl, rfl⟩
  · by_cases h1 : size < n
    · go_enter Try.func85, Try.ntmps85
      go_wp2_with fail
      go_ret
      exact ⟨rfl, rfl⟩
    · go_enter Try.func85, Try.ntmps85
      go_wp2_with fail
      go_ret
      exact ⟨rfl, rfl⟩
theorem zero_splice (h : MemAt w p q L n) (size : Nat) (h1 : n ≤ size) (h2 : size ≤ L.length) : splice L n (List.replicate (size - n) 0) = L := by
  apply List.ext_getElem?
  intro i
  rw [splice_get? _ _ _ (by simp; omega)]
  simp only [List.length_replicate]
  split
  · rename_i hi
    rw [List.getElem?_replicate, if_pos (by omega)]
    exact (h.zer i hi.1 (by omega)).symm
  · rfl
set_option maxHeartbeats 1000000 in
set_option maxRecDepth 100000 in
theorem grow_room (h : MemAt w p q L n) (size : Nat) (h1 : n ≤ size) (h2 : size ≤ L.length) : Calls Try.prog 85 #[.pointer (some ⟨p, 0, none⟩), .int .i64 size] w fun e w' =>
    e = .returned (.int .i64 0) ∧ MemAt w' p q L size ∧ Turns [p, q] w w' := by
  have hc := h.ptrc
  have hf := h.ptrf
  have hn2 : L.length ≤ 134217728 := h.cap
  have hpl := h.ptr.lt
  have hzs := Lib.hid (zero_splice h size h1 h2)
  have hdat := Lib.hid (h.dat.other p 0 (.slice (some ⟨q, 0, none⟩) size L.length) h.ne)
  have hpp := Lib.hid (h.ptr.set 0 (.slice (some ⟨q, 0, none⟩) size L.length))
  have hne := Lib.hid h.ne
  replace h := Lib.hid h
  have hz : L.length = n ∨ ¬ L.length = n := by omega
  rcases hz with rfl | hz
  · obtain rfl : L.length = size := by omega
    have hcl := fun (w : World) (A : Option Addr) (cap : Nat) (ty : TypeId) => run_clear_none (w := w) A cap ty
    have hdat2 := hdat.out
    have hpp2 := hpp.out
    replace hdat2 := Lib.hid hdat2
    replace hpp2 := Lib.hid hpp2
    go_enter Try.func85, Try.ntmps85
    go_wp2_with fail
    go_ret
    exact ⟨rfl, ⟨hpp2.out, hdat2.out, hne.out, h2, hn2, fun i hi hl => by omega⟩, (Turns.refl [p, q] w).set p 0 _ (Or.inl (by simp))⟩
  · go_enter Try.func85, Try.ntmps85
    go_wp2_with (((with_reducible show wpList _ _ _ (⟨none, .call ⟨.builtin .clear, _, _⟩, _, _, _, _⟩ :: _) _ _); (refine wpList_clear_bytes rfl (.tmp 65) rfl _ _ _ rfl q n L hdat.out (fun h0 => by first | rfl | (exfalso; omega)) (by omega) ?_); intro w2 hb ht; replace hb := Lib.hid hb; replace ht := Lib.hid ht))
    go_ret
    refine ⟨rfl, ⟨?_, ?_, hne.out, h2, hn2, fun i hi hl => h.out.zer i (by omega) hl⟩, ?_⟩
    · exact hpp.out.turn ht.out (by have := hne.out; simp; exact this)
    · have hb' := hb.out
      rwa [hzs.out] at hb'
    · exact (((Turns.refl [p, q] w).set p 0 _ (Or.inl (by simp))).trans (ht.out.more (fun x hx => Or.inl (by simp at hx; simp [hx]))))
set_option maxHeartbeats 1000000 in
set_option maxRecDepth 100000 in
theorem grow_new (h : MemAt w p q L n) (size : Nat) (h1 : L.length < size) (h2 : size ≤ 134217728) : Calls Try.prog 85 #[.pointer (some ⟨p, 0, none⟩), .int .i64 size] w fun e w' =>
    e = .returned (.int .i64 0) ∧ ∃ L', MemAt w' p w.heap.size L' size ∧ L'.take size = L.take n ++ List.replicate (size - n) 0 ∧ Turns [p] w w' := by
  have hc := h.ptrc
  have hf := h.ptrf
  have hn2 : L.length ≤ 134217728 := h.cap
  have hn : n ≤ L.length := h.le
  have hpl := h.ptr.lt
  have hne := Lib.hid h.ne
  have hm : Hid ((L.take n).length = Nat.min n size) := by unfold Hid; simp [Nat.min_def]; split <;> split <;> omega
  obtain ⟨C, hC⟩ : ∃ C : Nat, Hid (min (134217728 : Int) (max (size : Int) (2 * n)) = C) := ⟨(min (134217728 : Int) (max (size : Int) (2 * n))).toNat, by unfold Hid; omega⟩
  have c1 : size ≤ C := by have := hC.out; omega
  have c2 : C ≤ 134217728 := by have := hC.out; omega
  have hb0 := Lib.hid (Blk.new w (bv (List.replicate C 0)) 5)
  replace h := Lib.hid h
  go_enter Try.func85, Try.ntmps85
  have hmx := run_max_int (size : Int) (2 * n)
  have hmn := fun ts ty w => (run_min_int (134217728 : Int) (max (size : Int) (2 * n)) ts ty w).trans (by rw [hC.out])
  have hln : Hid ((L.take n).length = n) := by unfold Hid; simp; omega
  have hsl := Lib.hid (splice_len (List.replicate C (0 : UInt8)) 0 (L.take n) (by rw [hln.out]; simp; omega))
  have hsrc0 : Hid (∀ j b, (L.take n)[j]? = some b → (w.alloc (.cells (bv (List.replicate C 0)) 5)).cell? ((⟨q, 0, none⟩ : Addr).add j) = some (.int .u8 (b.toNat : Int))) := by
    have := (h.out.alloc (.cells (bv (List.replicate C 0)) 5)).src 0 n; rw [List.drop_zero] at this; exact this
  have hpp0 := Lib.hid (h.out.ptr.alloc (.cells (bv (List.replicate C 0)) 5))
  have hpn : Hid (¬ p ∈ [w.heap.size]) := by unfold Hid; simp; omega
  go_upto_region 4 with (fail)
  go_wp2_with (first | (at_make; refine wpList_make_bytes rfl _ _ rfl size C rfl rfl (by omega) (by omega) ?_) | ((with_reducible show wpList _ _ _ (⟨some 41, _, _, _, _, _⟩ :: _) _ _); refine wpList_copy_bytes rfl (.tmp 36) (.tmp 40) rfl _ _ _ _ _ _ rfl rfl w.heap.size 0 (List.replicate C 0) (L.take n) hb0.out hm.out ⟨q, 0, none⟩ (fun _ => rfl) (fun _ => rfl) hsrc0.out (by have := hln.out; simp; omega) ?_; intro w2 hb ht; have hpp2 := hpp0.out.turn ht hpn.out; have hc2 := hpp2.cell 0; have hf2 := hpp2.free 0; replace hpp2 := Lib.hid hpp2; replace hb := Lib.hid hb; replace ht := Lib.hid ht))
  go_ret
  have t1 : Turns [p] w w2 := ((Turns.refl [p] w).alloc _).next ht.out (fun x hx => Or.inr (by simp at hx; omega))
  have hq1 := hb.out.other p 0 (.slice (some ⟨w.heap.size, 0, none⟩) size C) (by omega)
  have hp1 := hpp2.out.set 0 (.slice (some ⟨w.heap.size, 0, none⟩) size C)
  have hC2 : (splice (List.replicate C (0 : UInt8)) 0 (L.take n)).length = C := by rw [hsl.out]; simp
  refine ⟨rfl, splice (List.replicate C 0) 0 (L.take n), ⟨?_, hq1, by omega, by omega, by omega, fun i hi hl => ?_⟩, ?_, t1.set p 0 _ (Or.inl (by simp))⟩
  · rw [hC2]; exact hp1
  · rw [splice_out _ _ _ (by rw [hln.out]; simp; omega) i (by rw [hln.out]; omega), List.getElem?_replicate, if_pos (by omega)]
  · apply List.ext_getElem?
    intro i
    rw [List.getElem?_take]
    by_cases hi : i < size
    · rw [if_pos hi, splice_get? _ _ _ (by rw [hln.out]; simp; omega), hln.out]
      by_cases hi2 : i < n
      · rw [if_pos (by omega), List.getElem?_append_left (by rw [hln.out]; exact hi2)]; rfl
      · rw [if_neg (by omega), List.getElem?_append_right (by rw [hln.out]; omega), List.getElem?_replicate, List.getElem?_replicate, if_pos (by omega), hln.out, if_pos (by omega)]
    · rw [if_neg hi, List.getElem?_append_right (by rw [hln.out]; omega), List.getElem?_replicate, hln.out, if_neg (by omega)]
end
end Go.Proofs.Ytpbalilnemjeeaa
/- What is proved here: the contract of a memory's Write. Conditions: a memory that is there, parts that lie in other blocks, whose lengths add up to an int. -/
namespace Go.Proofs.Ytpbalilnemjeeaa
set_option linter.unusedVariables false
set_option linter.unusedSimpArgs false
open Go.RowKit Pm
/-- a slice value that reads as these bytes, outside block q -/
def PartAt (w : World) (q : Nat) (v : Value) (s : List UInt8) : Prop :=
  ∃ A c, v = .slice A s.length c ∧ (0 < s.length → ∃ g o, A = some ⟨g, o, none⟩ ∧ g ≠ q ∧ ∀ j b, s[j]? = some b → w.cell? ⟨g, o + j, none⟩ = some (.int .u8 (b.toNat : Int)))
/-- a row of such slices -/
def PartsAt (w : World) (q : Nat) (PA : Option Addr) (ps : List (List UInt8)) : Prop :=
  ∀ i s, ps[i]? = some s → ∃ g o v, PA = some ⟨g, o, none⟩ ∧ g ≠ q ∧ w.cell? ⟨g, o + i, none⟩ = some v ∧ PartAt w q v s
theorem turn_cell {S : List Nat} {w w1 : World} (h : Turns S w w1) {g o : Nat} {v : Value} (hg : ¬ g ∈ S) (hc : w.cell? ⟨g, o, none⟩ = some v) : w1.cell? ⟨g, o, none⟩ = some v := by
  have hlt := World.block_lt_of_cell? w _ hc
  have e := h.block g hlt hg
  have : w1.cell? ⟨g, o, none⟩ = w.cell? ⟨g, o, none⟩ := by unfold World.cell?; simp only [e]
  rw [this]; exact hc
theorem PartAt.turn {w w1 : World} {q : Nat} {v : Value} {s : List UInt8} (h : PartAt w q v s) (ht : Turns [q] w w1) : PartAt w1 q v s := by
  obtain ⟨A, c, rfl, hp⟩ := h
  refine ⟨A, c, rfl, fun h0 => ?_⟩
  obtain ⟨g, o, rfl, hq, hc⟩ := hp h0
  exact ⟨g, o, rfl, hq, fun j b hb => turn_cell ht (by simp; exact hq) (hc j b hb)⟩
theorem PartsAt.turn {w w1 : World} {q : Nat} {PA : Option Addr} {ps : List (List UInt8)} (h : PartsAt w q PA ps) (ht : Turns [q] w w1) : PartsAt w1 q PA ps := by
  intro i s hs
  obtain ⟨g, o, v, rfl, hq, hc, hp⟩ := h i s hs
  exact ⟨g, o, v, rfl, hq, turn_cell ht (by simp; exact hq) hc, hp.turn ht⟩
theorem flat_succ (ps : List (List UInt8)) (i : Nat) (s : List UInt8) (h : ps[i]? = some s) : (ps.take (i + 1)).flatten = (ps.take i).flatten ++ s := by
  rw [List.take_add_one, h]; simp
theorem flat_le (ps : List (List UInt8)) (i : Nat) : (ps.take i).flatten.length ≤ ps.flatten.length := by
  have h : (ps.take i).flatten ++ (ps.drop i).flatten = ps.flatten := by rw [← List.flatten_append, List.take_append_drop]
  rw [← h]; simp
section
variable {w : World} {p q n : Nat} {L : List UInt8}
set_option maxHeartbeats 1000000 in
set_option maxRecDepth 100000 in
theorem write_out (h : MemAt w p q L n) (off : Int) (PA : Option Addr) (pc : Nat) (ps : List (List UInt8)) (hps : PartsAt w q PA ps) (hm : ps.length ≤ 4611686018427387904) (hT : ps.flatten.length ≤ 4611686018427387904) (hi : insF n off ps.flatten.length = false) :
    Calls Try.prog 67 #[.pointer (some ⟨p, 0, none⟩), .int .i64 off, .slice PA ps.length pc] w fun e w' => e = .returned (.int .i64 11) ∧ w = w' := by
  replace h := Lib.hid h
  replace hi := Lib.hid hi
  go_enter Try.func67, Try.ntmps67
  go_wp2_with fail
  go_loop [7, 14] (fun s i => ∃ j : Nat, j ≤ ps.length ∧ i = .int .i64 j ∧ s = .int .i64 (ps.take j).flatten.length) (fun _ i => (ps.length - (intOf i).toNat))
  case atStart => exact ⟨0, by omega, rfl, by simp⟩
  case round =>
    obtain ⟨j, hj, rfl, rfl⟩ := hrel
    by_cases hlt : j < ps.length
    · obtain ⟨s, hs⟩ : ∃ s, Hid (ps[j]? = some s) := ⟨_, List.getElem?_eq_getElem hlt⟩
      obtain ⟨g, o, v, rfl, hq, hc, A, c, rfl, hpp⟩ := hps j s hs.out
      have hF := Lib.hid (flat_succ ps j s hs.out)
      have hb1 : (ps.take j).flatten.length + s.length ≤ 4611686018427387904 := by
        have := flat_le ps (j + 1); rw [hF.out, List.length_append] at this; omega
      replace hpp := Lib.hid hpp
      obtain ⟨T, hT2⟩ : ∃ T, Hid (T = (ps.take j).flatten.length) := ⟨_, rfl⟩
      rw [← hT2.out] at hb1
      rw [← hT2.out]
      go_wp2_with fail
      go_round
      case rel => exact ⟨j + 1, by omega, by go_num, by rw [hF.out, List.length_append, ← hT2.out]; go_num⟩
      case measure => simp [intOf]; omega
    · have hje : j = ps.length := by omega
      have he : Hid ((ps.take j).flatten.length = ps.flatten.length) := by unfold Hid; rw [List.take_of_length_le (by omega)]
      obtain ⟨T, hT2⟩ : ∃ T, Hid (T = ps.flatten.length) := ⟨_, rfl⟩
      have hi' : Hid (insF n off (T : Int) = false) := by rw [hT2.out]; exact hi.out
      have hT' : T ≤ 4611686018427387904 := by rw [hT2.out]; exact hT
      rw [he.out, ← hT2.out]
      clear hje hT
      go_wp2_with (go_at_call 104; (with_reducible refine (inside_to h.out off _ false hi'.out).mono ?_); rintro e w' ⟨rfl, rfl⟩)
      go_ret
      exact ⟨rfl, rfl⟩
set_option maxHeartbeats 2000000 in
set_option maxRecDepth 100000 in
theorem write_in (h : MemAt w p q L n) (off : Nat) (PA : Option Addr) (pc : Nat) (ps : List (List UInt8)) (hps : PartsAt w q PA ps) (hm : ps.length ≤ 4611686018427387904) (hi : off + ps.flatten.length ≤ n) :
    Calls Try.prog 67 #[.pointer (some ⟨p, 0, none⟩), .int .i64 off, .slice PA ps.length pc] w fun e w' => e = .returned (.int .i64 0) ∧ MemAt w' p q (splice L off ps.flatten) n ∧ Turns [q] w w' := by
  have hn : n ≤ L.length := h.le
  have hn2 : L.length ≤ 134217728 := h.cap
  have hne := Lib.hid h.ne
  have hT : ps.flatten.length ≤ 4611686018427387904 := by omega
  replace h := Lib.hid h
  have hi2 := Lib.hid hi
  clear hi
  go_enter Try.func67, Try.ntmps67
  go_wp2_with fail
  go_loop [7, 14] (fun s i => ∃ j : Nat, j ≤ ps.length ∧ i = .int .i64 j ∧ s = .int .i64 (ps.take j).flatten.length) (fun _ i => (ps.length - (intOf i).toNat))
  case atStart => exact ⟨0, by omega, rfl, by simp⟩
  case round =>
    obtain ⟨j, hj, rfl, rfl⟩ := hrel
    by_cases hlt : j < ps.length
    · obtain ⟨s, hs⟩ : ∃ s, Hid (ps[j]? = some s) := ⟨_, List.getElem?_eq_getElem hlt⟩
      obtain ⟨g, o, v, rfl, hq, hc, A, c, rfl, hpp⟩ := hps j s hs.out
      have hF := Lib.hid (flat_succ ps j s hs.out)
      have hb1 : (ps.take j).flatten.length + s.length ≤ 4611686018427387904 := by
        have := flat_le ps (j + 1); rw [hF.out, List.length_append] at this; omega
      replace hpp := Lib.hid hpp
      obtain ⟨T, hT2⟩ : ∃ T, Hid (T = (ps.take j).flatten.length) := ⟨_, rfl⟩
      rw [← hT2.out] at hb1
      rw [← hT2.out]
      go_wp2_with fail
      go_round
      case rel => exact ⟨j + 1, by omega, by go_num, by rw [hF.out, List.length_append, ← hT2.out]; go_num⟩
      case measure => simp [intOf]; omega
    · have hje : j = ps.length := by omega
      have he : Hid ((ps.take j).flatten.length = ps.flatten.length) := by unfold Hid; rw [List.take_of_length_le (by omega)]
      obtain ⟨T, hT2⟩ : ∃ T, Hid (T = ps.flatten.length) := ⟨_, rfl⟩
      have hi' : off + T ≤ n := by rw [hT2.out]; exact hi2.out
      rw [he.out, ← hT2.out]
      clear hje hT
      go_wp2_with (go_at_call 104; (with_reducible refine (inside_to h.out off T true (ins_true (by omega) (by omega) (by omega))).mono ?_); rintro e w' ⟨rfl, rfl⟩)


      go_loopw [1, 30] (fun s i wr => ∃ j : Nat, j ≤ ps.length ∧ i = .int .i64 j ∧ s = .int .i64 ((off + (ps.take j).flatten.length : Nat) : Int) ∧ MemAt wr p q (splice L off (ps.take j).flatten) n ∧ Turns [q] w wr) (fun _ i _ => (ps.length - (intOf i).toNat))
      case atStart => exact ⟨0, by omega, rfl, by simp, by simpa [splice_nil] using h.out, Turns.refl _ _⟩
      case round =>
        obtain ⟨j, hj, rfl, rfl, hm2, ht⟩ := hrel
        replace ht := Lib.hid ht
        by_cases hlt : j < ps.length
        · obtain ⟨s, hs⟩ : ∃ s, Hid (ps[j]? = some s) := ⟨_, List.getElem?_eq_getElem hlt⟩
          obtain ⟨g, o, v, rfl, hq, hc, A, c, rfl, hpp⟩ := (hps.turn ht.out) j s hs.out
          replace hpp := Lib.hid hpp
          have hF := Lib.hid (flat_succ ps j s hs.out)
          have hb1 : off + (ps.take j).flatten.length + s.length ≤ n := by
            have := flat_le ps (j + 1); rw [hF.out, List.length_append] at this; have := hi2.out; omega
          have hlen := Lib.hid (splice_len L off (ps.take j).flatten (by omega))
          have hnx := Lib.hid (splice_splice_next L off (ps.take j).flatten s (by omega))
          obtain ⟨T2, hT3⟩ : ∃ T2, Hid (T2 = off + (ps.take j).flatten.length) := ⟨_, rfl⟩
          obtain ⟨D, hD⟩ : ∃ D, Hid (D = splice L off (ps.take j).flatten) := ⟨_, rfl⟩
          rw [← hD.out] at hm2
          rw [← hD.out, ← hT3.out, ← hF.out] at hnx
          rw [← hD.out] at hlen
          rw [← hT3.out] at hb1
          rw [← hT3.out]
          have hmc := hm2.ptrc
          have hD2 : D.length = L.length := hlen.out
          rw [hD2] at hmc
          have hdat := Lib.hid hm2.dat
          have hpp2 := Lib.hid hm2.ptr
          replace hm2 := Lib.hid hm2
          replace hD2 := Lib.hid hD2
          by_cases hs0 : s.length = 0
          · obtain rfl : s = [] := List.eq_nil_of_length_eq_zero hs0
            have hz : L.length = T2 ∨ ¬ L.length = T2 := by omega
            clear hs0
            rcases hz with rfl | hz
            all_goals
              go_wp2_with (((with_reducible show wpList _ _ _ (⟨some 42, _, _, _, _, _⟩ :: _) _ _); refine wpList_copy_bytes rfl (.tmp 40) (.tmp 41) rfl _ _ _ _ _ _ rfl rfl q 0 D [] hdat.out (by simp [Nat.min_def]) ⟨q, 0, none⟩ (fun h0 => absurd h0 (by simp)) (fun h0 => absurd h0 (by simp)) (fun j b hb => by simp at hb) (by simp) ?_; intro w2 hb ht2; replace hb := Lib.hid hb; replace ht2 := Lib.hid ht2))
              go_roundw
              case rel =>
                have hb' := hb.out
                rw [splice_nil] at hb'
                have e1 : (ps.take (j + 1)).flatten = (ps.take j).flatten := by rw [hF.out, List.append_nil]
                refine ⟨j + 1, by omega, by go_num, by rw [e1, ← hT3.out], ?_, ht.out.next ht2.out (fun x hx => Or.inl hx)⟩
                rw [e1, ← hD.out]
                exact ⟨hpp2.out.turn ht2.out (by have := hne.out; simp; exact this), hb', hne.out, hm2.out.le, hm2.out.cap, hm2.out.zer⟩
              case measure => simp [intOf]; omega
          · obtain ⟨g2, o2, rfl, hq2, hcs⟩ := hpp.out (by omega)
            have hz : ¬ L.length = T2 := by omega
            have hsrc : Hid (∀ j b, s[j]? = some b → wr.cell? ((⟨g2, o2, none⟩ : Addr).add j) = some (.int .u8 (b.toNat : Int))) := by
              intro j b hb
              have e : (⟨g2, o2, none⟩ : Addr).add j = ⟨g2, o2 + j, none⟩ := by unfold Addr.add; split <;> simp_all
              rw [e]; exact hcs j b hb
            clear hcs
            go_wp2_with (((with_reducible show wpList _ _ _ (⟨some 42, _, _, _, _, _⟩ :: _) _ _); refine wpList_copy_bytes rfl (.tmp 40) (.tmp 41) rfl _ _ _ _ _ _ rfl rfl q T2 D s hdat.out (by simp only [Nat.min_def]; split <;> omega) ⟨g2, o2, none⟩ (fun _ => rfl) (fun _ => rfl) hsrc.out (by have := hD2.out; omega) ?_; intro w2 hb ht2; replace hb := Lib.hid hb; replace ht2 := Lib.hid ht2))
            go_roundw
            case rel =>
              have hm3 := hm2.out.spliced T2 s hb1 (hpp2.out.turn ht2.out (by have := hne.out; simp; exact this)) hb.out
              rw [hnx.out] at hm3
              exact ⟨j + 1, by omega, by go_num, by rw [hF.out, List.length_append]; have := hT3.out; go_num, hm3, ht.out.next ht2.out (fun x hx => Or.inl hx)⟩
            case measure => simp [intOf]; omega
        · have hje : j = ps.length := by omega
          have he2 : Hid (MemAt wr p q (splice L off ps.flatten) n) := by
            rw [List.take_of_length_le (by omega)] at hm2; exact hm2
          clear hje hm2
          go_wp2_with fail
          go_ret
          exact ⟨rfl, he2.out, ht.out⟩
end
end Go.Proofs.Ytpbalilnemjeeaa
