/- What is proved here: what a memory and its book keep over a call. Conditions: a memory, and a book of pages apart from it. -/
import Derived.Test.YtkchhggbiopffaaQApp
import Derived.Test.YtkchhggbiopffaaPMain
namespace Go.Proofs.Ytkchhggbiopffaa
set_option linter.unusedVariables false
set_option linter.unusedSimpArgs false
open Go.RowKit Pm
structure Lst (w0 w : World) (p q n : Nat) (L : List UInt8) (V : Value) (B : List PageV) : Prop where
  mem : MemAt w p q L n
  book : BookAt w0 w p q V B
  below : Below w0.heap.size w0 w
  hp : w0.heap.size ≤ p
  hq : w0.heap.size ≤ q
section
variable {w0 w w' : World} {p q q' n n' : Nat} {L L' : List UInt8} {V v' : Value} {B : List PageV} {a : PageV}
theorem Lst.bp (h : Lst w0 w p q n L V B) (g : Nat) (hg : V.ownBlock = some g) : g ≠ p := row_apart h.mem.ptr h.book.row (by decide) g hg
theorem Lst.bq (h : Lst w0 w p q n L V B) (g : Nat) (hg : V.ownBlock = some g) : g ≠ q := row_apart h.mem.dat h.book.row (by decide) g hg
theorem Lst.keep (h : Lst w0 w p q n L V B) (hb : Below w.heap.size w w') : Lst w0 w' p q n L V B := ⟨h.mem.keep hb, h.book.keep hb, Below.then h.below hb, h.hp, h.hq⟩
/-- the memory's own call -/
theorem Lst.step {S : List Nat} (h : Lst w0 w p q n L V B) (ht : Turns S w w') (hS : ∀ x, x ∈ S → x = p ∨ x = q) (hm : MemAt w' p q' L' n') (hq : q' = q ∨ w.heap.size ≤ q') : Lst w0 w' p q' n' L' V B := by
  refine ⟨hm, ⟨row_keep h.book.row (fun g hg => ht.block g (row_lt h.book.row g hg) (fun hx => ?_)), fun a ha => (h.book.pages a ha).turn ht (fun x hx => Or.inl ?_) (fun x hx => ?_)⟩, Turns.below h.below ht (fun x hx => ?_) h.below.size, h.hp, ?_⟩
  · rcases hS g hx with e | e
    · exact h.bp g hg e
    · exact h.bq g hg e
  · rcases hS x hx with rfl | rfl <;> simp
  · simp only [List.mem_cons] at hx ⊢
    rcases hx with e | e | e
    · exact Or.inl (Or.inl e)
    · rcases hq with hq | hq
      · exact Or.inl (Or.inr (Or.inl (by rw [e, hq])))
      · exact Or.inr (by rw [e]; exact hq)
    · exact Or.inl (Or.inr (Or.inr e))
  · rcases hS x hx with rfl | rfl
    · exact h.hp
    · exact h.hq
  · rcases hq with rfl | hq
    · exact h.hq
    · exact Nat.le_trans h.below.size hq
theorem turns_of_grown {row : Option Nat} (hg : w.grownBy w' row) : Turns row.toList w w' := ⟨hg.os, hg.tape, hg.output, hg.size, fun k hk hn => hg.block k hk (fun e => hn (by rw [← e]; simp))⟩
/-- a page joins the book -/
theorem Lst.joined (h : Lst w0 w p q n L V B) (ha : PageOk w (p :: q :: V.ownBlock.toList) a) (hown : w'.ownsRow w0.heap.size 73 5 v' (B.length + 1) (B.flatMap PageV.cells ++ a.cells)) (hg : w.grownBy w' V.ownBlock) (hm : MovedTo w V v') :
    Lst w0 w' p q n L v' (B ++ [a]) := by
  have ht := turns_of_grown hg
  have hin : ∀ x, x ∈ V.ownBlock.toList → x ∈ p :: q :: V.ownBlock.toList ∨ w.heap.size ≤ x := fun x hx => Or.inl (by simp only [List.mem_cons]; exact Or.inr (Or.inr hx))
  have hin2 : ∀ x, x ∈ p :: q :: v'.ownBlock.toList → x ∈ p :: q :: V.ownBlock.toList ∨ w.heap.size ≤ x := by
    intro x hx
    simp only [List.mem_cons] at hx ⊢
    rcases hx with e | e | e
    · exact Or.inl (Or.inl e)
    · exact Or.inl (Or.inr (Or.inl e))
    · rcases hm with hm | ⟨k, hk, hk2⟩
      · rw [hm] at e; exact Or.inl (Or.inr (Or.inr e))
      · rw [hk] at e; simp at e; subst e; exact Or.inr hk2
  refine ⟨h.mem.turn ht (fun hx => ?_) (fun hx => ?_), ⟨?_, fun b hb => ?_⟩, Turns.below h.below ht (fun x hx => ?_) h.below.size, h.hp, h.hq⟩
  · exact h.bp p (by simpa using hx) rfl
  · exact h.bq q (by simpa using hx) rfl
  · rw [List.length_append, List.flatMap_append]
    simpa using hown
  · rcases List.mem_append.1 hb with hb | hb
    · exact (h.book.pages b hb).turn ht hin hin2
    · obtain rfl : b = a := by simpa using hb
      exact ha.turn ht hin hin2
  · exact row_base h.book.row x (by simpa using hx)
/-- a list that was made since, and turned -/
theorem Lst.page (h : Lst w0 w p q n L V B) {W W' : World} {g k : Nat} {m : UInt8} {v1 v2 v3 : Value} (hw : w.heap.size ≤ W.heap.size) (hg : w.heap.size ≤ g) (hk : k ≤ 134217728) (h1 : NewIn W W' v1 (marks m k 1)) (h2 : NewIn W W' v2 (marks m k 2)) (h3 : NewIn W W' v3 (marks m k 3)) (hb : Blk W' g (bv (List.replicate k m)) 5) :
    PageOk W' (p :: q :: V.ownBlock.toList) ⟨.slice (some ⟨g, 0, none⟩) k k, v1, v2, v3, m, k⟩ := by
  have hin : ∀ x, x ∈ p :: q :: V.ownBlock.toList → x < w.heap.size := by
    intro x hx
    simp only [List.mem_cons, Option.mem_toList] at hx
    rcases hx with rfl | rfl | e
    · exact h.mem.ptr.lt
    · exact h.mem.dat.lt
    · exact row_lt h.book.row x e
  have hnew : ∀ {v : Value} {X : List UInt8}, NewIn W W' v X → SliceIn W' (p :: q :: V.ownBlock.toList) v X := by
    rintro v X ⟨g, c, e, h4, h5, h6⟩
    exact ⟨g, c, e, fun hm => by have := hin g hm; omega, h5, h6⟩
  refine ⟨hk, ⟨g, k, by rw [marks_len]; rfl, fun hm => by have := hin g hm; omega, hb.lt, fun j b hj => ?_⟩, hnew h1, hnew h2, hnew h3⟩
  rw [hb.cell, bv_get?]
  have e : marks m k 0 = List.replicate k m := by simp [marks]
  rw [e] at hj
  rw [hj]; rfl
end
end Go.Proofs.Ytkchhggbiopffaa
