/- What is proved here: plain facts on the reference's memory: what its list of acts says of each byte. No condition. -/
import Derived.Test.YtkchhggbiopffaaMLaw
import Derived.Laws.AppendOwn
namespace Go.Proofs.Ytkchhggbiopffaa
set_option linter.unusedVariables false
set_option linter.unusedSimpArgs false
open Go.RowKit Pm
/-- an act: its kind, span, source, byte, text -/
structure ActV where
  k : Nat
  off : Nat
  n : Nat
  src : Nat
  b : UInt8
  s : ByteArray
def ActV.cells (a : ActV) : List Value := [.int .i64 a.k, .int .i64 a.off, .int .i64 a.n, .int .i64 a.src, .int .u8 (a.b.toNat : Int), .string a.s]
structure ActV.Ok (a : ActV) : Prop where
  kind : a.k = 1 ∨ a.k = 2 ∨ a.k = 3
  span : a.off + a.n ≤ 134217728
  from' : a.src + a.n ≤ 134217728
  text : a.k = 2 → a.s.size = a.n
/-- the byte at a place; the latest act first -/
def atA : List ActV → Nat → UInt8
  | [], _ => 0
  | a :: r, p => if p < a.off ∨ a.off + a.n ≤ p then atA r p else if a.k = 1 then a.b else if a.k = 2 then a.s.data.toList.getD (p - a.off) 0 else atA r (a.src + (p - a.off))
theorem atA_out {a : ActV} {r : List ActV} {p : Nat} (h : p < a.off ∨ a.off + a.n ≤ p) : atA (a :: r) p = atA r p := by rw [atA, if_pos h]
theorem atA_fill {a : ActV} {r : List ActV} {p : Nat} (h : ¬ (p < a.off ∨ a.off + a.n ≤ p)) (hk : a.k = 1) : atA (a :: r) p = a.b := by rw [atA, if_neg h, if_pos hk]
theorem atA_laid {a : ActV} {r : List ActV} {p : Nat} (h : ¬ (p < a.off ∨ a.off + a.n ≤ p)) (hk : a.k = 2) : atA (a :: r) p = a.s.data.toList.getD (p - a.off) 0 := by rw [atA, if_neg h, if_neg (by omega), if_pos hk]
theorem atA_copy {a : ActV} {r : List ActV} {p : Nat} (h : ¬ (p < a.off ∨ a.off + a.n ≤ p)) (hk : a.k = 3) : atA (a :: r) p = atA r (a.src + (p - a.off)) := by rw [atA, if_neg h, if_neg (by omega), if_neg (by omega)]
theorem flat6 : ∀ (A : List ActV) (i : Nat) (a : ActV) (j : Nat) (v : Value), A[i]? = some a → a.cells[j]? = some v → (A.flatMap ActV.cells)[i * 6 + j]? = some v
  | [], i, a, j, v, h, _ => by simp at h
  | x :: r, 0, a, j, v, h, hv => by
    obtain rfl : x = a := by simpa using h
    have hj : j < x.cells.length := (List.getElem?_eq_some_iff.1 hv).1
    rw [List.flatMap_cons, Nat.zero_mul, Nat.zero_add, List.getElem?_append_left hj]; exact hv
  | x :: r, i + 1, a, j, v, h, hv => by
    have hl : x.cells.length = 6 := rfl
    rw [List.flatMap_cons, List.getElem?_append_right (by rw [hl]; omega), hl, show (i + 1) * 6 + j - 6 = i * 6 + j by omega]
    exact flat6 r i a j v (by simpa using h) hv
theorem flat6_len : ∀ A : List ActV, (A.flatMap ActV.cells).length = A.length * 6
  | [] => rfl
  | x :: r => by rw [List.flatMap_cons, List.length_append, flat6_len r, List.length_cons, show x.cells.length = 6 from rfl]; omega
theorem flat6_snoc (A : List ActV) (a : ActV) : (A ++ [a]).flatMap ActV.cells = A.flatMap ActV.cells ++ a.cells := by simp
theorem getD_splice (M cs : List UInt8) (off : Nat) (h : off + cs.length ≤ M.length) (p : Nat) : (splice M off cs).getD p 0 = if p < off ∨ off + cs.length ≤ p then M.getD p 0 else cs.getD (p - off) 0 := by
  simp only [List.getD]
  rw [splice_get? M off cs h]
  by_cases h1 : p < off ∨ off + cs.length ≤ p
  · rw [if_pos h1, if_neg (by omega)]
  · rw [if_neg h1, if_pos (by omega)]
/-- the reference's memory: its size, its acts, and the bytes that these say -/
structure RefAt (w : World) (r : Nat) (V : Value) (A : List ActV) (M : List UInt8) : Prop where
  ptr : Blk w r #[.int .i64 M.length, V] 78
  row : w.ownsRow 0 85 6 V A.length (A.flatMap ActV.cells)
  ok : ∀ a ∈ A, a.Ok
  sem : ∀ p, atA A.reverse p = M.getD p 0
  cap : M.length ≤ 134217728
section
variable {w w' : World} {r : Nat} {V : Value} {A : List ActV} {M : List UInt8}
theorem row_keep {base size n : Nat} {e : TypeId} {xs : List Value} (h : w.ownsRow base e size V n xs) (he : ∀ g, V.ownBlock = some g → w'.heap[g]? = w.heap[g]?) : w'.ownsRow base e size V n xs := by
  refine ⟨h.1, ?_⟩
  rcases h.2 with a | ⟨g, cap, cur, rfl, h1, h2, h3⟩
  · exact Or.inl a
  · exact Or.inr ⟨g, cap, cur, rfl, h1, (he g rfl).trans h2, h3⟩
theorem row_lt {base size n : Nat} {e : TypeId} {xs : List Value} (h : w.ownsRow base e size V n xs) (g : Nat) (hg : V.ownBlock = some g) : g < w.heap.size := by
  rcases h.2 with ⟨rfl, _⟩ | ⟨g', cap, cur, rfl, h1, h2, h3⟩
  · cases hg
  · obtain rfl : g' = g := by simpa [Value.ownBlock] using hg
    exact (Array.getElem?_eq_some_iff.1 h2).1
theorem RefAt.at (h : RefAt w r V A M) (h1 : w'.heap[r]? = w.heap[r]?) (h2 : ∀ g, V.ownBlock = some g → w'.heap[g]? = w.heap[g]?) : RefAt w' r V A M :=
  ⟨h1.trans h.ptr, row_keep h.row h2, h.ok, h.sem, h.cap⟩
theorem RefAt.keep (h : RefAt w r V A M) (hb : Below w.heap.size w w') : RefAt w' r V A M :=
  h.at (hb.block r h.ptr.lt) (fun g hg => hb.block g (row_lt h.row g hg))
theorem RefAt.turn {S : List Nat} (h : RefAt w r V A M) (ht : Turns S w w') (hr : ¬ r ∈ S) (hg : ∀ g, V.ownBlock = some g → ¬ g ∈ S) : RefAt w' r V A M :=
  h.at (ht.block r h.ptr.lt hr) (fun g h1 => ht.block g (row_lt h.row g h1) (hg g h1))
theorem RefAt.drew (h : RefAt w r V A M) : RefAt w.drew r V A M := h.keep (Below.refl _ _).drew
theorem RefAt.drewN (h : RefAt w r V A M) (n : Nat) : RefAt (w.drewN n) r V A M := h.keep (below_drewN (Below.refl _ _) n)
theorem RefAt.alloc (h : RefAt w r V A M) (o : Obj) : RefAt (w.alloc o) r V A M := h.keep ((Below.refl _ _).alloc (Nat.le_refl _) o)
theorem RefAt.c0 (h : RefAt w r V A M) : w.cell? ⟨r, 0, none⟩ = some (.int .i64 M.length) := h.ptr.cell 0
theorem RefAt.c1 (h : RefAt w r V A M) : w.cell? ⟨r, 1, none⟩ = some V := h.ptr.cell 1
theorem RefAt.ne (h : RefAt w r V A M) : V.ownBlock ≠ some r := by
  intro e
  rcases h.row.2 with ⟨rfl, _⟩ | ⟨g', cap, cur, rfl, h1, h2, h3⟩
  · cases e
  · obtain rfl : g' = r := by simpa [Value.ownBlock] using e
    have := h.ptr
    unfold Blk at this
    rw [h2] at this
    injection this with this
    injection this with _ h4 _
    exact absurd h4 (by decide)
/-- an act's cells -/
theorem RefAt.act (h : RefAt w r V A M) (i : Nat) (a : ActV) (ha : A[i]? = some a) : ∃ g cap, V = .slice (some ⟨g, 0, none⟩) A.length cap ∧ ∀ j v, a.cells[j]? = some v → w.cell? ⟨g, i * 6 + j, none⟩ = some v := by
  have hc := fun g => h.row.cells (g := g)
  rcases h.row.2 with ⟨rfl, h0⟩ | ⟨g, cap, cur, rfl, h1, h2, h3⟩
  · have := (List.getElem?_eq_some_iff.1 ha).1; omega
  · refine ⟨g, cap, rfl, fun j v hv => ?_⟩
    have := hc g rfl (i * 6 + j) v (flat6 A i a j v ha hv)
    rw [Addr.add_lit] at this
    simpa using this
end
end Go.Proofs.Ytkchhggbiopffaa
