/- What is proved here: the contract of the law's own holds: a book of pages that hold their marks. Conditions: such a book lies in memory. -/
import Derived.Test.YtkchhggbiopffaaQAll
namespace Go.Proofs.Ytkchhggbiopffaa
set_option linter.unusedVariables false
set_option linter.unusedSimpArgs false
open Go.RowKit Pm
/-- a list in a block of its own, other than these blocks -/
def SliceIn (W : World) (S : List Nat) (v : Value) (X : List UInt8) : Prop :=
  ∃ g c, v = .slice (some ⟨g, 0, none⟩) X.length c ∧ ¬ g ∈ S ∧ g < W.heap.size ∧ ∀ (j : Nat) (b : UInt8), X[j]? = some b → W.cell? ⟨g, j, none⟩ = some (.int .u8 (b.toNat : Int))
structure PageV where
  l : Value
  g1 : Value
  g2 : Value
  g3 : Value
  m : UInt8
  n : Nat
def PageV.cells (a : PageV) : List Value := [a.l, a.g1, a.g2, a.g3, .int .u8 (a.m.toNat : Int)]
structure PageOk (W : World) (S : List Nat) (a : PageV) : Prop where
  n : a.n ≤ 134217728
  l : SliceIn W S a.l (marks a.m a.n 0)
  g1 : SliceIn W S a.g1 (marks a.m a.n 1)
  g2 : SliceIn W S a.g2 (marks a.m a.n 2)
  g3 : SliceIn W S a.g3 (marks a.m a.n 3)
section
variable {W W' : World} {S S' T : List Nat} {v : Value} {X : List UInt8} {a : PageV}
theorem SliceIn.turn (h : SliceIn W S v X) (ht : Turns T W W') (hT : ∀ x, x ∈ T → x ∈ S ∨ W.heap.size ≤ x) (hS : ∀ x, x ∈ S' → x ∈ S ∨ W.heap.size ≤ x) : SliceIn W' S' v X := by
  obtain ⟨g, c, e, h1, h2, hc⟩ := h
  refine ⟨g, c, e, fun hm => ?_, Nat.lt_of_lt_of_le h2 ht.size, fun j b hj => turn_cell ht (fun hm => ?_) (hc j b hj)⟩
  · rcases hS g hm with e | e
    · exact h1 e
    · omega
  · rcases hT g hm with e | e
    · exact h1 e
    · omega
theorem PageOk.turn (h : PageOk W S a) (ht : Turns T W W') (hT : ∀ x, x ∈ T → x ∈ S ∨ W.heap.size ≤ x) (hS : ∀ x, x ∈ S' → x ∈ S ∨ W.heap.size ≤ x) : PageOk W' S' a :=
  ⟨h.n, h.l.turn ht hT hS, h.g1.turn ht hT hS, h.g2.turn ht hT hS, h.g3.turn ht hT hS⟩
theorem SliceIn.keep (h : SliceIn W S v X) (hb : Below W.heap.size W W') : SliceIn W' S v X := h.turn (Turns.of_below (S := []) hb) (fun x hx => by simp at hx) (fun x hx => Or.inl hx)
theorem PageOk.keep (h : PageOk W S a) (hb : Below W.heap.size W W') : PageOk W' S a := h.turn (Turns.of_below (S := []) hb) (fun x hx => by simp at hx) (fun x hx => Or.inl hx)
end
theorem flat5 : ∀ (A : List PageV) (i : Nat) (a : PageV) (j : Nat) (v : Value), A[i]? = some a → a.cells[j]? = some v → (A.flatMap PageV.cells)[i * 5 + j]? = some v
  | [], i, a, j, v, h, _ => by simp at h
  | x :: r, 0, a, j, v, h, hv => by
    obtain rfl : x = a := by simpa using h
    have hj : j < x.cells.length := (List.getElem?_eq_some_iff.1 hv).1
    rw [List.flatMap_cons, Nat.zero_mul, Nat.zero_add, List.getElem?_append_left hj]; exact hv
  | x :: r, i + 1, a, j, v, h, hv => by
    have hl : x.cells.length = 5 := rfl
    rw [List.flatMap_cons, List.getElem?_append_right (by rw [hl]; omega), hl, show (i + 1) * 5 + j - 5 = i * 5 + j by omega]
    exact flat5 r i a j v (by simpa using h) hv
/-- a book of pages -/
structure BookAt (w0 W : World) (p q : Nat) (bv : Value) (B : List PageV) : Prop where
  row : W.ownsRow w0.heap.size 73 5 bv B.length (B.flatMap PageV.cells)
  pages : ∀ a ∈ B, PageOk W (p :: q :: bv.ownBlock.toList) a
section
variable {w0 W W' : World} {p q q' : Nat} {bv : Value} {B : List PageV}
theorem BookAt.keep (h : BookAt w0 W p q bv B) (hb : Below W.heap.size W W') : BookAt w0 W' p q bv B :=
  ⟨row_keep h.row (fun g hg => hb.block g (row_lt h.row g hg)), fun a ha => (h.pages a ha).keep hb⟩
theorem BookAt.cells (h : BookAt w0 W p q bv B) (i : Nat) (a : PageV) (ha : B[i]? = some a) : ∃ g cap, bv = .slice (some ⟨g, 0, none⟩) B.length cap ∧ ∀ j v, a.cells[j]? = some v → W.cell? ⟨g, i * 5 + j, none⟩ = some v := by
  have hc := fun g => h.row.cells (g := g)
  rcases h.row.2 with ⟨rfl, h0⟩ | ⟨g, cap, cur, rfl, h1, h2, h3⟩
  · have := (List.getElem?_eq_some_iff.1 ha).1; omega
  · refine ⟨g, cap, rfl, fun j v hv => ?_⟩
    have := hc g rfl (i * 5 + j) v (flat5 B i a j v ha hv)
    rw [Addr.add_lit] at this
    simpa using this
theorem BookAt.lit (h : BookAt w0 W p q bv B) : ∃ A cap, bv = .slice A B.length cap := by
  rcases h.row.2 with ⟨rfl, h0⟩ | ⟨g, cap, cur, rfl, _⟩
  · exact ⟨none, 0, by rw [h0]⟩
  · exact ⟨_, cap, rfl⟩
end
theorem all_in {w : World} {S : List Nat} {v : Value} {m : UInt8} {n k : Nat} (h : SliceIn w S v (marks m n k)) (hk : k ≤ 3) (hn : n ≤ 134217728) (K : Int) (hK : K = k) :
    Calls Try.prog 37 #[v, .int .u8 (m.toNat : Int), .int .i64 n, .int .i64 K] w fun e w' => e = .returned (.bool true) ∧ w = w' := by
  subst hK
  obtain ⟨g, c, rfl, _, _, hc⟩ := h
  rw [marks_len]
  exact all_to w g c m n k hk hn hc
set_option maxHeartbeats 1000000 in
set_option maxRecDepth 100000 in
theorem holds_any {w0 w : World} {p q : Nat} {bv : Value} {B : List PageV} (h : BookAt w0 w p q bv B) (hl : B.length ≤ 100000000) : Calls Try.prog 29 #[bv] w fun e w' => e = .returned (.bool true) ∧ Below w.heap.size w w' := by
  obtain ⟨A, cap, rfl⟩ := h.lit
  obtain ⟨ln, hln⟩ : ∃ n, B.length = n := ⟨_, rfl⟩
  rw [hln]
  rw [hln] at hl
  have hB0 : Below w.heap.size w w := Below.refl _ _
  replace h := Lib.hid h
  go_enter Try.func29, Try.ntmps29
  go_wp2_with fail
  go_loopw [8] (fun iv wr => ∃ j : Nat, j ≤ ln ∧ iv = .int .i64 j ∧ Hid (Below w.heap.size w wr)) (fun iv _ => (ln - intOf iv).toNat)
  case atStart => exact ⟨0, by omega, rfl, hB0⟩
  case round =>
    obtain ⟨j, hj, rfl, hB⟩ := hrel
    by_cases hlt : j < ln
    · have hK := h.out.keep hB.out
      obtain ⟨a, ha⟩ : ∃ a, Hid (B[j]? = some a) := ⟨_, List.getElem?_eq_getElem (by omega)⟩
      obtain ⟨g, cap', hVe, hcs⟩ := hK.cells j a ha.out
      have hP := hK.pages a (List.mem_of_getElem? ha.out)
      obtain ⟨rfl, -, rfl⟩ : A = some ⟨g, 0, none⟩ ∧ B.length = B.length ∧ cap = cap' := by simpa using hVe
      clear hVe hK
      obtain ⟨l, g1, g2, g3, m, n⟩ := a
      obtain ⟨hn, hL, h1, h2, h3⟩ := hP
      simp only at hn hL h1 h2 h3
      obtain ⟨gl, y0, rfl, -, -, -⟩ := id hL
      obtain ⟨ga, y1, rfl, -, -, -⟩ := id h1
      obtain ⟨gb, y2, rfl, -, -, -⟩ := id h2
      obtain ⟨gc, y3, rfl, -, -, -⟩ := id h3
      simp only [marks_len, Nat.add_zero] at hL h1 h2 h3
      have c0 := hcs 0 _ rfl
      have c1 := hcs 1 _ rfl
      have c2 := hcs 2 _ rfl
      have c3 := hcs 3 _ rfl
      have c4 := hcs 4 _ rfl
      simp only [Nat.add_zero, marks_len] at c0 c1 c2 c3
      clear hcs ha
      have j0 : (0 : Int) ≤ j := by omega
      have j1 : (j : Int) < ln := by omega
      replace hL := Lib.hid hL
      replace h1 := Lib.hid h1
      replace h2 := Lib.hid h2
      replace h3 := Lib.hid h3
      go_upto_region 4 with (fail)
      have hO := Blk.new wr #[.slice (some ⟨gl, 0, none⟩) n y0, .slice (some ⟨ga, 0, none⟩) (n + 1) y1, .slice (some ⟨gb, 0, none⟩) (n + 2) y2, .slice (some ⟨gc, 0, none⟩) (n + 3) y3, .int .u8 (m.toNat : Int)] 73
      have hX := (Below.refl wr.heap.size wr).alloc (Nat.le_refl _) (.cells #[.slice (some ⟨gl, 0, none⟩) n y0, .slice (some ⟨ga, 0, none⟩) (n + 1) y1, .slice (some ⟨gb, 0, none⟩) (n + 2) y2, .slice (some ⟨gc, 0, none⟩) (n + 3) y3, .int .u8 (m.toNat : Int)] 73)
      obtain ⟨ob, hob⟩ : ∃ ob, Hid (ob = wr.heap.size) := ⟨_, rfl⟩
      rw [← hob.out] at hO
      rw [← hob.out]
      generalize World.alloc wr _ = wx at hO hX ⊢
      have hBx := Lib.hid (Below.then hB.out hX)
      replace hL := Lib.hid (hL.out.keep hX)
      replace h1 := Lib.hid (h1.out.keep hX)
      replace h2 := Lib.hid (h2.out.keep hX)
      replace h3 := Lib.hid (h3.out.keep hX)
      have o0 := hO.cell 0
      have o1 := hO.cell 1
      have o2 := hO.cell 2
      have o3 := hO.cell 3
      have o4 := hO.cell 4
      clear c0 c1 c2 c3 c4 hO hX hB
      go_wp2_with (go_at_call 37; (first | (with_reducible refine (all_in (k := 0) hL.out (by decide) hn 0 rfl).mono ?_) | (with_reducible refine (all_in (k := 1) h1.out (by decide) hn 1 rfl).mono ?_) | (with_reducible refine (all_in (k := 2) h2.out (by decide) hn 2 rfl).mono ?_) | (with_reducible refine (all_in (k := 3) h3.out (by decide) hn 3 rfl).mono ?_)); rintro e w' ⟨rfl, rfl⟩)
      go_roundw
      case rel => exact ⟨j + 1, by omega, by go_num, by first | exact hBx | exact Lib.hid hBx.out.drew | exact Lib.hid (hBx.out.drewN _)⟩
      case measure => simp [intOf]; omega
    · obtain rfl : j = ln := by omega
      go_wp2_with fail
      go_ret
      exact ⟨rfl, hB.out⟩
end Go.Proofs.Ytkchhggbiopffaa
