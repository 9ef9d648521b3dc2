/- What is proved here: the walk of the law LayoutSays. The numbers are ints. -/
import Derived.Test.YtlfppmdehkhjiaaLState
import Derived.Test.YtlfppmdehkhjiaaLTurned
namespace Go.Proofs.Ytlfppmdehkhjiaa
set_option linter.unusedVariables false
set_option linter.unusedSimpArgs false
open Go.RowKit Pl
theorem says_conj {w W : World} {rb g b : Nat} {K E A B C D X k e ka ea c eo bo sl gr : Int} (h : St w rb g b #[.int .i64 K, .int .i64 E, .int .i64 A, .int .i64 B, .int .i64 C, .int .i64 D, .int .i64 X] #[.int .i64 k, .int .i64 e, .int .i64 ka, .int .i64 ea, .int .i64 c] #[.int .i64 k, .int .i64 e, .int .i64 ka, .int .i64 ea, .int .i64 c, .int .i64 eo, .int .i64 bo, .int .i64 sl, .int .i64 gr] W) :
    Below w.heap.size w W ∧ Blk W rb #[.int .i64 K, .int .i64 E, .int .i64 A, .int .i64 B, .int .i64 C, .int .i64 D, .int .i64 X] 36 ∧ Blk W g #[.int .i64 k, .int .i64 e, .int .i64 ka, .int .i64 ea, .int .i64 c] 3 ∧ Blk W b #[.int .i64 k, .int .i64 e, .int .i64 ka, .int .i64 ea, .int .i64 c, .int .i64 eo, .int .i64 bo, .int .i64 sl, .int .i64 gr] 24 ∧
    W.cell? ⟨g, 0, none⟩ = some (.int .i64 k) ∧ W.cell? ⟨g, 1, none⟩ = some (.int .i64 e) ∧ W.cell? ⟨g, 2, none⟩ = some (.int .i64 ka) ∧ W.cell? ⟨g, 3, none⟩ = some (.int .i64 ea) ∧ W.cell? ⟨g, 4, none⟩ = some (.int .i64 c) :=
  ⟨h.below, h.r, h.f, h.l, h.f.cell 0, h.f.cell 1, h.f.cell 2, h.f.cell 3, h.f.cell 4⟩
theorem St.setLq {w0 w : World} {rb g b : Nat} {R F L L2 : Array Value} (h : St w0 rb g b R F L w) (i : Nat) (v : Value) (hL : L.setIfInBounds i v = L2) (h0 : w0.heap.size ≤ b) (h1 : b ≠ rb) (h2 : b ≠ g) : St w0 rb g b R F L2 (w.setCell ⟨b, i, none⟩ v) := by
  subst hL; exact h.setL i v h0 h1 h2
theorem St.setL9 {w0 w : World} {rb g b : Nat} {R F : Array Value} {l0 l1 l2 l3 l4 l5 l6 l7 l8 : Value} (h : St w0 rb g b R F #[l0, l1, l2, l3, l4, l5, l6, l7, l8] w) (m0 m1 m2 m3 m4 m5 m6 m7 m8 : Value) (h0 : w0.heap.size ≤ b) (h1 : b ≠ rb) (h2 : b ≠ g) :
    St w0 rb g b R F #[m0, m1, m2, m3, m4, m5, m6, m7, m8] (((((((((w.setCell ⟨b, 0, none⟩ m0).setCell ⟨b, 1, none⟩ m1).setCell ⟨b, 2, none⟩ m2).setCell ⟨b, 3, none⟩ m3).setCell ⟨b, 4, none⟩ m4).setCell ⟨b, 5, none⟩ m5).setCell ⟨b, 6, none⟩ m6).setCell ⟨b, 7, none⟩ m7).setCell ⟨b, 8, none⟩ m8) := by
  have h3 := h.setLq 0 m0 (L2 := #[m0, l1, l2, l3, l4, l5, l6, l7, l8]) (by simp) h0 h1 h2
  have h4 := h3.setLq 1 m1 (L2 := #[m0, m1, l2, l3, l4, l5, l6, l7, l8]) (by simp) h0 h1 h2
  have h5 := h4.setLq 2 m2 (L2 := #[m0, m1, m2, l3, l4, l5, l6, l7, l8]) (by simp) h0 h1 h2
  have h6 := h5.setLq 3 m3 (L2 := #[m0, m1, m2, m3, l4, l5, l6, l7, l8]) (by simp) h0 h1 h2
  have h7 := h6.setLq 4 m4 (L2 := #[m0, m1, m2, m3, m4, l5, l6, l7, l8]) (by simp) h0 h1 h2
  have h8 := h7.setLq 5 m5 (L2 := #[m0, m1, m2, m3, m4, m5, l6, l7, l8]) (by simp) h0 h1 h2
  have h9 := h8.setLq 6 m6 (L2 := #[m0, m1, m2, m3, m4, m5, m6, l7, l8]) (by simp) h0 h1 h2
  have h10 := h9.setLq 7 m7 (L2 := #[m0, m1, m2, m3, m4, m5, m6, m7, l8]) (by simp) h0 h1 h2
  have h11 := h10.setLq 8 m8 (L2 := #[m0, m1, m2, m3, m4, m5, m6, m7, m8]) (by simp) h0 h1 h2
  exact h11
theorem St.setF5 {w0 w : World} {rb g b : Nat} {R L : Array Value} {F F2 : Array Value} (h : St w0 rb g b R F L w) (i : Nat) (v : Value) (hF : F.setIfInBounds i v = F2) (h0 : w0.heap.size ≤ g) (h1 : g ≠ rb) (h2 : g ≠ b) : St w0 rb g b R F2 L (w.setCell ⟨g, i, none⟩ v) := by
  subst hF; exact h.setF i v h0 h1 h2
theorem says_conj2 {w W : World} {rb g b : Nat} {R : Array Value} {f0 f1 f2 f3 f4 l0 l1 l2 l3 l4 l5 l6 l7 l8 : Value} (h : St w rb g b R #[f0, f1, f2, f3, f4] #[l0, l1, l2, l3, l4, l5, l6, l7, l8] W) :
    Below w.heap.size w W ∧ Blk W rb R 36 ∧ Blk W g #[f0, f1, f2, f3, f4] 3 ∧ Blk W b #[l0, l1, l2, l3, l4, l5, l6, l7, l8] 24 ∧
    W.cell? ⟨g, 0, none⟩ = some f0 ∧ W.cell? ⟨g, 1, none⟩ = some f1 ∧ W.cell? ⟨g, 2, none⟩ = some f2 ∧ W.cell? ⟨g, 3, none⟩ = some f3 ∧ W.cell? ⟨g, 4, none⟩ = some f4 ∧
    W.cell? ⟨b, 0, none⟩ = some l0 ∧ W.cell? ⟨b, 1, none⟩ = some l1 ∧ W.cell? ⟨b, 2, none⟩ = some l2 ∧ W.cell? ⟨b, 3, none⟩ = some l3 ∧ W.cell? ⟨b, 4, none⟩ = some l4 ∧ W.cell? ⟨b, 5, none⟩ = some l5 ∧ W.cell? ⟨b, 6, none⟩ = some l6 ∧ W.cell? ⟨b, 7, none⟩ = some l7 ∧ W.cell? ⟨b, 8, none⟩ = some l8 :=
  ⟨h.below, h.r, h.f, h.l, h.f.cell 0, h.f.cell 1, h.f.cell 2, h.f.cell 3, h.f.cell 4, h.l.cell 0, h.l.cell 1, h.l.cell 2, h.l.cell 3, h.l.cell 4, h.l.cell 5, h.l.cell 6, h.l.cell 7, h.l.cell 8⟩
end Go.Proofs.Ytlfppmdehkhjiaa
