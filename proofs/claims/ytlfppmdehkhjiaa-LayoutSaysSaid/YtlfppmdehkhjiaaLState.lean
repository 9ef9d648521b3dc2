/- What is proved here: three blocks that are known whole, behind calls, draws, stores and new blocks; Parse at a list of another length. No condition. -/
import Derived.Test.YtlfppmdehkhjiaaLBox
import Derived.Test.YtlfppmdehkhjiaaBlk
namespace Go.Proofs.Ytlfppmdehkhjiaa
set_option linter.unusedVariables false
set_option linter.unusedSimpArgs false
open Go.RowKit Pl
structure St (w0 : World) (rb g b : Nat) (R F L : Array Value) (w : World) : Prop where
  below : Below w0.heap.size w0 w
  r : Blk w rb R 36
  f : Blk w g F 3
  l : Blk w b L 24
section
variable {w0 w : World} {rb g b : Nat} {R F L : Array Value}
theorem St.keep (h : St w0 rb g b R F L w) (w' : World) (hb : Below w.heap.size w w') : St w0 rb g b R F L w' := ⟨Below.then h.below hb, h.r.keep hb, h.f.keep hb, h.l.keep hb⟩
theorem St.drewN (h : St w0 rb g b R F L w) (n : Nat) : St w0 rb g b R F L (w.drewN n) := ⟨below_drewN h.below n, h.r, h.f, h.l⟩
theorem St.drew (h : St w0 rb g b R F L w) : St w0 rb g b R F L w.drew := ⟨h.below.drew, h.r, h.f, h.l⟩
theorem St.alloc (h : St w0 rb g b R F L w) (o : Obj) : St w0 rb g b R F L (w.alloc o) := h.keep _ ((Below.refl _ _).alloc (Nat.le_refl _) _)
theorem St.set (h : St w0 rb g b R F L w) (q i : Nat) (v : Value) (h0 : w0.heap.size ≤ q) (h1 : q ≠ rb) (h2 : q ≠ g) (h3 : q ≠ b) : St w0 rb g b R F L (w.setCell ⟨q, i, none⟩ v) :=
  ⟨h.below.setCell h0 v, h.r.other q i v h1, h.f.other q i v h2, h.l.other q i v h3⟩
theorem St.set9 {wx : World} (h : St w0 rb g b R F L w) (hx : St w0 rb g b R F L wx) (v0 v1 v2 v3 v4 v5 v6 v7 v8 : Value) :
    St w0 rb g b R F L (((((((((w.setCell ⟨wx.heap.size, 0, none⟩ v0).setCell ⟨wx.heap.size, 1, none⟩ v1).setCell ⟨wx.heap.size, 2, none⟩ v2).setCell ⟨wx.heap.size, 3, none⟩ v3).setCell ⟨wx.heap.size, 4, none⟩ v4).setCell ⟨wx.heap.size, 5, none⟩ v5).setCell ⟨wx.heap.size, 6, none⟩ v6).setCell ⟨wx.heap.size, 7, none⟩ v7).setCell ⟨wx.heap.size, 8, none⟩ v8) := by
  have h0 := hx.below.size
  have h1 : wx.heap.size ≠ rb := Nat.ne_of_gt hx.r.lt
  have h2 : wx.heap.size ≠ g := Nat.ne_of_gt hx.f.lt
  have h3 : wx.heap.size ≠ b := Nat.ne_of_gt hx.l.lt
  exact ((((((((h.set _ _ _ h0 h1 h2 h3).set _ _ _ h0 h1 h2 h3).set _ _ _ h0 h1 h2 h3).set _ _ _ h0 h1 h2 h3).set _ _ _ h0 h1 h2 h3).set _ _ _ h0 h1 h2 h3).set _ _ _ h0 h1 h2 h3).set _ _ _ h0 h1 h2 h3).set _ _ _ h0 h1 h2 h3
theorem St.set9q {wx : World} (h : St w0 rb g b R F L w) (hx : St w0 rb g b R F L wx) (q : Nat) (hq : wx.heap.size ≤ q) (v0 v1 v2 v3 v4 v5 v6 v7 v8 : Value) :
    St w0 rb g b R F L (((((((((w.setCell ⟨q, 0, none⟩ v0).setCell ⟨q, 1, none⟩ v1).setCell ⟨q, 2, none⟩ v2).setCell ⟨q, 3, none⟩ v3).setCell ⟨q, 4, none⟩ v4).setCell ⟨q, 5, none⟩ v5).setCell ⟨q, 6, none⟩ v6).setCell ⟨q, 7, none⟩ v7).setCell ⟨q, 8, none⟩ v8) := by
  have a := hx.below.size
  have b1 := hx.r.lt
  have b2 := hx.f.lt
  have b3 := hx.l.lt
  have h0 : w0.heap.size ≤ q := by omega
  have h1 : q ≠ rb := by omega
  have h2 : q ≠ g := by omega
  have h3 : q ≠ b := by omega
  exact ((((((((h.set _ _ _ h0 h1 h2 h3).set _ _ _ h0 h1 h2 h3).set _ _ _ h0 h1 h2 h3).set _ _ _ h0 h1 h2 h3).set _ _ _ h0 h1 h2 h3).set _ _ _ h0 h1 h2 h3).set _ _ _ h0 h1 h2 h3).set _ _ _ h0 h1 h2 h3).set _ _ _ h0 h1 h2 h3
theorem St.setF (h : St w0 rb g b R F L w) (i : Nat) (v : Value) (h0 : w0.heap.size ≤ g) (h1 : g ≠ rb) (h2 : g ≠ b) : St w0 rb g b R (F.setIfInBounds i v) L (w.setCell ⟨g, i, none⟩ v) :=
  ⟨h.below.setCell h0 v, h.r.other g i v h1, h.f.set i v, h.l.other g i v h2⟩
theorem St.setL (h : St w0 rb g b R F L w) (i : Nat) (v : Value) (h0 : w0.heap.size ≤ b) (h1 : b ≠ rb) (h2 : b ≠ g) : St w0 rb g b R F (L.setIfInBounds i v) (w.setCell ⟨b, i, none⟩ v) :=
  ⟨h.below.setCell h0 v, h.r.other b i v h1, h.f.other b i v h2, h.l.set i v⟩
end
theorem parse_other (a : Option Addr) (n c : Nat) (w : World) (hn : n ≠ 5) : Calls Try.prog 14 #[.slice a n c] w fun e w' => e = .returned (.tuple #[.agg #[.int .i64 0, .int .i64 0, .int .i64 0, .int .i64 0, .int .i64 0, .int .i64 0, .int .i64 0, .int .i64 0, .int .i64 0], .int .i64 30]) ∧ Below w.heap.size w w' :=
  parse_short a n c w hn
end Go.Proofs.Ytlfppmdehkhjiaa
