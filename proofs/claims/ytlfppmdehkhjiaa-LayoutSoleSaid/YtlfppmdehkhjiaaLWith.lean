/- What is proved here: the contract of larderlaw03's with: one of the last four numbers is turned. -/
import Derived.Test.YtlfppmdehkhjiaaLBox
namespace Go.Proofs.Ytlfppmdehkhjiaa
set_option linter.unusedVariables false
set_option linter.unusedSimpArgs false
open Go.RowKit Pl
/-- which number is turned, and what it was -/
def turnedF (p x eo bo sl gr : Int) : Int × Int × Int × Int × Int :=
  if p = 0 then (x, bo, sl, gr, eo) else if p = 1 then (eo, x, sl, gr, bo) else if p = 2 then (eo, bo, x, gr, sl) else (eo, bo, sl, x, gr)
theorem with_0 (k e ka ea c eo bo sl gr x : Int) (w : World) : Calls Try.prog 32 #[.agg #[.int .i64 k, .int .i64 e, .int .i64 ka, .int .i64 ea, .int .i64 c, .int .i64 eo, .int .i64 bo, .int .i64 sl, .int .i64 gr], .int .i64 0, .int .i64 x] w fun e' w' => e' = .returned (.tuple #[.agg #[.int .i64 k, .int .i64 e, .int .i64 ka, .int .i64 ea, .int .i64 c, .int .i64 x, .int .i64 bo, .int .i64 sl, .int .i64 gr], .int .i64 eo]) ∧ Below w.heap.size w w' := by
  go_enter Try.func32, Try.ntmps32
  go_wp2_with fail
  go_region
  go_wp2_with fail
  exact bodyPost_ret (v := .tuple #[.agg #[.int .i64 k, .int .i64 e, .int .i64 ka, .int .i64 ea, .int .i64 c, .int .i64 x, .int .i64 bo, .int .i64 sl, .int .i64 gr], .int .i64 eo]) (by simp [results, Try.results32, go_sem]) rfl ⟨rfl, by repeat (first | exact Below.refl _ _ | refine below_drewN ?_ _ | refine Below.drew ?_ | refine Below.setCell ?_ (by first | (simp; done) | (simp; omega)) _ | refine Below.alloc ?_ (by first | (simp; done) | (simp; omega)) _)⟩
theorem with_1 (k e ka ea c eo bo sl gr x : Int) (w : World) : Calls Try.prog 32 #[.agg #[.int .i64 k, .int .i64 e, .int .i64 ka, .int .i64 ea, .int .i64 c, .int .i64 eo, .int .i64 bo, .int .i64 sl, .int .i64 gr], .int .i64 1, .int .i64 x] w fun e' w' => e' = .returned (.tuple #[.agg #[.int .i64 k, .int .i64 e, .int .i64 ka, .int .i64 ea, .int .i64 c, .int .i64 eo, .int .i64 x, .int .i64 sl, .int .i64 gr], .int .i64 bo]) ∧ Below w.heap.size w w' := by
  go_enter Try.func32, Try.ntmps32
  go_wp2_with fail
  go_region
  go_wp2_with fail
  exact bodyPost_ret (v := .tuple #[.agg #[.int .i64 k, .int .i64 e, .int .i64 ka, .int .i64 ea, .int .i64 c, .int .i64 eo, .int .i64 x, .int .i64 sl, .int .i64 gr], .int .i64 bo]) (by simp [results, Try.results32, go_sem]) rfl ⟨rfl, by repeat (first | exact Below.refl _ _ | refine below_drewN ?_ _ | refine Below.drew ?_ | refine Below.setCell ?_ (by first | (simp; done) | (simp; omega)) _ | refine Below.alloc ?_ (by first | (simp; done) | (simp; omega)) _)⟩
theorem with_2 (k e ka ea c eo bo sl gr x : Int) (w : World) : Calls Try.prog 32 #[.agg #[.int .i64 k, .int .i64 e, .int .i64 ka, .int .i64 ea, .int .i64 c, .int .i64 eo, .int .i64 bo, .int .i64 sl, .int .i64 gr], .int .i64 2, .int .i64 x] w fun e' w' => e' = .returned (.tuple #[.agg #[.int .i64 k, .int .i64 e, .int .i64 ka, .int .i64 ea, .int .i64 c, .int .i64 eo, .int .i64 bo, .int .i64 x, .int .i64 gr], .int .i64 sl]) ∧ Below w.heap.size w w' := by
  go_enter Try.func32, Try.ntmps32
  go_wp2_with fail
  go_region
  go_wp2_with fail
  exact bodyPost_ret (v := .tuple #[.agg #[.int .i64 k, .int .i64 e, .int .i64 ka, .int .i64 ea, .int .i64 c, .int .i64 eo, .int .i64 bo, .int .i64 x, .int .i64 gr], .int .i64 sl]) (by simp [results, Try.results32, go_sem]) rfl ⟨rfl, by repeat (first | exact Below.refl _ _ | refine below_drewN ?_ _ | refine Below.drew ?_ | refine Below.setCell ?_ (by first | (simp; done) | (simp; omega)) _ | refine Below.alloc ?_ (by first | (simp; done) | (simp; omega)) _)⟩
theorem with_3 (k e ka ea c eo bo sl gr x : Int) (w : World) : Calls Try.prog 32 #[.agg #[.int .i64 k, .int .i64 e, .int .i64 ka, .int .i64 ea, .int .i64 c, .int .i64 eo, .int .i64 bo, .int .i64 sl, .int .i64 gr], .int .i64 3, .int .i64 x] w fun e' w' => e' = .returned (.tuple #[.agg #[.int .i64 k, .int .i64 e, .int .i64 ka, .int .i64 ea, .int .i64 c, .int .i64 eo, .int .i64 bo, .int .i64 sl, .int .i64 x], .int .i64 gr]) ∧ Below w.heap.size w w' := by
  go_enter Try.func32, Try.ntmps32
  go_wp2_with fail
  go_region
  go_wp2_with fail
  exact bodyPost_ret (v := .tuple #[.agg #[.int .i64 k, .int .i64 e, .int .i64 ka, .int .i64 ea, .int .i64 c, .int .i64 eo, .int .i64 bo, .int .i64 sl, .int .i64 x], .int .i64 gr]) (by simp [results, Try.results32, go_sem]) rfl ⟨rfl, by repeat (first | exact Below.refl _ _ | refine below_drewN ?_ _ | refine Below.drew ?_ | refine Below.setCell ?_ (by first | (simp; done) | (simp; omega)) _ | refine Below.alloc ?_ (by first | (simp; done) | (simp; omega)) _)⟩
structure Box2 (w0 : World) (b : Nat) (k e ka ea c eo bo sl gr : Int) (rb : Nat) (D X : Int) (w : World) : Prop where
  box : Box w0 b k e ka ea c eo bo sl gr w
  r5 : w.cell? ⟨rb, 5, none⟩ = some (.int .i64 D)
  r6 : w.cell? ⟨rb, 6, none⟩ = some (.int .i64 X)
section
variable {w0 w : World} {b rb : Nat} {k e ka ea c eo bo sl gr D X : Int}
theorem Box2.keep (h : Box2 w0 b k e ka ea c eo bo sl gr rb D X w) (w' : World) (hb : Below w.heap.size w w') : Box2 w0 b k e ka ea c eo bo sl gr rb D X w' := by
  have hlt : rb < w.heap.size := World.block_lt_of_cell? w _ h.r5
  exact ⟨h.box.keep w' hb, (hb.cell (p := ⟨rb, 5, none⟩) hlt).trans h.r5, (hb.cell (p := ⟨rb, 6, none⟩) hlt).trans h.r6⟩
theorem Box2.below2 (h : Box2 w0 b k e ka ea c eo bo sl gr rb D X w) : Below w0.heap.size w0 w := h.box.below
theorem Box2.set (h : Box2 w0 b k e ka ea c eo bo sl gr rb D X w) (q i : Nat) (v : Value) (h0 : w0.heap.size ≤ q) (h1 : q ≠ b) (h2 : q ≠ rb) : Box2 w0 b k e ka ea c eo bo sl gr rb D X (w.setCell ⟨q, i, none⟩ v) := by
  have hk : ∀ j, (w.setCell ⟨q, i, none⟩ v).cell? ⟨b, j, none⟩ = w.cell? ⟨b, j, none⟩ := fun j => World.cell?_setCell_other _ _ _ _ (fun e => h1 (congrArg Addr.block e))
  have hr : ∀ j, (w.setCell ⟨q, i, none⟩ v).cell? ⟨rb, j, none⟩ = w.cell? ⟨rb, j, none⟩ := fun j => World.cell?_setCell_other _ _ _ _ (fun e => h2 (congrArg Addr.block e))
  obtain ⟨⟨hb, c0, c1, c2, c3, c4, c5, c6, c7, c8⟩, r5, r6⟩ := h
  exact ⟨⟨hb.setCell h0 v, (hk 0).trans c0, (hk 1).trans c1, (hk 2).trans c2, (hk 3).trans c3, (hk 4).trans c4, (hk 5).trans c5, (hk 6).trans c6, (hk 7).trans c7, (hk 8).trans c8⟩, (hr 5).trans r5, (hr 6).trans r6⟩
theorem Box2.set9 {wx : World} (h : Box2 w0 b k e ka ea c eo bo sl gr rb D X w) (hx : Box2 w0 b k e ka ea c eo bo sl gr rb D X wx) (v0 v1 v2 v3 v4 v5 v6 v7 v8 : Value) :
    Box2 w0 b k e ka ea c eo bo sl gr rb D X (((((((((w.setCell ⟨wx.heap.size, 0, none⟩ v0).setCell ⟨wx.heap.size, 1, none⟩ v1).setCell ⟨wx.heap.size, 2, none⟩ v2).setCell ⟨wx.heap.size, 3, none⟩ v3).setCell ⟨wx.heap.size, 4, none⟩ v4).setCell ⟨wx.heap.size, 5, none⟩ v5).setCell ⟨wx.heap.size, 6, none⟩ v6).setCell ⟨wx.heap.size, 7, none⟩ v7).setCell ⟨wx.heap.size, 8, none⟩ v8) := by
  have h0 := hx.box.below.size
  have h1 : wx.heap.size ≠ b := Nat.ne_of_gt (World.block_lt_of_cell? wx _ hx.box.c0)
  have h2 : wx.heap.size ≠ rb := Nat.ne_of_gt (World.block_lt_of_cell? wx _ hx.r5)
  exact ((((((((h.set _ _ _ h0 h1 h2).set _ _ _ h0 h1 h2).set _ _ _ h0 h1 h2).set _ _ _ h0 h1 h2).set _ _ _ h0 h1 h2).set _ _ _ h0 h1 h2).set _ _ _ h0 h1 h2).set _ _ _ h0 h1 h2).set _ _ _ h0 h1 h2
theorem Box2.alloc (h : Box2 w0 b k e ka ea c eo bo sl gr rb D X w) (o : Obj) : Box2 w0 b k e ka ea c eo bo sl gr rb D X (w.alloc o) := h.keep _ ((Below.refl _ _).alloc (Nat.le_refl _) _)
theorem Box2.drew (h : Box2 w0 b k e ka ea c eo bo sl gr rb D X w) (n : Nat) : Box2 w0 b k e ka ea c eo bo sl gr rb D X (w.drewN n) := ⟨h.box.drew n, h.r5, h.r6⟩
theorem Box2.drew1 (h : Box2 w0 b k e ka ea c eo bo sl gr rb D X w) : Box2 w0 b k e ka ea c eo bo sl gr rb D X w.drew := ⟨h.box.drew1, h.r5, h.r6⟩
end
/-- a layout with one of its last four numbers turned is none -/
theorem Pl.turned_no {k e ka ea c eo bo sl gr eo2 bo2 sl2 gr2 : Int} (h : LV.validB ⟨k, e, ka, ea, c, eo, bo, sl, gr⟩ = true) (hn : ¬ (eo2 = eo ∧ bo2 = bo ∧ sl2 = sl ∧ gr2 = gr)) : LV.validB ⟨k, e, ka, ea, c, eo2, bo2, sl2, gr2⟩ = false := by
  cases hv : LV.validB ⟨k, e, ka, ea, c, eo2, bo2, sl2, gr2⟩
  · rfl
  · exfalso
    obtain ⟨_, h1⟩ := (LV.validB_iff _).1 h
    obtain ⟨_, h2⟩ := (LV.validB_iff _).1 hv
    simp only at h1 h2
    have h3 := h2.symm.trans h1
    injection h3 with _ _ _ _ _ a b c d
    exact hn ⟨a, b, c, d⟩
end Go.Proofs.Ytlfppmdehkhjiaa
