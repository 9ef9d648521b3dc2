/- What is proved here: a layout that lies in a block, behind calls that turn nothing old; the places' contracts at answers that are known. -/
import Derived.Test.YtlfppmdehkhjiaaLTight
namespace Go.Proofs.Ytlfppmdehkhjiaa
set_option linter.unusedVariables false
set_option linter.unusedSimpArgs false
open Go.RowKit Pl
structure Box (w0 : World) (b : Nat) (k e ka ea c eo bo sl gr : Int) (w : World) : Prop where
  below : Below w0.heap.size w0 w
  c0 : w.cell? ⟨b, 0, none⟩ = some (.int .i64 k)
  c1 : w.cell? ⟨b, 1, none⟩ = some (.int .i64 e)
  c2 : w.cell? ⟨b, 2, none⟩ = some (.int .i64 ka)
  c3 : w.cell? ⟨b, 3, none⟩ = some (.int .i64 ea)
  c4 : w.cell? ⟨b, 4, none⟩ = some (.int .i64 c)
  c5 : w.cell? ⟨b, 5, none⟩ = some (.int .i64 eo)
  c6 : w.cell? ⟨b, 6, none⟩ = some (.int .i64 bo)
  c7 : w.cell? ⟨b, 7, none⟩ = some (.int .i64 sl)
  c8 : w.cell? ⟨b, 8, none⟩ = some (.int .i64 gr)
section
variable {w0 w : World} {b : Nat} {k e ka ea c eo bo sl gr : Int}
theorem Box.keep (h : Box w0 b k e ka ea c eo bo sl gr w) (w' : World) (hb : Below w.heap.size w w') : Box w0 b k e ka ea c eo bo sl gr w' := by
  have hlt : b < w.heap.size := World.block_lt_of_cell? w _ h.c0
  have hk : ∀ i, w'.cell? ⟨b, i, none⟩ = w.cell? ⟨b, i, none⟩ := fun i => hb.cell (p := ⟨b, i, none⟩) hlt
  exact ⟨Below.then h.below hb, (hk 0).trans h.c0, (hk 1).trans h.c1, (hk 2).trans h.c2, (hk 3).trans h.c3, (hk 4).trans h.c4, (hk 5).trans h.c5, (hk 6).trans h.c6, (hk 7).trans h.c7, (hk 8).trans h.c8⟩
theorem Box.drew (h : Box w0 b k e ka ea c eo bo sl gr w) (n : Nat) : Box w0 b k e ka ea c eo bo sl gr (w.drewN n) :=
  ⟨below_drewN h.below n, h.c0, h.c1, h.c2, h.c3, h.c4, h.c5, h.c6, h.c7, h.c8⟩
theorem Box.drew1 (h : Box w0 b k e ka ea c eo bo sl gr w) : Box w0 b k e ka ea c eo bo sl gr w.drew :=
  ⟨h.below.drew, h.c0, h.c1, h.c2, h.c3, h.c4, h.c5, h.c6, h.c7, h.c8⟩
end
section
variable (k e ka ea c eo bo sl gr i r : Int) (w : World)
theorem keyAt_to (h : placeF ⟨k, e, ka, ea, c, eo, bo, sl, gr⟩ i 0 = r) : Calls Try.prog 23 #[.agg #[.int .i64 k, .int .i64 e, .int .i64 ka, .int .i64 ea, .int .i64 c, .int .i64 eo, .int .i64 bo, .int .i64 sl, .int .i64 gr], .int .i64 i] w fun e' w' => e' = .returned (.int .i64 r) ∧ Below w.heap.size w w' := by
  subst h; exact keyAt_any k e ka ea c eo bo sl gr i w
theorem elemAt_to (h : placeF ⟨k, e, ka, ea, c, eo, bo, sl, gr⟩ i eo = r) : Calls Try.prog 25 #[.agg #[.int .i64 k, .int .i64 e, .int .i64 ka, .int .i64 ea, .int .i64 c, .int .i64 eo, .int .i64 bo, .int .i64 sl, .int .i64 gr], .int .i64 i] w fun e' w' => e' = .returned (.int .i64 r) ∧ Below w.heap.size w w' := by
  subst h; exact elemAt_any k e ka ea c eo bo sl gr i w
theorem birthAt_to (h : placeF ⟨k, e, ka, ea, c, eo, bo, sl, gr⟩ i bo = r) : Calls Try.prog 27 #[.agg #[.int .i64 k, .int .i64 e, .int .i64 ka, .int .i64 ea, .int .i64 c, .int .i64 eo, .int .i64 bo, .int .i64 sl, .int .i64 gr], .int .i64 i] w fun e' w' => e' = .returned (.int .i64 r) ∧ Below w.heap.size w w' := by
  subst h; exact birthAt_any k e ka ea c eo bo sl gr i w
theorem groups_to (h : groupsF ⟨k, e, ka, ea, c, eo, bo, sl, gr⟩ i = r) : Calls Try.prog 29 #[.agg #[.int .i64 k, .int .i64 e, .int .i64 ka, .int .i64 ea, .int .i64 c, .int .i64 eo, .int .i64 bo, .int .i64 sl, .int .i64 gr], .int .i64 i] w fun e' w' => e' = .returned (.int .i64 r) ∧ Below w.heap.size w w' := by
  subst h; exact groups_any k e ka ea c eo bo sl gr i w
theorem valid_is (b : Bool) (h : LV.validB ⟨k, e, ka, ea, c, eo, bo, sl, gr⟩ = b) : Calls Try.prog 18 #[.agg #[.int .i64 k, .int .i64 e, .int .i64 ka, .int .i64 ea, .int .i64 c, .int .i64 eo, .int .i64 bo, .int .i64 sl, .int .i64 gr]] w fun e' w' => e' = .returned (.bool b) ∧ Below w.heap.size w w' :=
  valid_to ⟨k, e, ka, ea, c, eo, bo, sl, gr⟩ b w h
end
end Go.Proofs.Ytlfppmdehkhjiaa
