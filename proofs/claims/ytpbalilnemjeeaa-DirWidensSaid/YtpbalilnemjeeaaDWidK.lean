/- What is proved here: Widen of a directory that is six deep; Free and Off of a directory; what a hash picks when every entry stands twice. Conditions: the directory is there. -/
import Derived.Test.YtpbalilnemjeeaaDWidNo
import Derived.Test.YtpbalilnemjeeaaDTop
namespace Go.Proofs.Ytpbalilnemjeeaa
set_option linter.unusedVariables false
set_option linter.unusedSimpArgs false
open Go.RowKit Pm Pa Pl Pd
theorem dbl_top (es : List Int) (H d : Nat) (hd : d < 64) : (dbl es)[topN H (d + 1)]? = es[topN H d]? := by
  rw [topN_step hd]
  have h2 : H / 2 ^ (63 - d) % 2 = 0 ∨ H / 2 ^ (63 - d) % 2 = 1 := by omega
  rcases h2 with e | e
  · rw [e, Nat.add_zero]; exact (dbl_get es _).1
  · rw [e]; exact (dbl_get es _).2
theorem dir_off (w : World) (P O D : Value) (hO : ∃ o : Int, O = .int .i64 o) (hP : ∃ a, P = .pointer a) (hD : ∃ o : Int, D = .int .i64 o) : Calls Try.prog 59 #[.agg #[P, O, D]] w fun r w' => r = .returned O ∧ Below w.heap.size w w' := by
  obtain ⟨o, rfl⟩ := hO
  obtain ⟨a, rfl⟩ := hP
  obtain ⟨d, rfl⟩ := hD
  go_enter Try.func59, Try.ntmps59
  go_wp2_with fail
  go_ret
  exact ⟨rfl, (Below.refl _ _).alloc (Nat.le_refl _) _⟩
set_option maxHeartbeats 1000000 in
theorem dir_free {w : World} {p : Nat} {x : Loc} {lim : Nat} {ps : Parts} {L : List UInt8} (h : ArAt w p x lim ps L) (off : Nat) (D : Int) (hs : (sizeFrom 16 ps (off : Int)).isSome = true) :
    Calls Try.prog 60 #[.agg #[.pointer (some ⟨p, 0, none⟩), .int .i64 (off : Int), .int .i64 D]] w fun r w' => r = .returned (.int .i64 0) ∧ ∃ x', ArAt w' p x' lim (freeP ps (off : Int)) L ∧ Turns (x.all p) w w' ∧ ∀ k, k ∈ x'.all p → k ∈ x.all p ∨ w.heap.size ≤ k := by
  have hB := (Below.refl w.heap.size w).alloc (Nat.le_refl _) (.cells #[.pointer (some ⟨p, 0, none⟩), .int .i64 (off : Int), .int .i64 D] 92)
  have hK := Blk.new w #[.pointer (some ⟨p, 0, none⟩), .int .i64 (off : Int), .int .i64 D] 92
  have hA := h.keep hB
  clear h
  go_enter Try.func60, Try.ntmps60
  go_upto_region 1 with (fail)
  generalize World.alloc w _ = wa at hB hK hA ⊢
  have k0 := hK.cell 0
  have k1 := hK.cell 1
  have b1 := Lib.hid ((Below.refl wa.heap.size wa).alloc (Nat.le_refl _) (.cells #[.int .i64 (off : Int)] 3))
  have gb := Lib.hid (fun hk => Nat.lt_irrefl _ (hA.lt _ hk) : ¬ wa.heap.size ∈ x.all p)
  replace hA := Lib.hid hA
  replace hB := Lib.hid hB
  replace hs := Lib.hid hs
  go_wp2_with (first
    | (go_at_call 32; go_loud (refine (free_yes (hA.out.keep b1.out) [(off : Int)] wa.heap.size 0 1 1 rfl (one_ints _ _) (Nat.le_refl _) gb.out (by omega) (fun e he => by simp at he; subst he; exact hs.out) (by simp)).mono ?_; rintro r w8 ⟨rfl, x8, hA8, hT8, hf8⟩))
    | fail)
  go_ret
  have hsz := hB.out.size
  have hsz1 := b1.out.size
  exact ⟨rfl, x8, hA8, (Turns.of_below (Below.then hB.out b1.out)).trans hT8, fun k hk => (hf8 k hk).imp id (fun q => by omega)⟩
set_option maxHeartbeats 1000000 in
theorem dir_widen_deep (w : World) (p off : Nat) : Calls Try.prog 58 #[dirV p off 6] w fun r w' => r = .returned (.tuple #[.agg #[.pointer none, .int .i64 0, .int .i64 0], .int .i64 81]) ∧ Below w.heap.size w w' := by
  unfold dirV
  rw [show (((6 : Nat) : Int)) = 6 from rfl]
  have b1 := (Blk.new w #[.pointer (some ⟨p, 0, none⟩), .int .i64 (off : Int), .int .i64 6] 92).alloc (.cells #[.pointer none, .int .i64 0, .int .i64 0] 92)
  have b2 := Blk.new (w.alloc (.cells #[.pointer (some ⟨p, 0, none⟩), .int .i64 (off : Int), .int .i64 6] 92)) #[.pointer none, .int .i64 0, .int .i64 0] 92
  have hB := ((Below.refl w.heap.size w).alloc (Nat.le_refl _) (.cells #[.pointer (some ⟨p, 0, none⟩), .int .i64 (off : Int), .int .i64 6] 92)).alloc (by simp) (.cells #[.pointer none, .int .i64 0, .int .i64 0] 92)
  rw [show (w.alloc (.cells #[.pointer (some ⟨p, 0, none⟩), .int .i64 (off : Int), .int .i64 6] 92)).heap.size = w.heap.size + 1 by simp] at b2
  go_enter Try.func58, Try.ntmps58
  go_upto_region 1 with (fail)
  generalize World.alloc (World.alloc w _) _ = wa at b1 b2 hB ⊢
  have k0 := b1.cell 0
  have k1 := b1.cell 1
  have k2 := b1.cell 2
  replace hB := Lib.hid hB
  go_upto_region 2 with (first
    | (go_at_call 87; refine (dir_deep off 6 (by decide) _ 6 rfl _ _ ⟨_, rfl⟩ ⟨_, rfl⟩).mono ?_; rintro r w1 ⟨rfl, hb⟩; replace b2 := Lib.hid (b2.keep hb); replace hB := Lib.hid (Below.then hB.out hb); clear k0 k1 k2; have k2 := (b1.keep hb).cell 2)
    | fail)
  have z0 := b2.out.cell 0
  have z1 := b2.out.cell 1
  have z2 := b2.out.cell 2
  have f0 := b2.out.free 0
  have f1 := b2.out.free 1
  have f2 := b2.out.free 2
  go_wp2_with fail
  have bf := ((b2.out.set 0 (.pointer none)).set 1 (.int .i64 0)).set 2 (.int .i64 0)
  have hf := ((hB.out.setCell (p := ⟨w.heap.size + 1, 0, none⟩) (Nat.le_succ _) (.pointer none)).setCell (p := ⟨w.heap.size + 1, 1, none⟩) (Nat.le_succ _) (.int .i64 0)).setCell (p := ⟨w.heap.size + 1, 2, none⟩) (Nat.le_succ _) (.int .i64 0)
  simp at bf
  refine widen_end bf ⟨rfl, hf⟩ ?_ ?_ ?_
  all_goals rfl
end Go.Proofs.Ytpbalilnemjeeaa
