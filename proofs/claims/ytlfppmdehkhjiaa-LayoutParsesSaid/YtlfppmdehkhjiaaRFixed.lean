/- What is proved here: the contracts of the laws' own example and fixed. No condition. -/
import Derived.Test.YtlfppmdehkhjiaaRPlace
namespace Go.Proofs.Ytlfppmdehkhjiaa
set_option linter.unusedVariables false
set_option linter.unusedSimpArgs false
open Go.RowKit Pl
theorem example_any (w : World) : Calls Try.prog 31 #[] w fun e' w' => e' = .returned (.agg #[.int .i64 5, .int .i64 4, .int .i64 1, .int .i64 4, .int .i64 64, .int .i64 8, .int .i64 16, .int .i64 24, .int .i64 200]) ∧ Below w.heap.size w w' := by
  go_enter Try.func31, Try.ntmps31
  go_wp2_with fail
  exact bodyPost_ret (v := .agg #[.int .i64 5, .int .i64 4, .int .i64 1, .int .i64 4, .int .i64 64, .int .i64 8, .int .i64 16, .int .i64 24, .int .i64 200]) (by simp [results, Try.results31, go_sem]) rfl ⟨rfl, (Below.refl _ _).alloc (Nat.le_refl _) _⟩
theorem ex_err : perr 5 4 1 4 64 = 0 := by decide
theorem ex_par : parsed 5 4 1 4 64 = ⟨5, 4, 1, 4, 64, 8, 16, 24, 200⟩ := by
  unfold parsed; rw [ex_err, if_pos rfl]; rfl
theorem ex_valid : LV.validB ⟨5, 4, 1, 4, 64, 8, 16, 24, 200⟩ = true := by
  unfold LV.validB; rw [ex_err, ex_par]; decide
theorem ex_groups : groupsF ⟨5, 4, 1, 4, 64, 8, 16, 24, 200⟩ 16 = 400 := by
  rw [groups_in ex_valid _ (by decide) (by decide) (by decide)]; decide
set_option maxHeartbeats 1000000 in
theorem fixed_any (w : World) : Calls Try.prog 16 #[] w fun e' w' => e' = .returned (.bool true) ∧ Below w.heap.size w w' := by
  have hq := fun w => eql_lay ⟨5, 4, 1, 4, 64, 8, 16, 24, 200⟩ ⟨5, 4, 1, 4, 64, 8, 16, 24, 200⟩ w
  have hbq : LV.beq ⟨5, 4, 1, 4, 64, 8, 16, 24, 200⟩ ⟨5, 4, 1, 4, 64, 8, 16, 24, 200⟩ = true := by decide
  rw [hbq] at hq
  have hg := layGuard
  clear hbq
  go_enter Try.func16, Try.ntmps16
  go_wp2_with fail
  refine (parse_to _ _ _ 5 4 1 4 64 _ _ _ ex_par ex_err (by simp) (by go_simp) (by go_simp) (by go_simp) (by go_simp) (by go_simp)).mono ?_
  rintro e' w1 ⟨rfl, hb⟩
  have hX : Box w w1.heap.size 5 4 1 4 64 8 16 24 200 (w1.alloc (.cells #[.int .i64 5, .int .i64 4, .int .i64 1, .int .i64 4, .int .i64 64, .int .i64 8, .int .i64 16, .int .i64 24, .int .i64 200] 24)) :=
    ⟨(((Below.refl w.heap.size w).alloc (Nat.le_refl _) _).trans (hb.mono (by simp))).alloc (by have := hb.size; simp at this; omega) _, by go_simp, by go_simp, by go_simp, by go_simp, by go_simp, by go_simp, by go_simp, by go_simp, by go_simp⟩
  obtain ⟨qb, q0, q1, q2, q3, q4, q5, q6, q7, q8⟩ := id hX
  replace hb := Lib.hid hb
  go_wp2_with fail
  go_region_held3 (fun w' => Below w.heap.size w w' ∧ w'.cell? ⟨w1.heap.size, 0, none⟩ = some (.int .i64 5) ∧ w'.cell? ⟨w1.heap.size, 1, none⟩ = some (.int .i64 4) ∧ w'.cell? ⟨w1.heap.size, 2, none⟩ = some (.int .i64 1) ∧ w'.cell? ⟨w1.heap.size, 3, none⟩ = some (.int .i64 4) ∧ w'.cell? ⟨w1.heap.size, 4, none⟩ = some (.int .i64 64) ∧ w'.cell? ⟨w1.heap.size, 5, none⟩ = some (.int .i64 8) ∧ w'.cell? ⟨w1.heap.size, 6, none⟩ = some (.int .i64 16) ∧ w'.cell? ⟨w1.heap.size, 7, none⟩ = some (.int .i64 24) ∧ w'.cell? ⟨w1.heap.size, 8, none⟩ = some (.int .i64 200)) (first | exact ⟨hX.below, hX.c0, hX.c1, hX.c2, hX.c3, hX.c4, hX.c5, hX.c6, hX.c7, hX.c8⟩ | exact ⟨hX.below.drew, hX.c0, hX.c1, hX.c2, hX.c3, hX.c4, hX.c5, hX.c6, hX.c7, hX.c8⟩ | go_keep) ((go_at_call 31; (with_reducible refine (keeps (example_any _) (fun w' hb => Box.keep (by first | exact hX | exact hX.drew1 | exact hX.drew _) w' hb)).mono ?_); rintro e' w' ⟨rfl, hX⟩; obtain ⟨qb, q0, q1, q2, q3, q4, q5, q6, q7, q8⟩ := id hX))
  all_goals
    go_wp2_with fail
    go_ret
    exact ⟨rfl, by first | exact hX.below | exact below_drewN hX.below _⟩
end Go.Proofs.Ytlfppmdehkhjiaa
