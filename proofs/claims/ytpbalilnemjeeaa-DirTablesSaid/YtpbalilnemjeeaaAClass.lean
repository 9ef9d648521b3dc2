/- What is proved here: the contract of arena.Class: it answers the class of n, 0 out of range, and the world stays. No condition. -/
import Derived.Test.YtpbalilnemjeeaaKit
import Derived.Test.YtpbalilnemjeeaaACls
import Derived.WalkKit
import Derived.IntWalk
import Derived.Below
import Derived.Lib.Hide
set_option linter.unusedVariables false
set_option linter.unusedSimpArgs false
namespace Go.Proofs.Ytpbalilnemjeeaa
open Go.RowKit Pl
theorem class_out (n : Int) (w : World) (h : n < 1 ∨ 1048576 < n) :
    Calls Try.prog 50 #[.int .i64 n] w fun e w' => e = .returned (.int .i64 0) ∧ w = w' := by
  rcases h with h | h
  · go_enter Try.func50, Try.ntmps50
    go_wp2
    go_ret
    exact ⟨rfl, rfl⟩
  · have h' : ¬ n < 1 := by omega
    go_enter Try.func50, Try.ntmps50
    go_wp2
    go_ret
    exact ⟨rfl, rfl⟩
theorem class_in (n : Int) (w : World) (h1 : 1 ≤ n) (h2 : n ≤ 1048576) :
    Calls Try.prog 50 #[.int .i64 n] w fun e w' => e = .returned (.int .i64 (clsIn n)) ∧ w = w' := by
  have g1 : ¬ n < 1 := by omega
  have g2 : ¬ 1048576 < n := by omega
  go_enter Try.func50, Try.ntmps50
  go_wp2
  go_loop [3] (fun x => ∃ (k : Nat) (t : Int), x = .int .i64 t ∧ 16 ≤ t ∧ t ≤ 1048576 ∧ Hid (t * 2 ^ k = 1048576) ∧ Hid (twoOf n k t = twoOf n 16 16)) (fun x => (1048576 - intOf x).toNat)
  case atStart => exact ⟨16, 16, rfl, by decide, by decide, by unfold Hid; decide, rfl⟩
  case round =>
    obtain ⟨k, t, rfl, ht1, ht2, ht3, ht4⟩ := hrel
    by_cases hlt : t < n
    · have hk : ∃ k', k = k' + 1 := by
        cases k with
        | zero => have := ht3.out; simp at this; omega
        | succ k' => exact ⟨k', rfl⟩
      obtain ⟨k', rfl⟩ := hk
      have hp : Hid (t * 2 * 2 ^ k' = 1048576) := by have := ht3.out; unfold Hid; rw [Int.pow_succ] at this; rw [← this, Int.mul_assoc, Int.mul_comm 2]
      have ht5 : t * 2 ≤ 1048576 := by
        have := hp.out
        have h3 : (1 : Int) ≤ 2 ^ k' := Int.add_one_le_of_lt (Int.pow_pos (by decide))
        have h4 : t * 2 * 1 ≤ t * 2 * 2 ^ k' := Int.mul_le_mul_of_nonneg_left h3 (by omega)
        omega
      have hq : Hid (twoOf n k' (t * 2) = twoOf n 16 16) := by have := ht4.out; unfold Hid; rw [← this, twoOf_step n k' t _ hlt rfl]
      go_wp2
      go_round
      case rel => exact ⟨k', t * 2, rfl, by omega, ht5, hp, hq⟩
      case measure => simp [intOf]; omega
    · have he : Hid (twoOf n 16 16 = t) := by have := ht4.out; unfold Hid; rw [← this, twoOf_stop n k t hlt]
      clear ht4
      go_wp2
      · have a1 : 24 < t / 4 * 3 := by assumption
        have a2 : n ≤ t / 4 * 3 := by assumption
        go_ret
        exact ⟨ret_int (by unfold clsIn; rw [he.out, if_pos ⟨a1, a2⟩]), rfl⟩
      · have a2 : t / 4 * 3 < n := by assumption
        go_ret
        exact ⟨ret_int (by unfold clsIn; rw [he.out, if_neg (by omega)]), rfl⟩
      · have a1 : t / 4 * 3 ≤ 24 := by assumption
        go_ret
        exact ⟨ret_int (by unfold clsIn; rw [he.out, if_neg (by omega)]), rfl⟩
theorem class_any (n : Int) (w : World) :
    Calls Try.prog 50 #[.int .i64 n] w fun e w' => e = .returned (.int .i64 (cls n)) ∧ w = w' := by
  by_cases h : 1 ≤ n ∧ n ≤ 1048576
  · rw [cls_clsIn h.1 h.2]; exact class_in n w h.1 h.2
  · rw [cls_out (by omega)]; exact class_out n w (by omega)
end Go.Proofs.Ytpbalilnemjeeaa
