/- What is proved here: the highest bits of a hash. No condition. -/
import Derived.Test.YtpbalilnemjeeaaDMakes
namespace Go.Proofs.Ytpbalilnemjeeaa
set_option linter.unusedVariables false
set_option linter.unusedSimpArgs false
open Go.RowKit Pm Pa Pl Pd
def topN (h d : Nat) : Nat := h / 2 ^ (64 - d)
theorem topN_lt {h d : Nat} (hh : h < 18446744073709551616) (hd : d ≤ 6) : topN h d < 2 ^ d := by
  unfold topN
  rw [Nat.div_lt_iff_lt_mul (Nat.two_pow_pos _), ← Nat.pow_add, show d + (64 - d) = 64 by omega]
  exact hh
theorem topN_step {h k : Nat} (hk : k < 64) : topN h (k + 1) = 2 * topN h k + h / 2 ^ (63 - k) % 2 := by
  unfold topN
  rw [show 64 - (k + 1) = 63 - k by omega, show 64 - k = (63 - k) + 1 by omega, Nat.pow_succ, ← Nat.div_div_eq_div_mul]
  omega
set_option maxHeartbeats 1000000 in
theorem top_is (h d : Nat) (hh : h < 18446744073709551616) (hd : d ≤ 6) (w : World) (H D : Int) (hH : H = h) (hD : D = d) : Calls Try.prog 90 #[.int .u64 H, .int .i64 D] w fun e w' => e = .returned (.int .i64 (topN h d : Int)) ∧ w = w' := by
  subst hH hD
  have hlt := topN_lt hh hd
  have hd7 : d = 0 ∨ d = 1 ∨ d = 2 ∨ d = 3 ∨ d = 4 ∨ d = 5 ∨ d = 6 := by omega
  rcases hd7 with rfl | rfl | rfl | rfl | rfl | rfl | rfl
  · go_enter Try.func90, Try.ntmps90
    go_wp2_with fail
    go_ret
    have e : topN h 0 = 0 := by omega
    rw [e]
    exact ⟨rfl, rfl⟩
  · rw [show (((1 : Nat) : Int)) = 1 from rfl]
    go_enter Try.func90, Try.ntmps90
    go_wp2_with fail
    go_ret
    exact ⟨rfl, rfl⟩
  · rw [show (((2 : Nat) : Int)) = 2 from rfl]
    go_enter Try.func90, Try.ntmps90
    go_wp2_with fail
    go_ret
    exact ⟨rfl, rfl⟩
  · rw [show (((3 : Nat) : Int)) = 3 from rfl]
    go_enter Try.func90, Try.ntmps90
    go_wp2_with fail
    go_ret
    exact ⟨rfl, rfl⟩
  · rw [show (((4 : Nat) : Int)) = 4 from rfl]
    go_enter Try.func90, Try.ntmps90
    go_wp2_with fail
    go_ret
    exact ⟨rfl, rfl⟩
  · rw [show (((5 : Nat) : Int)) = 5 from rfl]
    go_enter Try.func90, Try.ntmps90
    go_wp2_with fail
    go_ret
    exact ⟨rfl, rfl⟩
  · rw [show (((6 : Nat) : Int)) = 6 from rfl]
    go_enter Try.func90, Try.ntmps90
    go_wp2_with fail
    go_ret
    exact ⟨rfl, rfl⟩
end Go.Proofs.Ytpbalilnemjeeaa
