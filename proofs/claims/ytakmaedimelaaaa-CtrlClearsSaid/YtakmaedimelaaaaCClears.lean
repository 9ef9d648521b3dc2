/- What is proved here: the walk of the law CtrlClears. The word is below 2 to the 64. -/
import Derived.Test.YtakmaedimelaaaaCCtrl
set_option linter.unusedVariables false
set_option linter.unusedSimpArgs false
namespace Go.Proofs.Ytakmaedimelaaaa
open Go.RowKit Pl
set_option maxHeartbeats 1000000 in
theorem clears_all (n : Nat) (w : World) (h : n < 18446744073709551616) : Calls Try.prog 4 #[.int .u64 n] w fun e w' => e = .returned (.bool true) ∧ Below w.heap.size w w' := by
  have hx := clr_lt h
  have hcc := Lib.hid (clr_clr h)
  go_enter Try.func4, Try.ntmps4
  go_wp2_with fail
  refine (clear_any n _ h).mono ?_
  rintro e w1 ⟨rfl, hB⟩
  go_wp2_with fail
  go_loopw [4, 5, 6] (fun i _ _ w' => ∃ k : Nat, k ≤ 8 ∧ i = .int .i64 k ∧ Below w.heap.size w w') (fun i _ _ _ => (8 - intOf i).toNat)
  case atStart => exact ⟨0, by decide, rfl, hB⟩
  case round =>
    obtain ⟨k, hk, rfl, hB⟩ := hrel
    by_cases hlt : k < 8
    · obtain ⟨m1, m2, m3⟩ := mat_clr n hlt
      have g1 := get_eq n h k
      have g2 := get_eq (clr n) hx k
      have g3 := byt_clr n hlt
      obtain ⟨v, hv⟩ : ∃ v, Hid (vac n k = v) := ⟨_, rfl⟩
      obtain ⟨f, hf⟩ : ∃ f, Hid (ful n k = f) := ⟨_, rfl⟩
      replace m1 : Hid (mat (clr n) 128 k = v) := m1.trans hv.out
      replace m2 : Hid (vac (clr n) k = v) := m2.trans hv.out
      replace m3 : Hid (ful (clr n) k = f) := m3.trans hf.out
      by_cases hc : byt n k = 254
      · rw [if_pos hc] at g3
        have c1 : (((byt n k : Nat) : Int) == 254) = true := beq_iff_eq.2 (by omega)
        clear hc
        cases v <;> cases f <;>
        · go_wp2_with (first | (go_at_call 11; refine (since (matchVacant_any _ _ (by assumption)) (by first | exact hB | exact below_drewN hB _)).mono ?_; rintro e w' ⟨rfl, hB⟩) | (go_at_call 13; refine (since (matchEmpty_any _ _ (by assumption)) (by first | exact hB | exact below_drewN hB _)).mono ?_; rintro e w' ⟨rfl, hB⟩) | (go_at_call 14; refine (since (matchFull_any _ _ (by assumption)) (by first | exact hB | exact below_drewN hB _)).mono ?_; rintro e w' ⟨rfl, hB⟩) | (go_at_call 12; (first | with_reducible refine (since (has_is (vac n) k _ _ hlt hv.out) (by first | exact hB | exact below_drewN hB _)).mono ?_ | with_reducible refine (since (has_is (mat (clr n) 128) k _ _ hlt m1.out) (by first | exact hB | exact below_drewN hB _)).mono ?_ | with_reducible refine (since (has_is (vac (clr n)) k _ _ hlt m2.out) (by first | exact hB | exact below_drewN hB _)).mono ?_ | with_reducible refine (since (has_is (ful (clr n)) k _ _ hlt m3.out) (by first | exact hB | exact below_drewN hB _)).mono ?_ | with_reducible refine (since (has_is (ful n) k _ _ hlt hf.out) (by first | exact hB | exact below_drewN hB _)).mono ?_); rintro e w' ⟨rfl, hB⟩))
          go_roundw
          case rel => exact ⟨k + 1, by omega, by go_num, hB⟩
          case measure => simp [intOf]; omega
      · rw [if_neg hc] at g3
        have c1 : (((byt n k : Nat) : Int) == 254) = false := beq_eq_false_iff_ne.2 (by omega)
        clear hc
        cases v <;> cases f <;>
        · go_wp2_with (first | (go_at_call 11; refine (since (matchVacant_any _ _ (by assumption)) (by first | exact hB | exact below_drewN hB _)).mono ?_; rintro e w' ⟨rfl, hB⟩) | (go_at_call 13; refine (since (matchEmpty_any _ _ (by assumption)) (by first | exact hB | exact below_drewN hB _)).mono ?_; rintro e w' ⟨rfl, hB⟩) | (go_at_call 14; refine (since (matchFull_any _ _ (by assumption)) (by first | exact hB | exact below_drewN hB _)).mono ?_; rintro e w' ⟨rfl, hB⟩) | (go_at_call 12; (first | with_reducible refine (since (has_is (vac n) k _ _ hlt hv.out) (by first | exact hB | exact below_drewN hB _)).mono ?_ | with_reducible refine (since (has_is (mat (clr n) 128) k _ _ hlt m1.out) (by first | exact hB | exact below_drewN hB _)).mono ?_ | with_reducible refine (since (has_is (vac (clr n)) k _ _ hlt m2.out) (by first | exact hB | exact below_drewN hB _)).mono ?_ | with_reducible refine (since (has_is (ful (clr n)) k _ _ hlt m3.out) (by first | exact hB | exact below_drewN hB _)).mono ?_ | with_reducible refine (since (has_is (ful n) k _ _ hlt hf.out) (by first | exact hB | exact below_drewN hB _)).mono ?_); rintro e w' ⟨rfl, hB⟩))
          go_roundw
          case rel => exact ⟨k + 1, by omega, by go_num, hB⟩
          case measure => simp [intOf]; omega
    · go_wp2_with (go_at_call 10; refine (since (clear_any _ _ hx) (by first | exact hB | exact below_drewN hB _)).mono ?_; rintro e w' ⟨rfl, hB⟩)
      go_ret
      exact ⟨ret_bool (by rw [hcc.out]; simp), hB⟩
end Go.Proofs.Ytakmaedimelaaaa
