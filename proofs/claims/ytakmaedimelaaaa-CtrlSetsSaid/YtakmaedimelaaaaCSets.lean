/- What is proved here: the walk of the law CtrlSets. The word is below 2 to the 64. -/
import Derived.Test.YtakmaedimelaaaaCCtrl
namespace Go.Proofs.Ytakmaedimelaaaa
set_option linter.unusedVariables false
set_option linter.unusedSimpArgs false
open Go.RowKit Pl
set_option maxHeartbeats 1000000 in
theorem sets_all (n : Nat) (a1 i1 c1 t1 a2 i2 c2 t2 : Int) (w : World) (h : n < 18446744073709551616) (bi1 : -9223372036854775808 ≤ i1 ∧ i1 ≤ 9223372036854775807) (bc1 : -9223372036854775808 ≤ c1 ∧ c1 ≤ 9223372036854775807) :
    Calls Try.prog 3 #[.int .u64 n, .agg #[.int .u64 a1, .int .i64 i1, .int .i64 c1, .int .i64 t1], .agg #[.int .u64 a2, .int .i64 i2, .int .i64 c2, .int .i64 t2]] w fun e w' => e = .returned (.bool true) ∧ Below w.heap.size w w' := by
  have hx := setF_lt h i1 c1
  have hy := setF_lt h i2 c2
  have hback := Lib.hid (setF_back n h i1 c1)
  have hcomm := Lib.hid (setF_comm n h i1 c1 i2 c2)
  have hbyt := Lib.hid (fun k => @byt_setF n i1 c1 k)
  obtain ⟨x, HX⟩ : ∃ x, Hid (setF n i1 c1 = x) := ⟨_, rfl⟩
  obtain ⟨y, HY⟩ : ∃ y, Hid (setF n i2 c2 = y) := ⟨_, rfl⟩
  rw [HX.out] at hx hback hcomm hbyt
  rw [HY.out] at hy hcomm
  go_enter Try.func3, Try.ntmps3
  go_wp2_with fail
  refine (set_to _ _ _ _ _ h HX.out).mono ?_
  rintro e w1 ⟨rfl, ⟨m, rfl⟩⟩
  by_cases hin : 0 ≤ i1 ∧ i1 ≤ 7 ∧ 0 ≤ c1 ∧ c1 ≤ 255
  · obtain ⟨j1, j2, j3, j4⟩ := hin
    go_wp2_with fail
    go_loopw [9, 10] (fun i _ wr => ∃ k m : Nat, k ≤ 8 ∧ i = .int .i64 k ∧ wr = ((w.alloc (.cells #[.int .u64 a1, .int .i64 i1, .int .i64 c1, .int .i64 t1] 24)).alloc (.cells #[.int .u64 a2, .int .i64 i2, .int .i64 c2, .int .i64 t2] 24)).drewN m) (fun i _ _ => (8 - intOf i).toNat)
    case atStart => exact ⟨0, m, by decide, rfl, rfl⟩
    case round =>
      obtain ⟨k, m1, hk, rfl, rfl⟩ := hrel
      by_cases hlt : k < 8
      · have hb := hbyt.out k hlt
        have g1 := get_eq n h k
        have g2 := get_eq x hx k
        have hg0 : getF x k = (byt x k : Nat) := by unfold getF; rw [if_pos (by omega)]; rfl
        by_cases he : (k : Int) = i1
        · rw [if_pos ⟨⟨j1, j2, j3, j4⟩, he⟩] at hb
          have hg : Hid (getF x k = c1) := hg0.trans hb
          have he1 : ((k : Int) == i1) = true := beq_iff_eq.2 he
          clear hg0 he
          go_wp2_with (go_at_call 9; refine (get_to _ _ _ _ hx hg.out).mono ?_; rintro e w' ⟨rfl, ⟨m2, rfl⟩⟩)
          go_roundw
          case rel => exact ⟨k + 1, _, by omega, by go_num, rfl⟩
          case measure => simp [intOf]; omega
        · rw [if_neg (fun q => he q.2)] at hb
          have hg : Hid (getF x k = (byt n k : Nat)) := hg0.trans hb
          have he1 : ((k : Int) == i1) = false := beq_eq_false_iff_ne.2 he
          clear hg0 he
          go_wp2_with (go_at_call 9; refine (get_to _ _ _ _ hx hg.out).mono ?_; rintro e w' ⟨rfl, ⟨m2, rfl⟩⟩)
          go_roundw
          case rel => exact ⟨k + 1, _, by omega, by go_num, rfl⟩
          case measure => simp [intOf]; omega
      · by_cases hd : i1 = i2
        · have hd1 : (i1 == i2) = true := beq_iff_eq.2 hd
          clear hd
          go_wp2_with fail
          go_quiet ((first | (go_at_call 9; exact quiet_add (get_any _ _ _ h)) | (go_at_call 8; exact quiet_add (set_to _ _ _ n _ hx hback.out))))
          go_wp2_with fail
          go_quiet (fail)
          go_wp2_with fail
          go_ret
          exact ⟨rfl, by repeat (first | exact Below.refl _ _ | refine below_drewN ?_ _ | refine Below.alloc ?_ (by simp) _)⟩
        · have hd1 : (i1 == i2) = false := beq_eq_false_iff_ne.2 hd
          have hcomm' := Lib.hid (hcomm.out hd)
          clear hd hcomm
          obtain ⟨z, hz⟩ : ∃ z, Hid (setF x i2 c2 = z) := ⟨_, rfl⟩
          have hz2 : Hid (setF y i1 c1 = z) := hcomm'.out.symm.trans hz.out
          go_wp2_with fail
          go_quiet ((first | (go_at_call 9; exact quiet_add (get_any _ _ _ h)) | (go_at_call 8; exact quiet_add (set_to _ _ _ n _ hx hback.out))))
          go_wp2_with fail
          go_quiet ((go_at_call 8; first | with_reducible exact quiet_add (set_to x i2 c2 z _ hx hz.out) | with_reducible exact quiet_add (set_to n i2 c2 y _ h HY.out) | with_reducible exact quiet_add (set_to y i1 c1 z _ hy hz2.out)))
          go_wp2_with fail
          go_ret
          exact ⟨ret_bool (by simp), by repeat (first | exact Below.refl _ _ | refine below_drewN ?_ _ | refine Below.alloc ?_ (by simp) _)⟩
  · have hin1 : Hid (¬ (0 ≤ i1 ∧ i1 ≤ 7 ∧ 0 ≤ c1 ∧ c1 ≤ 255)) := hin
    obtain ⟨b8, hb8⟩ : ∃ b : Bool, b = false := ⟨_, rfl⟩
    have hn : ((i1 < 0) ∨ (0 ≤ i1 ∧ 7 < i1) ∨ (0 ≤ i1 ∧ i1 ≤ 7 ∧ c1 < 0) ∨ (0 ≤ i1 ∧ i1 ≤ 7 ∧ 0 ≤ c1 ∧ 255 < c1)) := by omega
    clear hin
    rcases hn with hn | ⟨hn0, hn⟩ | ⟨hn0, hn1, hn⟩ | ⟨hn0, hn1, hn2, hn⟩
    all_goals try (have hd4 : decide (c1 ≤ 255) = false := by (simp; omega))
    all_goals
      go_wp2_with fail
      go_loopw [9, 10] (fun i _ wr => ∃ k m : Nat, k ≤ 8 ∧ i = .int .i64 k ∧ wr = ((w.alloc (.cells #[.int .u64 a1, .int .i64 i1, .int .i64 c1, .int .i64 t1] 24)).alloc (.cells #[.int .u64 a2, .int .i64 i2, .int .i64 c2, .int .i64 t2] 24)).drewN m) (fun i _ _ => (8 - intOf i).toNat)
      case atStart => exact ⟨0, m, by decide, rfl, rfl⟩
      case round =>
        obtain ⟨k, m1, hk, rfl, rfl⟩ := hrel
        by_cases hlt : k < 8
        · have hb := hbyt.out k hlt
          have g1 := get_eq n h k
          have g2 := get_eq x hx k
          have hg0 : getF x k = (byt x k : Nat) := by unfold getF; rw [if_pos (by omega)]; rfl
          rw [if_neg (fun q => hin1.out q.1)] at hb
          have hg : Hid (getF x k = (byt n k : Nat)) := hg0.trans hb
          clear hg0
          go_wp2_with (go_at_call 9; refine (get_to _ _ _ _ hx hg.out).mono ?_; rintro e w' ⟨rfl, ⟨m2, rfl⟩⟩)
          go_roundw
          case rel => exact ⟨k + 1, _, by omega, by go_num, rfl⟩
          case measure => simp [intOf]; omega
        · by_cases hd : i1 = i2
          · have hd1 : (i1 == i2) = true := beq_iff_eq.2 hd
            clear hd
            go_wp2_with fail
            go_quiet ((first | (go_at_call 9; exact quiet_add (get_any _ _ _ h)) | (go_at_call 8; exact quiet_add (set_to _ _ _ n _ hx hback.out))))
            go_wp2_with fail
            go_quiet (fail)
            go_wp2_with fail
            go_ret
            exact ⟨rfl, by repeat (first | exact Below.refl _ _ | refine below_drewN ?_ _ | refine Below.alloc ?_ (by simp) _)⟩
          · have hd1 : (i1 == i2) = false := beq_eq_false_iff_ne.2 hd
            have hcomm' := Lib.hid (hcomm.out hd)
            clear hd hcomm
            obtain ⟨z, hz⟩ : ∃ z, Hid (setF x i2 c2 = z) := ⟨_, rfl⟩
            have hz2 : Hid (setF y i1 c1 = z) := hcomm'.out.symm.trans hz.out
            go_wp2_with fail
            go_quiet ((first | (go_at_call 9; exact quiet_add (get_any _ _ _ h)) | (go_at_call 8; exact quiet_add (set_to _ _ _ n _ hx hback.out))))
            go_wp2_with fail
            go_quiet ((go_at_call 8; first | with_reducible exact quiet_add (set_to x i2 c2 z _ hx hz.out) | with_reducible exact quiet_add (set_to n i2 c2 y _ h HY.out) | with_reducible exact quiet_add (set_to y i1 c1 z _ hy hz2.out)))
            go_wp2_with fail
            go_ret
            exact ⟨ret_bool (by simp), by repeat (first | exact Below.refl _ _ | refine below_drewN ?_ _ | refine Below.alloc ?_ (by simp) _)⟩
end Go.Proofs.Ytakmaedimelaaaa
