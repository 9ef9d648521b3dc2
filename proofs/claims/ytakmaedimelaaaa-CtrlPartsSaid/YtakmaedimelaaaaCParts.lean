/- What is proved here: the walk of the law CtrlParts. The word is below 2 to the 64. -/
import Derived.Test.YtakmaedimelaaaaCCtrl
namespace Go.Proofs.Ytakmaedimelaaaa
set_option linter.unusedVariables false
set_option linter.unusedSimpArgs false
open Go.RowKit Pl
set_option maxRecDepth 100000 in
set_option maxHeartbeats 1000000 in
theorem parts_all (n : Nat) (w : World) (h : n < 18446744073709551616) : Calls Try.prog 6 #[.int .u64 n] w fun e w' => e = .returned (.bool true) ∧ Below w.heap.size w w' := by
  go_enter Try.func6, Try.ntmps6
  go_wp2_with fail
  refine (matchFull_any n _ h).mono ?_
  rintro e w1 ⟨rfl, hb1⟩
  go_wp2_with fail
  refine (matchVacant_any n _ h).mono ?_
  rintro e w2 ⟨rfl, hb2⟩
  go_wp2_with fail
  refine (matchEmpty_any n _ h).mono ?_
  rintro e w3 ⟨rfl, hb3⟩
  have hB := Below.then (Below.then hb1 hb2) hb3
  go_wp2_with fail
  have hT : Three w w3.heap.size (w3.heap.size + 1) (w3.heap.size + 1 + 1) (.int .u64 (mask (ful n) : Nat)) (.int .u64 (mask (vac n) : Nat)) (.int .u64 (mask (mat n 128) : Nat))
      (((w3.alloc (.cells #[.int .u64 (mask (ful n) : Nat)] 30)).alloc (.cells #[.int .u64 (mask (vac n) : Nat)] 30)).alloc (.cells #[.int .u64 (mask (mat n 128) : Nat)] 30)) :=
    ⟨((hB.alloc hB.size _).alloc (by have := hB.size; simp; omega) _).alloc (by have := hB.size; simp; omega) _, by go_simp, by go_simp, by go_simp⟩
  go_loopw [6, 7] (fun i _ wr => ∃ k : Nat, k ≤ 8 ∧ i = .int .i64 k ∧ Three w w3.heap.size (w3.heap.size + 1) (w3.heap.size + 1 + 1) (.int .u64 (mask (ful n) : Nat)) (.int .u64 (mask (vac n) : Nat)) (.int .u64 (mask (mat n 128) : Nat)) wr) (fun i _ _ => (8 - intOf i).toNat)
  case atStart => exact ⟨0, by decide, rfl, hT⟩
  case round =>
    obtain ⟨k, hk, rfl, hT⟩ := hrel
    have q1 := hT.c1
    have q2 := hT.c2
    have q3 := hT.c3
    by_cases hlt : k < 8
    · have g1 := get_eq n h k
      have hg : Hid (getF n k = (byt n k : Nat)) := by unfold Hid getF; rw [if_pos (by omega)]; rfl
      rcases (by omega : byt n k < 128 ∨ byt n k = 128 ∨ byt n k = 254 ∨ (128 < byt n k ∧ byt n k ≠ 254)) with hc | hc | hc | ⟨hc1, hc2⟩
      · have f1 : decide (((byt n k : Nat) : Int) < 128) = true := by simp; omega
        have f2 : (((byt n k : Nat) : Int) == 128) = false := beq_eq_false_iff_ne.2 (by omega)
        have f3 : (((byt n k : Nat) : Int) == 254) = false := beq_eq_false_iff_ne.2 (by omega)
        have hf : Hid (ful n k = true) := by unfold Hid ful; simp; omega
        have hm : Hid (mat n 128 k = false) := by unfold Hid mat; simp; omega
        have hv : Hid (vac n k = false) := by unfold Hid vac mat; simp; omega
        skip
        go_wp2_with (first | (go_at_call 9; refine (get_to n _ _ _ h hg.out).mono ?_; rintro e w' ⟨rfl, ⟨mm, rfl⟩⟩) | (go_at_call 12; (first | with_reducible refine (keeps (has_is (ful n) k _ _ hlt hf.out) (fun w' hb => Three.keep (by first | exact hT | exact hT.drew _) w' hb)).mono ?_ | with_reducible refine (keeps (has_is (mat n 128) k _ _ hlt hm.out) (fun w' hb => Three.keep (by first | exact hT | exact hT.drew _) w' hb)).mono ?_ | with_reducible refine (keeps (has_is (vac n) k _ _ hlt hv.out) (fun w' hb => Three.keep (by first | exact hT | exact hT.drew _) w' hb)).mono ?_); rintro e w' ⟨rfl, hT⟩; have q1 := hT.c1; have q2 := hT.c2; have q3 := hT.c3))
        go_roundw
        case rel => exact ⟨k + 1, by omega, by go_num, by first | exact hT | exact hT.drew _⟩
        case measure => simp [intOf]; omega
      · have f1 : decide (((byt n k : Nat) : Int) < 128) = false := by simp; omega
        have f2 : (((byt n k : Nat) : Int) == 128) = true := beq_iff_eq.2 (by omega)
        have f3 : (((byt n k : Nat) : Int) == 254) = false := beq_eq_false_iff_ne.2 (by omega)
        have hf : Hid (ful n k = false) := by unfold Hid ful; simp; omega
        have hm : Hid (mat n 128 k = true) := by unfold Hid mat; simp; omega
        have hv : Hid (vac n k = true) := by unfold Hid vac mat; simp; omega
        clear hc
        go_wp2_with (first | (go_at_call 9; refine (get_to n _ _ _ h hg.out).mono ?_; rintro e w' ⟨rfl, ⟨mm, rfl⟩⟩) | (go_at_call 12; (first | with_reducible refine (keeps (has_is (ful n) k _ _ hlt hf.out) (fun w' hb => Three.keep (by first | exact hT | exact hT.drew _) w' hb)).mono ?_ | with_reducible refine (keeps (has_is (mat n 128) k _ _ hlt hm.out) (fun w' hb => Three.keep (by first | exact hT | exact hT.drew _) w' hb)).mono ?_ | with_reducible refine (keeps (has_is (vac n) k _ _ hlt hv.out) (fun w' hb => Three.keep (by first | exact hT | exact hT.drew _) w' hb)).mono ?_); rintro e w' ⟨rfl, hT⟩; have q1 := hT.c1; have q2 := hT.c2; have q3 := hT.c3))
        go_roundw
        case rel => exact ⟨k + 1, by omega, by go_num, by first | exact hT | exact hT.drew _⟩
        case measure => simp [intOf]; omega
      · have f1 : decide (((byt n k : Nat) : Int) < 128) = false := by simp; omega
        have f2 : (((byt n k : Nat) : Int) == 128) = false := beq_eq_false_iff_ne.2 (by omega)
        have f3 : (((byt n k : Nat) : Int) == 254) = true := beq_iff_eq.2 (by omega)
        have hf : Hid (ful n k = false) := by unfold Hid ful; simp; omega
        have hm : Hid (mat n 128 k = false) := by unfold Hid mat; simp; omega
        have hv : Hid (vac n k = true) := by unfold Hid vac mat; simp; omega
        clear hc
        go_wp2_with (first | (go_at_call 9; refine (get_to n _ _ _ h hg.out).mono ?_; rintro e w' ⟨rfl, ⟨mm, rfl⟩⟩) | (go_at_call 12; (first | with_reducible refine (keeps (has_is (ful n) k _ _ hlt hf.out) (fun w' hb => Three.keep (by first | exact hT | exact hT.drew _) w' hb)).mono ?_ | with_reducible refine (keeps (has_is (mat n 128) k _ _ hlt hm.out) (fun w' hb => Three.keep (by first | exact hT | exact hT.drew _) w' hb)).mono ?_ | with_reducible refine (keeps (has_is (vac n) k _ _ hlt hv.out) (fun w' hb => Three.keep (by first | exact hT | exact hT.drew _) w' hb)).mono ?_); rintro e w' ⟨rfl, hT⟩; have q1 := hT.c1; have q2 := hT.c2; have q3 := hT.c3))
        go_roundw
        case rel => exact ⟨k + 1, by omega, by go_num, by first | exact hT | exact hT.drew _⟩
        case measure => simp [intOf]; omega
      · have f1 : decide (((byt n k : Nat) : Int) < 128) = false := by simp; omega
        have f2 : (((byt n k : Nat) : Int) == 128) = false := beq_eq_false_iff_ne.2 (by omega)
        have f3 : (((byt n k : Nat) : Int) == 254) = false := beq_eq_false_iff_ne.2 (by omega)
        have hf : Hid (ful n k = false) := by unfold Hid ful; simp; omega
        have hm : Hid (mat n 128 k = false) := by unfold Hid mat; simp; omega
        have hv : Hid (vac n k = false) := by unfold Hid vac mat; simp; omega
        clear hc2
        go_wp2_with (first | (go_at_call 9; refine (get_to n _ _ _ h hg.out).mono ?_; rintro e w' ⟨rfl, ⟨mm, rfl⟩⟩) | (go_at_call 12; (first | with_reducible refine (keeps (has_is (ful n) k _ _ hlt hf.out) (fun w' hb => Three.keep (by first | exact hT | exact hT.drew _) w' hb)).mono ?_ | with_reducible refine (keeps (has_is (mat n 128) k _ _ hlt hm.out) (fun w' hb => Three.keep (by first | exact hT | exact hT.drew _) w' hb)).mono ?_ | with_reducible refine (keeps (has_is (vac n) k _ _ hlt hv.out) (fun w' hb => Three.keep (by first | exact hT | exact hT.drew _) w' hb)).mono ?_); rintro e w' ⟨rfl, hT⟩; have q1 := hT.c1; have q2 := hT.c2; have q3 := hT.c3))
        go_roundw
        case rel => exact ⟨k + 1, by omega, by go_num, by first | exact hT | exact hT.drew _⟩
        case measure => simp [intOf]; omega
    · obtain ⟨n1, n2, n3', n4'⟩ := parts_cnt n
      have n3 : Hid (((cnt (ful 9259542123273814144) : Nat) : Int) = 0) := by unfold Hid; omega
      have n4 : Hid (((cnt (mat 9259542123273814144 128) : Nat) : Int) = 8) := by unfold Hid; omega
      clear n3' n4'
      have s1 : IntKind.i64.wrap (((cnt (ful n) : Nat) : Int) + ((cnt (vac n) : Nat) : Int)) = ((cnt (ful n) : Nat) : Int) + ((cnt (vac n) : Nat) : Int) := IntWalk.i64_in _ (by omega)
      have s2 : decide (((cnt (ful n) : Nat) : Int) + ((cnt (vac n) : Nat) : Int) ≤ 8) = true := by simp; omega
      have s3 : decide (((cnt (mat n 128) : Nat) : Int) ≤ ((cnt (vac n) : Nat) : Int)) = true := by simp; omega
      have s4 : decide (cnt (mat n 128) ≤ cnt (vac n)) = true := by simp; omega
      clear n1 n2
      go_wp2_with fail
      have hK : Hid (∀ wc, Below w.heap.size w wc → wc.cell? ⟨w3.heap.size, 0, none⟩ = some (.int .u64 (mask (ful n) : Nat)) → wc.cell? ⟨w3.heap.size + 1, 0, none⟩ = some (.int .u64 (mask (vac n) : Nat)) → wc.cell? ⟨w3.heap.size + 1 + 1, 0, none⟩ = some (.int .u64 (mask (mat n 128) : Nat)) → ∀ w', Below wc.heap.size wc w' → Three w w3.heap.size (w3.heap.size + 1) (w3.heap.size + 1 + 1) (.int .u64 (mask (ful n) : Nat)) (.int .u64 (mask (vac n) : Nat)) (.int .u64 (mask (mat n 128) : Nat)) w') :=
        fun wc a b c d w' hb => Three.keep ⟨a, b, c, d⟩ w' hb
      have q0 := hT.below
      go_region_held3 (fun w' => Below w.heap.size w w' ∧ w'.cell? ⟨w3.heap.size, 0, none⟩ = some (.int .u64 (mask (ful n) : Nat)) ∧ w'.cell? ⟨w3.heap.size + 1, 0, none⟩ = some (.int .u64 (mask (vac n) : Nat)) ∧ w'.cell? ⟨w3.heap.size + 1 + 1, 0, none⟩ = some (.int .u64 (mask (mat n 128) : Nat))) (first | exact ⟨hT.below, hT.c1, hT.c2, hT.c3⟩ | exact ⟨hT.below.drew, hT.c1, hT.c2, hT.c3⟩ | exact ⟨by assumption, by assumption, by assumption, by assumption⟩ | go_keep) ((first | (go_at_call 16; (first | with_reducible refine (keeps (count_mask (ful n) _) (fun w' hb => Three.keep (by first | exact hT | exact hT.drew1 | exact hT.drew _) w' hb)).mono ?_ | with_reducible refine (keeps (count_mask (vac n) _) (fun w' hb => Three.keep (by first | exact hT | exact hT.drew1 | exact hT.drew _) w' hb)).mono ?_ | with_reducible refine (keeps (count_mask (mat n 128) _) (fun w' hb => Three.keep (by first | exact hT | exact hT.drew1 | exact hT.drew _) w' hb)).mono ?_ | with_reducible refine (keeps (count_to (ful 9259542123273814144) 0 _ n3.out) (fun w' hb => Three.keep (by first | exact hT | exact hT.drew1 | exact hT.drew _) w' hb)).mono ?_ | with_reducible refine (keeps (count_to (mat 9259542123273814144 128) 8 _ n4.out) (fun w' hb => Three.keep (by first | exact hT | exact hT.drew1 | exact hT.drew _) w' hb)).mono ?_); rintro e w' ⟨rfl, hT⟩; have q0 := hT.below; have q1 := hT.c1; have q2 := hT.c2; have q3 := hT.c3) | (go_at_call 17; refine (keeps (empty_below _) (fun w' hb => Three.keep (by first | exact hT | exact hT.drew1 | exact hT.drew _) w' hb)).mono ?_; rintro e w' ⟨rfl, hT⟩; have q0 := hT.below; have q1 := hT.c1; have q2 := hT.c2; have q3 := hT.c3) | (go_at_call 14; refine (keeps (matchFull_any 9259542123273814144 _ (by decide)) (fun w' hb => Three.keep (by first | exact hT | exact hT.drew1 | exact hT.drew _) w' hb)).mono ?_; rintro e w' ⟨rfl, hT⟩; have q0 := hT.below; have q1 := hT.c1; have q2 := hT.c2; have q3 := hT.c3) | (go_at_call 13; refine (keeps (matchEmpty_any 9259542123273814144 _ (by decide)) (fun w' hb => Three.keep (by first | exact hT | exact hT.drew1 | exact hT.drew _) w' hb)).mono ?_; rintro e w' ⟨rfl, hT⟩; have q0 := hT.below; have q1 := hT.c1; have q2 := hT.c2; have q3 := hT.c3)))
      go_wp2
      go_ret
      exact ⟨rfl, hT.below⟩
end Go.Proofs.Ytakmaedimelaaaa
