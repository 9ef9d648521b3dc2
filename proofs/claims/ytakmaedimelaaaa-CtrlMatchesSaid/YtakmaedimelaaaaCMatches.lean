/- What is proved here: the walk of the law CtrlMatches. The word is below 2 to the 64. -/
import Derived.Test.YtakmaedimelaaaaCCtrl
namespace Go.Proofs.Ytakmaedimelaaaa
set_option linter.unusedVariables false
set_option linter.unusedSimpArgs false
open Go.RowKit Pl
set_option maxRecDepth 100000 in
set_option maxHeartbeats 1000000 in
theorem matches_all (n : Nat) (tag : Int) (w : World) (h : n < 18446744073709551616) : Calls Try.prog 5 #[.int .u64 n, .int .i64 tag] w fun e w' => e = .returned (.bool true) ∧ Below w.heap.size w w' := by
  have hmf : Hid (∀ i, matF n tag i = (decide (0 ≤ tag) && decide (tag ≤ 127) && (((byt n i : Nat) : Int) == tag))) := fun _ => rfl
  go_enter Try.func5, Try.ntmps5
  go_wp2_with fail
  refine (match_any n tag _ h).mono ?_
  rintro e w1 ⟨rfl, hB⟩
  go_wp2_with fail
  have hT : Three w w1.heap.size w1.heap.size w1.heap.size (.int .u64 (mask (matF n tag) : Nat)) (.int .u64 (mask (matF n tag) : Nat)) (.int .u64 (mask (matF n tag) : Nat))
      (w1.alloc (.cells #[.int .u64 (mask (matF n tag) : Nat)] 30)) :=
    ⟨hB.alloc hB.size _, by go_simp, by go_simp, by go_simp⟩
  go_loopw [6, 7] (fun i _ wr => ∃ k : Nat, k ≤ 8 ∧ i = .int .i64 k ∧ Three w w1.heap.size w1.heap.size w1.heap.size (.int .u64 (mask (matF n tag) : Nat)) (.int .u64 (mask (matF n tag) : Nat)) (.int .u64 (mask (matF n tag) : Nat)) wr) (fun i _ _ => (8 - intOf i).toNat)
  case atStart => exact ⟨0, by decide, rfl, hT⟩
  case round =>
    obtain ⟨k, hk, rfl, hT⟩ := hrel
    have q1 := hT.c1
    by_cases hlt : k < 8
    · have g1 := get_eq n h k
      have hm := Lib.hid (hmf.out k)
      cases ht0 : decide (0 ≤ tag) <;> cases ht1 : decide (tag ≤ 127) <;> cases ht2 : ((((byt n k : Nat) : Int) == tag)) <;>
      · rw [ht0, ht1, ht2] at hm
        replace hm := Lib.hid (hm.out)
        go_wp2_with (go_at_call 12; refine (keeps (has_is (matF n tag) k _ _ hlt hm.out) (fun w' hb => Three.keep (by first | exact hT | exact hT.drew _) w' hb)).mono ?_; rintro e w' ⟨rfl, hT⟩; have q1 := hT.c1)
        go_roundw
        case rel => exact ⟨k + 1, by omega, by go_num, by first | exact hT | exact hT.drew _⟩
        case measure => simp [intOf]; omega
    · have hB2 := hT.below
      go_wp2_with fail
      refine (matchFull_any n _ h).mono ?_
      rintro e w2 ⟨rfl, hb2⟩
      have hB := Below.then hB2 hb2
      go_wp2_with fail
      have hT : Three w w2.heap.size w2.heap.size w2.heap.size (.int .u64 (mask (ful n) : Nat)) (.int .u64 (mask (ful n) : Nat)) (.int .u64 (mask (ful n) : Nat))
          (w2.alloc (.cells #[.int .u64 (mask (ful n) : Nat)] 30)) :=
        ⟨hB.alloc hB.size _, by go_simp, by go_simp, by go_simp⟩
      have h0 : Hid (cnt (ltF n 0) = 0) := cnt_lt0 n
      go_loopw [9, 10] (fun s i wr => ∃ t : Nat, t ≤ 128 ∧ i = .int .i64 t ∧ s = .int .i64 (cnt (ltF n t) : Nat) ∧ Three w w2.heap.size w2.heap.size w2.heap.size (.int .u64 (mask (ful n) : Nat)) (.int .u64 (mask (ful n) : Nat)) (.int .u64 (mask (ful n) : Nat)) wr) (fun _ i _ => (128 - intOf i).toNat)
      case atStart => exact ⟨0, by decide, rfl, by rw [h0.out]; rfl, hT⟩
      case round =>
        obtain ⟨t, ht, rfl, rfl, hT⟩ := hrel
        obtain ⟨wo, rfl⟩ : ∃ wo : World, wo = wr := ⟨_, rfl⟩
        have q1 := hT.c1
        have l1 := cnt_le (ltF n t)
        by_cases hlt : t < 128
        · have l2 := cnt_le (mat n t)
          have hstep : Hid (((cnt (ltF n t) : Nat) : Int) + ((cnt (mat n t) : Nat) : Int) = ((cnt (ltF n (t + 1)) : Nat) : Int)) := by have := cnt_lt n t; unfold Hid; omega
          go_wp2_with fail
          refine (keeps (match_in n t _ h (by omega)) (fun w' hb => Three.keep (by first | exact hT | exact hT.drew _) w' hb)).mono ?_
          rintro e w4 ⟨rfl, hT4⟩
          have r1 := hT4.c1
          go_wp2_with fail
          have hT5 : Three w w2.heap.size w4.heap.size w4.heap.size (.int .u64 (mask (ful n) : Nat)) (.int .u64 (mask (mat n t) : Nat)) (.int .u64 (mask (mat n t) : Nat))
              (w4.alloc (.cells #[.int .u64 (mask (mat n t) : Nat)] 30)) :=
            ⟨hT4.below.alloc hT4.below.size _, (Below.alloc (Below.refl w4.heap.size w4) (Nat.le_refl _) _).cell (p := ⟨w2.heap.size, 0, none⟩) (World.block_lt_of_cell? w4 _ r1) |>.trans r1, by go_simp, by go_simp⟩
          refine (keeps (count_mask (mat n t) _) (fun w' hb => Three.keep (by first | exact hT5 | exact hT5.drew _) w' hb)).mono ?_
          rintro e w6 ⟨rfl, hT6⟩
          have r2 := hT6.c1
          have r3 := hT6.c2
          go_wp2_with fail
          go_loopw [12] (fun i wr => ∃ k : Nat, k ≤ 8 ∧ i = .int .i64 k ∧ Three w w2.heap.size w4.heap.size w4.heap.size (.int .u64 (mask (ful n) : Nat)) (.int .u64 (mask (mat n t) : Nat)) (.int .u64 (mask (mat n t) : Nat)) wr) (fun i _ => (8 - intOf i).toNat)
          case atStart => exact ⟨0, by decide, rfl, hT6⟩
          case round =>
            obtain ⟨k, hk, rfl, hT⟩ := hrel
            have q1 := hT.c1
            have q2 := hT.c2
            by_cases hkl : k < 8
            · have hmf := Lib.hid (@mat_ful n t k (by omega))
              obtain ⟨v, hv⟩ : ∃ v, Hid (mat n t k = v) := ⟨_, rfl⟩
              cases v
              · go_wp2_with (go_at_call 12; (first | with_reducible refine (keeps (has_is (mat n t) k _ _ hkl hv.out) (fun w' hb => Three.keep (by first | exact hT | exact hT.drew _) w' hb)).mono ?_); rintro e w' ⟨rfl, hT⟩; have q1 := hT.c1; have q2 := hT.c2)
                go_roundw
                case rel => exact ⟨k + 1, by omega, by go_num, by first | exact hT | exact hT.drew _⟩
                case measure => simp [intOf]; omega
              · have hf := Lib.hid (hmf.out hv.out)
                go_wp2_with (go_at_call 12; (first | with_reducible refine (keeps (has_is (mat n t) k _ _ hkl hv.out) (fun w' hb => Three.keep (by first | exact hT | exact hT.drew _) w' hb)).mono ?_ | with_reducible refine (keeps (has_is (ful n) k _ _ hkl hf.out) (fun w' hb => Three.keep (by first | exact hT | exact hT.drew _) w' hb)).mono ?_); rintro e w' ⟨rfl, hT⟩; have q1 := hT.c1; have q2 := hT.c2)
                go_roundw
                case rel => exact ⟨k + 1, by omega, by go_num, by first | exact hT | exact hT.drew _⟩
                case measure => simp [intOf]; omega
            · go_wp2_with fail
              go_roundw
              case rel => exact ⟨t + 1, by omega, by go_num, by rw [hstep.out], ⟨hT.below, hT.c1, hT.c1, hT.c1⟩⟩
              case measure => simp [intOf]; omega
        · have he : Hid (((cnt (ltF n t) : Nat) : Int) = ((cnt (ful n) : Nat) : Int)) := by
            have : t = 128 := by omega
            subst this; rfl
          go_wp2_with fail
          refine (keeps (count_mask (ful n) _) (fun w' hb => Three.keep (by first | exact hT | exact hT.drew _) w' hb)).mono ?_
          rintro e w6 ⟨rfl, hT6⟩
          go_wp2_with fail
          go_ret
          exact ⟨ret_bool (by rw [he.out]; simp), hT6.below⟩
end Go.Proofs.Ytakmaedimelaaaa
