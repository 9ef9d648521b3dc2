/- What is proved here: the contracts of layout.place, KeyAt, ElemAt, BirthAt, Groups. -/
import Derived.Test.YtlfppmdehkhjiaaLVal
import Derived.Test.YtlfppmdehkhjiaaLPlain2
namespace Go.Proofs.Ytlfppmdehkhjiaa
set_option linter.unusedVariables false
set_option linter.unusedSimpArgs false
open Go.RowKit Pl
theorem valid_to (l : LV) (b : Bool) (w : World) (hb : l.validB = b) : Calls Try.prog 18 #[.agg #[.int .i64 l.k, .int .i64 l.e, .int .i64 l.ka, .int .i64 l.ea, .int .i64 l.c, .int .i64 l.eo, .int .i64 l.bo, .int .i64 l.sl, .int .i64 l.gr]] w fun e' w' => e' = .returned (.bool b) ∧ Below w.heap.size w w' := by
  subst hb; exact valid_any l w
theorem place_any (k e ka ea c eo bo sl gr i off : Int) (w : World) (ho : LV.validB ⟨k, e, ka, ea, c, eo, bo, sl, gr⟩ = true → 0 ≤ off ∧ off ≤ 270) : Calls Try.prog 44 #[.agg #[.int .i64 k, .int .i64 e, .int .i64 ka, .int .i64 ea, .int .i64 c, .int .i64 eo, .int .i64 bo, .int .i64 sl, .int .i64 gr], .int .i64 i, .int .i64 off] w fun e' w' => e' = .returned (.int .i64 (placeF ⟨k, e, ka, ea, c, eo, bo, sl, gr⟩ i off)) ∧ Below w.heap.size w w' := by
  by_cases h1 : i < 0
  · have hr : Hid (placeF ⟨k, e, ka, ea, c, eo, bo, sl, gr⟩ i off = -1) := by unfold Hid placeF; rw [if_neg (by omega)]
    go_enter Try.func44, Try.ntmps44
    go_wp2_with fail
    go_ret
    exact ⟨ret_int hr.out.symm, (Below.refl _ _).alloc (Nat.le_refl _) _⟩
  by_cases h2 : 8 ≤ i
  · have hr : Hid (placeF ⟨k, e, ka, ea, c, eo, bo, sl, gr⟩ i off = -1) := by unfold Hid placeF; rw [if_neg (by omega)]
    go_enter Try.func44, Try.ntmps44
    go_wp2_with fail
    go_ret
    exact ⟨ret_int hr.out.symm, (Below.refl _ _).alloc (Nat.le_refl _) _⟩
  cases hv : LV.validB ⟨k, e, ka, ea, c, eo, bo, sl, gr⟩
  · have hr : Hid (placeF ⟨k, e, ka, ea, c, eo, bo, sl, gr⟩ i off = -1) := by unfold Hid placeF; rw [if_neg (by simp [hv])]
    replace hv := Lib.hid hv
    clear ho
    go_enter Try.func44, Try.ntmps44
    go_wp2_with fail
    refine (valid_to ⟨k, e, ka, ea, c, eo, bo, sl, gr⟩ _ _ hv.out).mono ?_
    rintro e' w1 ⟨rfl, hb⟩
    go_wp2_with fail
    go_ret
    exact ⟨ret_int hr.out.symm, ((Below.refl _ _).alloc (Nat.le_refl _) _).trans (hb.mono (by simp))⟩
  · have hr : Hid (placeF ⟨k, e, ka, ea, c, eo, bo, sl, gr⟩ i off = 8 + i * sl + off) := by unfold Hid placeF; rw [if_pos ⟨by omega, by omega, hv⟩]
    obtain ⟨o1, o2⟩ := ho hv
    have hbd : 0 ≤ sl ∧ sl ≤ 278 := by
      obtain ⟨g, a1, a2, a3, a4, a5, a6, a7, a8⟩ := valid_bounds hv
      have := g.e1
      simp only at *
      omega
    obtain ⟨s0, s1⟩ := hbd
    have m0 : 0 ≤ i * sl := Int.mul_nonneg (by omega) s0
    have m1 : i * sl ≤ 1946 := by have : i * sl ≤ 7 * sl := Int.mul_le_mul_of_nonneg_right (by omega) s0
                                  omega
    replace hv := Lib.hid hv
    clear ho
    go_enter Try.func44, Try.ntmps44
    go_wp2_with fail
    refine (valid_to ⟨k, e, ka, ea, c, eo, bo, sl, gr⟩ _ _ hv.out).mono ?_
    rintro e' w1 ⟨rfl, hb⟩
    obtain ⟨hc, hf⟩ := bcell hb
    go_wp2_with fail
    go_ret
    refine ⟨?_, ((Below.refl _ _).alloc (Nat.le_refl _) _).trans (hb.mono (by simp))⟩
    exact ret_int hr.out.symm
theorem keyAt_any (k e ka ea c eo bo sl gr i : Int) (w : World) : Calls Try.prog 23 #[.agg #[.int .i64 k, .int .i64 e, .int .i64 ka, .int .i64 ea, .int .i64 c, .int .i64 eo, .int .i64 bo, .int .i64 sl, .int .i64 gr], .int .i64 i] w fun e' w' => e' = .returned (.int .i64 (placeF ⟨k, e, ka, ea, c, eo, bo, sl, gr⟩ i 0)) ∧ Below w.heap.size w w' := by
  go_enter Try.func23, Try.ntmps23
  go_wp2_with fail
  refine (place_any k e ka ea c eo bo sl gr i 0 _ (fun _ => by omega)).mono ?_
  rintro e' w1 ⟨rfl, hb⟩
  go_wp2_with fail
  go_ret
  exact ⟨rfl, by first | exact hb | exact ((Below.refl _ _).alloc (Nat.le_refl _) _).trans (hb.mono (by simp))⟩
theorem elemAt_any (k e ka ea c eo bo sl gr i : Int) (w : World) : Calls Try.prog 25 #[.agg #[.int .i64 k, .int .i64 e, .int .i64 ka, .int .i64 ea, .int .i64 c, .int .i64 eo, .int .i64 bo, .int .i64 sl, .int .i64 gr], .int .i64 i] w fun e' w' => e' = .returned (.int .i64 (placeF ⟨k, e, ka, ea, c, eo, bo, sl, gr⟩ i eo)) ∧ Below w.heap.size w w' := by
  go_enter Try.func25, Try.ntmps25
  go_wp2_with fail
  refine (place_any k e ka ea c eo bo sl gr i eo _ (fun h => by have := (valid_bounds h).2.2.2.2.2; simp only at this; omega)).mono ?_
  rintro e' w1 ⟨rfl, hb⟩
  go_wp2_with fail
  go_ret
  exact ⟨rfl, by first | exact hb | exact ((Below.refl _ _).alloc (Nat.le_refl _) _).trans (hb.mono (by simp))⟩
theorem birthAt_any (k e ka ea c eo bo sl gr i : Int) (w : World) : Calls Try.prog 27 #[.agg #[.int .i64 k, .int .i64 e, .int .i64 ka, .int .i64 ea, .int .i64 c, .int .i64 eo, .int .i64 bo, .int .i64 sl, .int .i64 gr], .int .i64 i] w fun e' w' => e' = .returned (.int .i64 (placeF ⟨k, e, ka, ea, c, eo, bo, sl, gr⟩ i bo)) ∧ Below w.heap.size w w' := by
  go_enter Try.func27, Try.ntmps27
  go_wp2_with fail
  refine (place_any k e ka ea c eo bo sl gr i bo _ (fun h => by have := (valid_bounds h).2.2.2.2.2; have := (valid_bounds h).1.e1; simp only at *; omega)).mono ?_
  rintro e' w1 ⟨rfl, hb⟩
  go_wp2_with fail
  go_ret
  exact ⟨rfl, by first | exact hb | exact ((Below.refl _ _).alloc (Nat.le_refl _) _).trans (hb.mono (by simp))⟩
theorem groups_any (k e ka ea c eo bo sl gr n : Int) (w : World) : Calls Try.prog 29 #[.agg #[.int .i64 k, .int .i64 e, .int .i64 ka, .int .i64 ea, .int .i64 c, .int .i64 eo, .int .i64 bo, .int .i64 sl, .int .i64 gr], .int .i64 n] w fun e' w' => e' = .returned (.int .i64 (groupsF ⟨k, e, ka, ea, c, eo, bo, sl, gr⟩ n)) ∧ Below w.heap.size w w' := by
  cases hp : pwF n 8 65536
  · have hr : Hid (groupsF ⟨k, e, ka, ea, c, eo, bo, sl, gr⟩ n = -1) := by unfold Hid groupsF; rw [if_neg (by simp [hp])]
    replace hp := Lib.hid hp
    go_enter Try.func29, Try.ntmps29
    go_wp2_with (go_at_call 42; refine (power_to n 8 65536 _ _ (by decide) (by decide) hp.out).mono ?_; rintro e w' ⟨rfl, rfl⟩)
    go_ret
    exact ⟨ret_int hr.out.symm, (Below.refl _ _).alloc (Nat.le_refl _) _⟩
  · cases hv : LV.validB ⟨k, e, ka, ea, c, eo, bo, sl, gr⟩
    · have hr : Hid (groupsF ⟨k, e, ka, ea, c, eo, bo, sl, gr⟩ n = -1) := by unfold Hid groupsF; rw [if_neg (by simp [hv])]
      replace hp := Lib.hid hp
      replace hv := Lib.hid hv
      go_enter Try.func29, Try.ntmps29
      go_wp2_with (go_at_call 42; refine (power_to n 8 65536 _ _ (by decide) (by decide) hp.out).mono ?_; rintro e w' ⟨rfl, rfl⟩)
      refine (valid_to ⟨k, e, ka, ea, c, eo, bo, sl, gr⟩ _ _ hv.out).mono ?_
      rintro e' w1 ⟨rfl, hb⟩
      go_wp2_with fail
      go_ret
      exact ⟨ret_int hr.out.symm, ((Below.refl _ _).alloc (Nat.le_refl _) _).trans (hb.mono (by simp))⟩
    · have hr : Hid (groupsF ⟨k, e, ka, ea, c, eo, bo, sl, gr⟩ n = n / 8 * gr) := by unfold Hid groupsF; rw [if_pos ⟨hp, hv⟩]
      have hn : 8 ≤ n ∧ n ≤ 65536 := by unfold pwF at hp; simp only [Bool.and_eq_true, decide_eq_true_eq] at hp; exact hp.1
      obtain ⟨n1, n2⟩ := hn
      have g0 : 0 ≤ gr ∧ gr ≤ 2300 := by
        obtain ⟨g, a1, a2, a3, a4, a5, a6, a7, a8⟩ := valid_bounds hv
        have := g.e1
        simp only at *
        omega
      obtain ⟨g1, g2⟩ := g0
      have m0 : 0 ≤ n / 8 * gr := Int.mul_nonneg (by omega) g1
      have m1 : n / 8 * gr ≤ 18841600 := by have : n / 8 * gr ≤ 8192 * gr := Int.mul_le_mul_of_nonneg_right (by omega) g1
                                            omega
      replace hp := Lib.hid hp
      replace hv := Lib.hid hv
      go_enter Try.func29, Try.ntmps29
      go_wp2_with (go_at_call 42; refine (power_to n 8 65536 _ _ (by decide) (by decide) hp.out).mono ?_; rintro e w' ⟨rfl, rfl⟩)
      refine (valid_to ⟨k, e, ka, ea, c, eo, bo, sl, gr⟩ _ _ hv.out).mono ?_
      rintro e' w1 ⟨rfl, hb⟩
      obtain ⟨hc, hf⟩ := bcell hb
      go_wp2_with fail
      go_ret
      exact ⟨ret_int (by rw [hr.out]), ((Below.refl _ _).alloc (Nat.le_refl _) _).trans (hb.mono (by simp))⟩
end Go.Proofs.Ytlfppmdehkhjiaa
