/- What is proved here: the contract of the reference's Parse. Conditions: five numbers in memory. -/
import Derived.Test.YtlfppmdehkhjiaaRRef
import Derived.BigRegion
namespace Go.Proofs.Ytlfppmdehkhjiaa
set_option linter.unusedVariables false
set_option linter.unusedSimpArgs false
open Go.RowKit Pl
attribute [local go_sem] setCell_drewN alloc_drewN
theorem rparse_short (a : Option Addr) (n c : Nat) (w : World) (hn : n ≠ 5) : Calls Try.prog 12 #[.slice a n c] w fun e w' => e = .returned (.tuple #[LV.zero.val, .int .i64 30]) ∧ Below w.heap.size w w' := by
  have h5 : ((n : Int) != 5) = true := by simp; omega
  have h6 : ((n : Int) == 5) = false := by simp; omega
  go_enter Try.func12, Try.ntmps12
  go_wp2_with fail
  exact bodyPost_ret (v := .tuple #[LV.zero.val, .int .i64 30]) (by simp [results, Try.results12, go_sem, LV.val, LV.zero]) rfl ⟨rfl, by repeat (first | exact Below.refl _ _ | refine below_drewN ?_ _ | refine Below.drew ?_ | refine Below.setCell ?_ (by simp) _ | refine Below.alloc ?_ (by simp) _)⟩
set_option maxHeartbeats 2000000 in
set_option maxRecDepth 100000 in
theorem rparse_five (b o c : Nat) (k e ka ea cp : Int) (w : World) (hb : b < w.heap.size) (h0 : w.cell? ⟨b, o, none⟩ = some (.int .i64 k)) (h1 : w.cell? ⟨b, o + 1, none⟩ = some (.int .i64 e)) (h2 : w.cell? ⟨b, o + 2, none⟩ = some (.int .i64 ka)) (h3 : w.cell? ⟨b, o + 3, none⟩ = some (.int .i64 ea)) (h4 : w.cell? ⟨b, o + 4, none⟩ = some (.int .i64 cp)) :
    Calls Try.prog 12 #[.slice (some ⟨b, o, none⟩) 5 c] w fun e' w' => e' = .returned (.tuple #[(parsed k e ka ea cp).val, .int .i64 (perr k e ka ea cp)]) ∧ Below w.heap.size w w' := by
  by_cases c1 : k < 1 ∨ 128 < k
  · have hpe : Hid (perr k e ka ea cp = 31) := by unfold Hid perr; rw [if_pos c1]
    have hpd : Hid (parsed k e ka ea cp = LV.zero) := by unfold Hid parsed; rw [hpe.out, if_neg (by decide)]
    rcases (by omega : k < 1 ∨ (¬ k < 1 ∧ 128 < k)) with c1 | ⟨c0, c1⟩
    all_goals
      go_enter Try.func12, Try.ntmps12
      go_wp2_with fail
      exact bodyPost_ret (v := .tuple #[(parsed k e ka ea cp).val, .int .i64 (perr k e ka ea cp)]) (by rw [hpd.out, hpe.out]; simp [results, Try.results12, go_sem, LV.val, LV.zero]) rfl ⟨rfl, by repeat (first | exact Below.refl _ _ | refine below_drewN ?_ _ | refine Below.drew ?_ | refine Below.setCell ?_ (by simp) _ | refine Below.alloc ?_ (by simp) _)⟩
  have d1 : 1 ≤ k := by omega
  have d2 : k ≤ 128 := by omega
  by_cases c2 : e < 0 ∨ 128 < e
  · have hpe : Hid (perr k e ka ea cp = 32) := by unfold Hid perr; rw [if_neg c1, if_pos c2]
    have hpd : Hid (parsed k e ka ea cp = LV.zero) := by unfold Hid parsed; rw [hpe.out, if_neg (by decide)]
    clear c1
    rcases (by omega : e < 0 ∨ (¬ e < 0 ∧ 128 < e)) with c2 | ⟨c0, c2⟩
    all_goals
      go_enter Try.func12, Try.ntmps12
      go_wp2_with fail
      exact bodyPost_ret (v := .tuple #[(parsed k e ka ea cp).val, .int .i64 (perr k e ka ea cp)]) (by rw [hpd.out, hpe.out]; simp [results, Try.results12, go_sem, LV.val, LV.zero]) rfl ⟨rfl, by repeat (first | exact Below.refl _ _ | refine below_drewN ?_ _ | refine Below.drew ?_ | refine Below.setCell ?_ (by simp) _ | refine Below.alloc ?_ (by simp) _)⟩
  have d3 : 0 ≤ e := by omega
  have d4 : e ≤ 128 := by omega
  obtain ⟨b1, A1⟩ : ∃ b1, Hid (alF k ka = b1) := ⟨_, rfl⟩
  obtain ⟨b2, A2⟩ : ∃ b2, Hid (alF e ea = b2) := ⟨_, rfl⟩
  by_cases c3 : alF k ka = false ∨ alF e ea = false
  · have hpe : Hid (perr k e ka ea cp = 33) := by unfold Hid perr; rw [if_neg c1, if_neg c2, if_pos c3]
    have hpd : Hid (parsed k e ka ea cp = LV.zero) := by unfold Hid parsed; rw [hpe.out, if_neg (by decide)]
    clear c1 c2
    rw [A1.out, A2.out] at c3
    rcases (by cases b1 <;> cases b2 <;> simp at c3 ⊢ : b1 = false ∨ (b1 = true ∧ b2 = false)) with rfl | ⟨rfl, rfl⟩
    all_goals
      clear c3
      go_enter Try.func12, Try.ntmps12
      go_wp2_with fail
      go_quiet ((go_at_call 38; first | with_reducible exact fits_q1 k ka _ _ (by omega) (by omega) _ A1.out | with_reducible exact fits_q2 k ka _ _ _ (by omega) (by omega) _ A1.out | with_reducible exact fits_q1 e ea _ _ (by omega) (by omega) _ A2.out | with_reducible exact fits_q2 e ea _ _ _ (by omega) (by omega) _ A2.out))
      go_wp2_with fail
      go_quiet ((go_at_call 38; first | with_reducible exact fits_q1 k ka _ _ (by omega) (by omega) _ A1.out | with_reducible exact fits_q2 k ka _ _ _ (by omega) (by omega) _ A1.out | with_reducible exact fits_q1 e ea _ _ (by omega) (by omega) _ A2.out | with_reducible exact fits_q2 e ea _ _ _ (by omega) (by omega) _ A2.out))
      go_wp2_with fail
      exact bodyPost_ret (v := .tuple #[(parsed k e ka ea cp).val, .int .i64 (perr k e ka ea cp)]) (by rw [hpd.out, hpe.out]; simp [results, Try.results12, go_sem, LV.val, LV.zero]) rfl ⟨rfl, by repeat (first | exact Below.refl _ _ | refine below_drewN ?_ _ | refine Below.drew ?_ | refine Below.setCell ?_ (by simp) _ | refine Below.alloc ?_ (by simp) _)⟩
  have a1 : alF k ka = true := by cases h : alF k ka <;> simp [h] at c3 ⊢
  have a2 : alF e ea = true := by cases h : alF e ea <;> simp [h] at c3 ⊢
  obtain rfl : true = b1 := a1.symm.trans A1.out
  obtain rfl : true = b2 := a2.symm.trans A2.out
  have hea : Hid (ea = 1 ∨ ea = 2 ∨ ea = 4 ∨ ea = 8) := pw18 (by unfold alF at a2; simp only [Bool.and_eq_true] at a2; exact a2.1)
  clear a1 a2
  cases c4 : pwF cp 16 1024
  · have hpe : Hid (perr k e ka ea cp = 34) := by unfold Hid perr; rw [if_neg c1, if_neg c2, if_neg c3, if_pos c4]
    have hpd : Hid (parsed k e ka ea cp = LV.zero) := by unfold Hid parsed; rw [hpe.out, if_neg (by decide)]
    have A3 := Lib.hid c4
    clear c1 c2 c3 c4
    go_enter Try.func12, Try.ntmps12
    go_wp2_with fail
    go_quiet ((go_at_call 38; first | with_reducible exact fits_q1 k ka _ _ (by omega) (by omega) _ A1.out | with_reducible exact fits_q2 k ka _ _ _ (by omega) (by omega) _ A1.out | with_reducible exact fits_q1 e ea _ _ (by omega) (by omega) _ A2.out | with_reducible exact fits_q2 e ea _ _ _ (by omega) (by omega) _ A2.out))
    go_wp2_with fail
    go_quiet ((go_at_call 38; first | with_reducible exact fits_q1 k ka _ _ (by omega) (by omega) _ A1.out | with_reducible exact fits_q2 k ka _ _ _ (by omega) (by omega) _ A1.out | with_reducible exact fits_q1 e ea _ _ (by omega) (by omega) _ A2.out | with_reducible exact fits_q2 e ea _ _ _ (by omega) (by omega) _ A2.out))
    go_wp2_with (go_at_call 39; (with_reducible refine (rpower_to cp 16 1024 _ _ (by decide) (by decide) (by decide) A3.out).mono ?_); rintro e w' ⟨rfl, rfl⟩)
    exact bodyPost_ret (v := .tuple #[(parsed k e ka ea cp).val, .int .i64 (perr k e ka ea cp)]) (by rw [hpd.out, hpe.out]; simp [results, Try.results12, go_sem, LV.val, LV.zero]) rfl ⟨rfl, by repeat (first | exact Below.refl _ _ | refine below_drewN ?_ _ | refine Below.drew ?_ | refine Below.setCell ?_ (by simp) _ | refine Below.alloc ?_ (by simp) _)⟩
  · have hpe : Hid (perr k e ka ea cp = 0) := by unfold Hid perr; rw [if_neg c1, if_neg c2, if_neg c3, if_neg (by simp [c4])]
    have hpd : Hid (parsed k e ka ea cp = lay k e ka ea cp) := by unfold Hid parsed; rw [hpe.out, if_pos rfl]
    have A3 := Lib.hid c4
    have u1 := up_bound k ea (by omega) hea.out
    have u2 := up_bound (up k ea + e) 8 (by omega) (by omega)
    have d5 : ea ≤ 8 := by have := hea.out; omega
    clear c1 c2 c3 c4
    go_enter Try.func12, Try.ntmps12
    go_wp2_with fail
    go_quiet ((go_at_call 38; first | with_reducible exact fits_q1 k ka _ _ (by omega) (by omega) _ A1.out | with_reducible exact fits_q2 k ka _ _ _ (by omega) (by omega) _ A1.out | with_reducible exact fits_q1 e ea _ _ (by omega) (by omega) _ A2.out | with_reducible exact fits_q2 e ea _ _ _ (by omega) (by omega) _ A2.out))
    go_wp2_with fail
    go_quiet ((go_at_call 38; first | with_reducible exact fits_q1 k ka _ _ (by omega) (by omega) _ A1.out | with_reducible exact fits_q2 k ka _ _ _ (by omega) (by omega) _ A1.out | with_reducible exact fits_q1 e ea _ _ (by omega) (by omega) _ A2.out | with_reducible exact fits_q2 e ea _ _ _ (by omega) (by omega) _ A2.out))
    go_wp2_with (go_at_call 39; (with_reducible refine (rpower_to cp 16 1024 _ _ (by decide) (by decide) (by decide) A3.out).mono ?_); rintro e w' ⟨rfl, rfl⟩)
    go_region
    go_wp2_with (go_at_call 40; (first | with_reducible refine (raised_any k ea _ (by omega) (by omega) hea.out).mono ?_ | with_reducible refine (raised_any (up k ea + e) 8 _ (by omega) (by omega) (by omega)).mono ?_); rintro e w' ⟨rfl, rfl⟩)
    obtain ⟨sl, hsl⟩ : ∃ x, Hid (x = up (up k ea + e) 8 + 8) := ⟨_, rfl⟩
    have s1 : 0 ≤ sl := by have := hsl.out; omega
    have s2 : sl ≤ 278 := by have := hsl.out; omega
    rw [← hsl.out]
    go_loopw [8] (fun i wr => ∃ j m : Nat, j ≤ 8 ∧ i = .int .i64 j ∧ wr = ((w.alloc (.cells #[.int .i64 0, .int .i64 0, .int .i64 0, .int .i64 0, .int .i64 0, .int .i64 0, .int .i64 0, .int .i64 0, .int .i64 0] 24)).alloc (.cells #[.int .i64 k, .int .i64 e, .int .i64 ka, .int .i64 ea, .int .i64 cp, .int .i64 (up k ea), .int .i64 (up (up k ea + e) 8), .int .i64 sl, .int .i64 (8 + j * sl)] 24)).drewN m) (fun i _ => (8 - intOf i).toNat)
    case atStart => exact ⟨0, _, by omega, rfl, by simp; rfl⟩
    case round =>
      obtain ⟨j, m, hj, rfl, rfl⟩ := hrel
      by_cases hlt : j < 8
      · have m0 : 0 ≤ (j : Int) * sl := Int.mul_nonneg (by omega) s1
        have m1 : (j : Int) * sl ≤ 1946 := by
          have : (j : Int) * sl ≤ 7 * sl := Int.mul_le_mul_of_nonneg_right (by omega) s1
          omega
        obtain ⟨x, hx⟩ : ∃ x, Hid (x = (j : Int) * sl) := ⟨_, rfl⟩
        rw [← hx.out] at m0 m1
        rw [← hx.out]
        have hy : Hid (8 + x + sl = 8 + ((j + 1 : Nat) : Int) * sl) := by
          unfold Hid; rw [hx.out]; rw [Int.natCast_add, Int.add_mul]; simp; omega
        go_wp2_with fail
        go_roundw
        case rel => exact ⟨j + 1, m, by omega, by go_num, by rw [← hy.out]⟩
        case measure => simp [intOf]; omega
      · have hje : j = 8 := by omega
        subst hje
        go_wp2_with fail
        exact bodyPost_ret (v := .tuple #[(parsed k e ka ea cp).val, .int .i64 (perr k e ka ea cp)]) (by rw [hpd.out, hpe.out, hsl.out]; simp [results, Try.results12, go_sem, LV.val, lay]) rfl ⟨rfl, by repeat (first | exact Below.refl _ _ | refine below_drewN ?_ _ | refine Below.drew ?_ | refine Below.setCell ?_ (by simp) _ | refine Below.alloc ?_ (by simp) _)⟩
end Go.Proofs.Ytlfppmdehkhjiaa
