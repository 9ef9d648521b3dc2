/- What is proved here: the contracts of package layout. -/
import Derived.Test.YtlfppmdehkhjiaaLPlain
import Derived.Test.YtlfppmdehkhjiaaKit
import Derived.BigRegion
namespace Go.Proofs.Ytlfppmdehkhjiaa
set_option linter.unusedVariables false
set_option linter.unusedSimpArgs false
open Go.RowKit Pl
theorem power_any (n lo hi : Int) (w : World) (h1 : 1 ≤ lo) (h2 : hi ≤ 65536) : Calls Try.prog 42 #[.int .i64 n, .int .i64 lo, .int .i64 hi] w fun e w' => e = .returned (.bool (pwF n lo hi)) ∧ w = w' := by
  by_cases a : lo ≤ n
  · by_cases b : n ≤ hi
    · have he := power_eq n (by omega) (by omega)
      have hr : Hid (pwF n lo hi = isP n) := by unfold Hid pwF; simp [a, b]
      go_enter Try.func42, Try.ntmps42
      go_wp2_with fail
      go_ret
      exact ⟨ret_bool hr.out.symm, rfl⟩
    · have hr : Hid (pwF n lo hi = false) := by unfold Hid pwF; simp [b]
      go_enter Try.func42, Try.ntmps42
      go_wp2_with fail
      go_ret
      exact ⟨ret_bool hr.out.symm, rfl⟩
  · have hr : Hid (pwF n lo hi = false) := by unfold Hid pwF; simp [a]
    go_enter Try.func42, Try.ntmps42
    go_wp2_with fail
    go_ret
    exact ⟨ret_bool hr.out.symm, rfl⟩
theorem power_to (n lo hi : Int) (b : Bool) (w : World) (h1 : 1 ≤ lo) (h2 : hi ≤ 65536) (hb : pwF n lo hi = b) : Calls Try.prog 42 #[.int .i64 n, .int .i64 lo, .int .i64 hi] w fun e w' => e = .returned (.bool b) ∧ w = w' := by
  subst hb; exact power_any n lo hi w h1 h2
theorem aligned_any (x a : Int) (w : World) : Calls Try.prog 41 #[.int .i64 x, .int .i64 a] w fun e w' => e = .returned (.bool (alF x a)) ∧ w = w' := by
  cases hp : pwF a 1 8
  · have hr : Hid (alF x a = false) := by unfold Hid alF; simp [hp]
    have Hp := Lib.hid hp
    clear hp
    go_enter Try.func41, Try.ntmps41
    go_wp2_with (go_at_call 42; refine (power_to a 1 8 _ _ (by decide) (by decide) Hp.out).mono ?_; rintro e w' ⟨rfl, rfl⟩)
    go_ret
    exact ⟨ret_bool hr.out.symm, rfl⟩
  · have hr : Hid (alF x a = (Int.tmod x a == 0)) := by unfold Hid alF; simp [hp]
    have Hp := Lib.hid hp
    have ha := pw18 hp
    clear hp
    rcases ha with rfl | rfl | rfl | rfl
    all_goals
      go_enter Try.func41, Try.ntmps41
      go_wp2_with (go_at_call 42; refine (power_to _ 1 8 _ _ (by decide) (by decide) Hp.out).mono ?_; rintro e w' ⟨rfl, rfl⟩)
      go_ret
      exact ⟨ret_bool (by first | exact hr.out.symm | (have := hr.out; rw [this]; simp)), rfl⟩
theorem aligned_to (x a : Int) (b : Bool) (w : World) (hb : alF x a = b) : Calls Try.prog 41 #[.int .i64 x, .int .i64 a] w fun e w' => e = .returned (.bool b) ∧ w = w' := by
  subst hb; exact aligned_any x a w
theorem raise_any (n a : Int) (w : World) (h1 : 0 ≤ n) (h2 : n ≤ 1000000) (ha : a = 1 ∨ a = 2 ∨ a = 4 ∨ a = 8) : Calls Try.prog 43 #[.int .i64 n, .int .i64 a] w fun e w' => e = .returned (.int .i64 (up n a)) ∧ w = w' := by
  have hr : Hid (up n a = (n + a - 1) / a * a) := rfl
  rcases ha with rfl | rfl | rfl | rfl
  all_goals
    go_enter Try.func43, Try.ntmps43
    go_wp2_with fail
    go_ret
    exact ⟨ret_int (by have := hr.out; omega), rfl⟩
theorem parse_short (a : Option Addr) (n c : Nat) (w : World) (hn : n ≠ 5) : Calls Try.prog 14 #[.slice a n c] w fun e w' => e = .returned (.tuple #[LV.zero.val, .int .i64 30]) ∧ Below w.heap.size w w' := by
  have h5 : ((n : Int) != 5) = true := by simp; omega
  have h6 : ((n : Int) == 5) = false := by simp; omega
  go_enter Try.func14, Try.ntmps14
  go_wp2_with fail
  exact bodyPost_ret (v := .tuple #[LV.zero.val, .int .i64 30]) (by simp [results, Try.results14, go_sem, LV.val, LV.zero]) rfl ⟨rfl, (Below.refl _ _).alloc (Nat.le_refl _) _⟩
set_option maxHeartbeats 1000000 in
theorem parse_five (b o c : Nat) (k e ka ea cp : Int) (w : World) (hb : b < w.heap.size) (h0 : w.cell? ⟨b, o, none⟩ = some (.int .i64 k)) (h1 : w.cell? ⟨b, o + 1, none⟩ = some (.int .i64 e)) (h2 : w.cell? ⟨b, o + 2, none⟩ = some (.int .i64 ka)) (h3 : w.cell? ⟨b, o + 3, none⟩ = some (.int .i64 ea)) (h4 : w.cell? ⟨b, o + 4, none⟩ = some (.int .i64 cp)) :
    Calls Try.prog 14 #[.slice (some ⟨b, o, none⟩) 5 c] w fun e' w' => e' = .returned (.tuple #[(parsed k e ka ea cp).val, .int .i64 (perr k e ka ea cp)]) ∧ Below w.heap.size w w' := by
  go_enter Try.func14, Try.ntmps14
  go_wp2_with fail
  go_region
  by_cases c1 : k < 1 ∨ 128 < k
  · have hpe : Hid (perr k e ka ea cp = 31) := by unfold Hid perr; rw [if_pos c1]
    have hpd : Hid (parsed k e ka ea cp = LV.zero) := by unfold Hid parsed; rw [hpe.out, if_neg (by decide)]
    rcases c1 with c1 | c1
    · go_wp2_with fail
      exact bodyPost_ret (v := .tuple #[(parsed k e ka ea cp).val, .int .i64 (perr k e ka ea cp)]) (by rw [hpd.out, hpe.out]; simp [results, Try.results14, go_sem, LV.val, LV.zero]) rfl ⟨rfl, by repeat (first | exact Below.refl _ _ | refine below_drewN ?_ _ | refine Below.drew ?_ | refine Below.setCell ?_ (by simp) _ | refine Below.alloc ?_ (by simp) _)⟩
    · have c0 : ¬ k < 1 := by omega
      go_wp2_with fail
      exact bodyPost_ret (v := .tuple #[(parsed k e ka ea cp).val, .int .i64 (perr k e ka ea cp)]) (by rw [hpd.out, hpe.out]; simp [results, Try.results14, go_sem, LV.val, LV.zero]) rfl ⟨rfl, by repeat (first | exact Below.refl _ _ | refine below_drewN ?_ _ | refine Below.drew ?_ | refine Below.setCell ?_ (by simp) _ | refine Below.alloc ?_ (by simp) _)⟩
  have d1 : 1 ≤ k := by omega
  have d2 : k ≤ 128 := by omega
  by_cases c2 : e < 0 ∨ 128 < e
  · have hpe : Hid (perr k e ka ea cp = 32) := by unfold Hid perr; rw [if_neg c1, if_pos c2]
    have hpd : Hid (parsed k e ka ea cp = LV.zero) := by unfold Hid parsed; rw [hpe.out, if_neg (by decide)]
    clear c1
    rcases c2 with c2 | c2
    · go_wp2_with fail
      exact bodyPost_ret (v := .tuple #[(parsed k e ka ea cp).val, .int .i64 (perr k e ka ea cp)]) (by rw [hpd.out, hpe.out]; simp [results, Try.results14, go_sem, LV.val, LV.zero]) rfl ⟨rfl, by repeat (first | exact Below.refl _ _ | refine below_drewN ?_ _ | refine Below.drew ?_ | refine Below.setCell ?_ (by simp) _ | refine Below.alloc ?_ (by simp) _)⟩
    · have c0 : ¬ e < 0 := by omega
      go_wp2_with fail
      exact bodyPost_ret (v := .tuple #[(parsed k e ka ea cp).val, .int .i64 (perr k e ka ea cp)]) (by rw [hpd.out, hpe.out]; simp [results, Try.results14, go_sem, LV.val, LV.zero]) rfl ⟨rfl, by repeat (first | exact Below.refl _ _ | refine below_drewN ?_ _ | refine Below.drew ?_ | refine Below.setCell ?_ (by simp) _ | refine Below.alloc ?_ (by simp) _)⟩
  have d3 : 0 ≤ e := by omega
  have d4 : e ≤ 128 := by omega
  by_cases c3 : alF k ka = false ∨ alF e ea = false
  · have hpe : Hid (perr k e ka ea cp = 33) := by unfold Hid perr; rw [if_neg c1, if_neg c2, if_pos c3]
    have hpd : Hid (parsed k e ka ea cp = LV.zero) := by unfold Hid parsed; rw [hpe.out, if_neg (by decide)]
    clear c1 c2
    cases a1 : alF k ka
    · have A1 := Lib.hid a1
      clear a1 c3
      go_wp2_with (go_at_call 41; refine (aligned_to k ka _ _ A1.out).mono ?_; rintro e w' ⟨rfl, rfl⟩)
      exact bodyPost_ret (v := .tuple #[(parsed k e ka ea cp).val, .int .i64 (perr k e ka ea cp)]) (by rw [hpd.out, hpe.out]; simp [results, Try.results14, go_sem, LV.val, LV.zero]) rfl ⟨rfl, by repeat (first | exact Below.refl _ _ | refine below_drewN ?_ _ | refine Below.drew ?_ | refine Below.setCell ?_ (by simp) _ | refine Below.alloc ?_ (by simp) _)⟩
    · have a2 : alF e ea = false := by simpa [a1] using c3
      have A1 := Lib.hid a1
      have A2 := Lib.hid a2
      clear a1 a2 c3
      go_wp2_with (go_at_call 41; (first | with_reducible refine (aligned_to k ka _ _ A1.out).mono ?_ | with_reducible refine (aligned_to e ea _ _ A2.out).mono ?_); rintro e w' ⟨rfl, rfl⟩)
      exact bodyPost_ret (v := .tuple #[(parsed k e ka ea cp).val, .int .i64 (perr k e ka ea cp)]) (by rw [hpd.out, hpe.out]; simp [results, Try.results14, go_sem, LV.val, LV.zero]) rfl ⟨rfl, by repeat (first | exact Below.refl _ _ | refine below_drewN ?_ _ | refine Below.drew ?_ | refine Below.setCell ?_ (by simp) _ | refine Below.alloc ?_ (by simp) _)⟩
  have a1 : alF k ka = true := by cases h : alF k ka <;> simp [h] at c3 ⊢
  have a2 : alF e ea = true := by cases h : alF e ea <;> simp [h] at c3 ⊢
  have A1 := Lib.hid a1
  have A2 := Lib.hid a2
  have hea : Hid (ea = 1 ∨ ea = 2 ∨ ea = 4 ∨ ea = 8) := pw18 (by unfold alF at a2; simp only [Bool.and_eq_true] at a2; exact a2.1)
  clear a1 a2
  cases c4 : pwF cp 16 1024
  · have hpe : Hid (perr k e ka ea cp = 34) := by unfold Hid perr; rw [if_neg c1, if_neg c2, if_neg c3, if_pos c4]
    have hpd : Hid (parsed k e ka ea cp = LV.zero) := by unfold Hid parsed; rw [hpe.out, if_neg (by decide)]
    have A3 := Lib.hid c4
    clear c1 c2 c3 c4
    go_wp2_with (first | (go_at_call 41; (first | with_reducible refine (aligned_to k ka _ _ A1.out).mono ?_ | with_reducible refine (aligned_to e ea _ _ A2.out).mono ?_); rintro e w' ⟨rfl, rfl⟩) | (go_at_call 42; refine (power_to cp 16 1024 _ _ (by decide) (by decide) A3.out).mono ?_; rintro e w' ⟨rfl, rfl⟩))
    exact bodyPost_ret (v := .tuple #[(parsed k e ka ea cp).val, .int .i64 (perr k e ka ea cp)]) (by rw [hpd.out, hpe.out]; simp [results, Try.results14, go_sem, LV.val, LV.zero]) rfl ⟨rfl, by repeat (first | exact Below.refl _ _ | refine below_drewN ?_ _ | refine Below.drew ?_ | refine Below.setCell ?_ (by simp) _ | refine Below.alloc ?_ (by simp) _)⟩
  · have hpe : Hid (perr k e ka ea cp = 0) := by unfold Hid perr; rw [if_neg c1, if_neg c2, if_neg c3, if_neg (by simp [c4])]
    have hpd : Hid (parsed k e ka ea cp = lay k e ka ea cp) := by unfold Hid parsed; rw [hpe.out, if_pos rfl]
    have A3 := Lib.hid c4
    have u1 := up_bound k ea (by omega) hea.out
    have u2 := up_bound (up k ea + e) 8 (by omega) (by omega)
    have d5 : ea ≤ 8 := by have := hea.out; omega
    clear c1 c2 c3 c4
    go_wp2_with (first | (go_at_call 41; (first | with_reducible refine (aligned_to k ka _ _ A1.out).mono ?_ | with_reducible refine (aligned_to e ea _ _ A2.out).mono ?_); rintro e w' ⟨rfl, rfl⟩) | (go_at_call 42; refine (power_to cp 16 1024 _ _ (by decide) (by decide) A3.out).mono ?_; rintro e w' ⟨rfl, rfl⟩) | (go_at_call 43; (first | with_reducible refine (raise_any k ea _ (by omega) (by omega) hea.out).mono ?_ | with_reducible refine (raise_any (up k ea + e) 8 _ (by omega) (by omega) (by omega)).mono ?_); rintro e w' ⟨rfl, rfl⟩))
    exact bodyPost_ret (v := .tuple #[(parsed k e ka ea cp).val, .int .i64 (perr k e ka ea cp)]) (by rw [hpd.out, hpe.out]; simp [results, Try.results14, go_sem, LV.val, lay]) rfl ⟨rfl, by repeat (first | exact Below.refl _ _ | refine below_drewN ?_ _ | refine Below.drew ?_ | refine Below.setCell ?_ (by simp) _ | refine Below.alloc ?_ (by simp) _)⟩
end Go.Proofs.Ytlfppmdehkhjiaa
