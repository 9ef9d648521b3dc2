/- What is proved here: the contracts of the reference's power, raised, fits. Conditions: small numbers. -/
import Derived.Test.YtlfppmdehkhjiaaLPlain2
import Derived.Test.YtlfppmdehkhjiaaKit
namespace Go.Proofs.Ytlfppmdehkhjiaa
set_option linter.unusedVariables false
set_option linter.unusedSimpArgs false
open Go.RowKit Pl
theorem setCell_drewN (w : World) (n : Nat) (a : Addr) (v : Value) : (w.drewN n).setCell a v = (w.setCell a v).drewN n := rfl
theorem alloc_drewN (w : World) (n : Nat) (o : Obj) : (w.drewN n).alloc o = (w.alloc o).drewN n := rfl
namespace Pl
theorem isP_nat {q : Int} (h : isP q = true) : ∃ j : Nat, q = 2 ^ j := by
  have hb : 1 ≤ q ∧ q ≤ 65536 := by
    simp only [isP, Bool.or_eq_true, beq_iff_eq] at h; omega
  obtain ⟨n, rfl⟩ := Int.eq_ofNat_of_zero_le (by omega : 0 ≤ q)
  obtain ⟨j, rfl⟩ := (isP_pow (by omega)).1 h
  exact ⟨j, by simp⟩
theorem isP_gap {p q : Int} (hp : isP p = true) (hq : isP q = true) (h : q < 2 * p) : q ≤ p := by
  obtain ⟨i, rfl⟩ := isP_nat hp
  obtain ⟨j, rfl⟩ := isP_nat hq
  have e : (2 : Int) * 2 ^ i = 2 ^ (i + 1) := by rw [Int.pow_succ]; omega
  rw [e] at h
  have h2 : (2 : Nat) ^ j < 2 ^ (i + 1) := by exact_mod_cast h
  have h3 : j < i + 1 := (Nat.pow_lt_pow_iff_right (by decide)).1 h2
  have h4 : (2 : Nat) ^ j ≤ 2 ^ i := Nat.pow_le_pow_right (by decide) (by omega)
  exact_mod_cast h4
theorem isP_dbl {p : Int} (hp : isP p = true) (h : p ≤ 32768) : isP (2 * p) = true := by
  simp only [isP, Bool.or_eq_true, beq_iff_eq] at hp ⊢; omega
end Pl
set_option maxHeartbeats 400000 in
theorem rpower_any (n lo hi : Int) (w : World) (hlo : isP lo = true) (h2 : hi ≤ 32768) (h3 : lo ≤ 32768) : Calls Try.prog 39 #[.int .i64 n, .int .i64 lo, .int .i64 hi] w fun e w' => e = .returned (.bool (pwF n lo hi)) ∧ w = w' := by
  have hlo1 : 1 ≤ lo := by simp only [isP, Bool.or_eq_true, beq_iff_eq] at hlo; omega
  have HL := Lib.hid hlo
  clear hlo
  go_enter Try.func39, Try.ntmps39
  go_wp2_with fail
  go_loop [7] (fun i => ∃ p : Int, Hid (isP p = true) ∧ lo ≤ p ∧ p ≤ 65536 ∧ Hid (∀ q, isP q = true → lo ≤ q → q < p → q ≠ n) ∧ i = .int .i64 p) (fun i => (65537 - intOf i).toNat)
  case atStart => exact ⟨lo, HL.out, by omega, by omega, (fun q _ h1 h2 => by omega), rfl⟩
  case round =>
    obtain ⟨p, hp, hp1, hp2, hq, rfl⟩ := hrel
    by_cases hlt : p ≤ hi
    · by_cases he : p = n
      · subst he
        have hr : Hid (pwF p lo hi = true) := by unfold Hid pwF; rw [hp.out]; simp; exact ⟨hp1, hlt⟩
        go_wp2_with fail
        go_ret
        exact ⟨ret_bool hr.out.symm, rfl⟩
      · have he2 : (p == n) = false := by simp; exact he
        have hn : Hid (∀ q, isP q = true → lo ≤ q → q < 2 * p → q ≠ n) := by
          intro q h1 h2 h3 h4
          have := isP_gap hp.out h1 h3
          by_cases h5 : q = p
          · subst h5; exact he h4
          · exact hq.out q h1 h2 (by omega) h4
        have hd : Hid (isP (2 * p) = true) := isP_dbl hp.out (by omega)
        clear he
        go_wp2_with fail
        go_round
        case rel => exact ⟨2 * p, hd, by omega, by omega, hn, rfl⟩
        case measure => simp [intOf]; omega
    · have hr : Hid (pwF n lo hi = false) := by
        unfold Hid
        cases e : pwF n lo hi with
        | false => rfl
        | true =>
          unfold pwF at e
          simp only [Bool.and_eq_true, decide_eq_true_eq] at e
          exact absurd rfl (hq.out n e.2 e.1.1 (by omega))
      go_wp2_with fail
      go_ret
      exact ⟨ret_bool hr.out.symm, rfl⟩
theorem rpower_to (n lo hi : Int) (b : Bool) (w : World) (hlo : isP lo = true) (h2 : hi ≤ 32768) (h3 : lo ≤ 32768) (hb : pwF n lo hi = b) : Calls Try.prog 39 #[.int .i64 n, .int .i64 lo, .int .i64 hi] w fun e w' => e = .returned (.bool b) ∧ w = w' := by
  subst hb; exact rpower_any n lo hi w hlo h2 h3
theorem raised_any (x a : Int) (w : World) (h1 : 0 ≤ x) (h2 : x ≤ 1000000) (ha : a = 1 ∨ a = 2 ∨ a = 4 ∨ a = 8) : Calls Try.prog 40 #[.int .i64 x, .int .i64 a] w fun e w' => e = .returned (.int .i64 (up x a)) ∧ w = w' := by
  have a1 : 1 ≤ a := by omega
  have a8 : a ≤ 8 := by omega
  have hs : Hid (∀ m : Int, 0 ≤ m → m % a = 0 → (m + a) % a = 0) := fun m _ h => by rw [Int.add_emod_right]; exact h
  have hu : Hid (∀ m : Int, 0 ≤ m → m % a = 0 → x ≤ m → (m = 0 ∨ m < x + a) → m = up x a) := by
    intro m h0 h3 h4 h5
    unfold up
    rcases ha with rfl | rfl | rfl | rfl <;> omega
  clear ha
  go_enter Try.func40, Try.ntmps40
  go_wp2_with fail
  go_loop [5] (fun i => ∃ m : Int, 0 ≤ m ∧ Hid (m % a = 0) ∧ (m = 0 ∨ m < x + a) ∧ i = .int .i64 m) (fun i => (x - intOf i).toNat)
  case atStart => exact ⟨0, by omega, by unfold Hid; simp, Or.inl rfl, rfl⟩
  case round =>
    obtain ⟨m, hm, hm2, hm3, rfl⟩ := hrel
    have hm4 : m ≤ 1000008 := by omega
    replace hm3 := Lib.hid hm3
    by_cases hlt : m < x
    · go_wp2_with fail
      go_round
      case rel => exact ⟨m + a, by omega, hs.out m hm hm2.out, by omega, rfl⟩
      case measure => simp [intOf]; omega
    · have he := Lib.hid (hu.out m hm hm2.out (by omega) hm3.out)
      go_wp2_with fail
      go_ret
      exact ⟨ret_int he.out, rfl⟩
theorem fits_any (x a : Int) (w : World) (h1 : 0 ≤ x) (h2 : x ≤ 1000000) (b : Bool) (hb : alF x a = b) : Calls Try.prog 38 #[.int .i64 x, .int .i64 a] w fun e w' => e = .returned (.bool b) ∧ w = w' := by
  cases hp : pwF a 1 8
  · have hr : Hid (b = false) := by unfold Hid; rw [← hb]; unfold alF; simp [hp]
    have Hp := Lib.hid hp
    clear hp hb
    go_enter Try.func38, Try.ntmps38
    go_wp2_with (go_at_call 39; (with_reducible refine (rpower_to a 1 8 _ _ (by decide) (by decide) (by decide) Hp.out).mono ?_); rintro e w' ⟨rfl, rfl⟩)
    go_ret
    exact ⟨ret_bool hr.out.symm, rfl⟩
  · have ha := pw18 hp
    have hr : Hid (b = (up x a == x)) := by
      unfold Hid
      rw [← hb]; unfold alF; rw [hp, Bool.true_and, Bool.eq_iff_iff, beq_iff_eq, beq_iff_eq, Int.tmod_eq_emod_of_nonneg h1]
      unfold up
      rcases ha with rfl | rfl | rfl | rfl <;> (constructor <;> intro h <;> omega)
    have Hp := Lib.hid hp
    clear hp hb
    replace ha := Lib.hid ha
    go_enter Try.func38, Try.ntmps38
    go_wp2_with (first | (go_at_call 39; (with_reducible refine (rpower_to a 1 8 _ _ (by decide) (by decide) (by decide) Hp.out).mono ?_); rintro e w' ⟨rfl, rfl⟩) | (go_at_call 40; (with_reducible refine (raised_any x a _ h1 h2 ha.out).mono ?_); rintro e w' ⟨rfl, rfl⟩))
    go_ret
    exact ⟨ret_bool hr.out.symm, rfl⟩
theorem fits_q1 (x a : Int) (w : World) (n : Nat) (h1 : 0 ≤ x) (h2 : x ≤ 1000000) (b : Bool) (hb : alF x a = b) : Calls Try.prog 38 #[.int .i64 x, .int .i64 a] (w.drewN n) fun e w'' => e = .returned (.bool b) ∧ ∃ m, w'' = w.drewN m :=
  (fits_any x a _ h1 h2 b hb).mono (fun _ _ h => ⟨h.1, n, h.2.symm⟩)
theorem fits_q2 (x a : Int) (w : World) (c n : Nat) (h1 : 0 ≤ x) (h2 : x ≤ 1000000) (b : Bool) (hb : alF x a = b) : Calls Try.prog 38 #[.int .i64 x, .int .i64 a] (w.drewN (c + n)) fun e w'' => e = .returned (.bool b) ∧ ∃ m, w'' = w.drewN (c + m) :=
  (fits_any x a _ h1 h2 b hb).mono (fun _ _ h => ⟨h.1, n, h.2.symm⟩)
end Go.Proofs.Ytlfppmdehkhjiaa
