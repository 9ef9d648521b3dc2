/- What is proved here: Run and Place of a directory. Conditions: the directory is there. -/
import Derived.Test.YtpbalilnemjeeaaDMade
namespace Go.Proofs.Ytpbalilnemjeeaa
set_option linter.unusedVariables false
set_option linter.unusedSimpArgs false
open Go.RowKit Pm Pa Pl Pd
theorem and_not : ∀ i s : Nat, i < 64 → s ≤ 6 → bits .andNot .i64 (i : Int) (((2 ^ s : Nat) : Int) - 1) = ((i / 2 ^ s * 2 ^ s : Nat) : Int) := by
  have key : ∀ i : Fin 64, ∀ s : Fin 7, bits .andNot .i64 (i.val : Int) (((2 ^ s.val : Nat) : Int) - 1) = ((i.val / 2 ^ s.val * 2 ^ s.val : Nat) : Int) := by decide +kernel
  intro i s hi hs
  exact key ⟨i, hi⟩ ⟨s, by omega⟩
set_option maxHeartbeats 4000000 in
theorem dir_run (w : World) (p off d : Nat) (hdl : d ≤ 6) (I D : Int) (i s : Nat) (hi : i < 2 ^ d) (hI : I = i) (hs : (d : Int) = D + s) (hD : 0 ≤ D) : Calls Try.prog 56 #[dirV p off d, .int .i64 I, .int .i64 D] w fun r w' => r = .returned (.tuple #[.int .i64 ((i / 2 ^ s * 2 ^ s : Nat) : Int), .int .i64 ((2 ^ s : Nat) : Int), .int .i64 0]) ∧ Below w.heap.size w w' := by
  have hB := (Below.refl w.heap.size w).alloc (Nat.le_refl _) (.cells #[.pointer (some ⟨p, 0, none⟩), .int .i64 (off : Int), .int .i64 (d : Int)] 92)
  have hK := Blk.new w #[.pointer (some ⟨p, 0, none⟩), .int .i64 (off : Int), .int .i64 (d : Int)] 92
  unfold dirV
  have hd7 : d = 0 ∨ d = 1 ∨ d = 2 ∨ d = 3 ∨ d = 4 ∨ d = 5 ∨ d = 6 := by omega
  subst hI
  rcases hd7 with rfl | rfl | rfl | rfl | rfl | rfl | rfl
  · rw [show (((0 : Nat) : Int)) = 0 from rfl] at hB hK ⊢
    have i0 : ¬ (i : Int) < 0 := by omega
    have h64 : i < 64 := Nat.lt_of_lt_of_le hi (by decide)
    have hi2 : i < 1 := hi
    have i1 : ¬ (1 : Int) ≤ (i : Int) := by omega
    have e0 : ¬ D < 0 := by omega
    have e1 : ¬ (0 : Int) < D := by omega
    have hs7 : s = 0 := by omega
    rcases hs7 with rfl
    · obtain rfl : D = 0 := by omega
      clear hs hD hi hi2
      obtain ⟨F, hF⟩ : ∃ F : Int, Hid (F = ((i / 2 ^ 0 * 2 ^ 0 : Nat) : Int)) := ⟨_, Lib.hid rfl⟩
      have hbn : bits .andNot .i64 (i : Int) 0 = F := by rw [hF.out]; exact and_not i 0 h64 (by omega)
      rw [← hF.out]
      go_enter Try.func56, Try.ntmps56
      go_wp2_with (first
        | (go_at_call 87; refine (dir_deep off 0 hdl _ _ rfl _ _ ⟨_, rfl⟩ ⟨_, rfl⟩).mono ?_; rintro r w1 ⟨rfl, hb⟩; have hB1 := Below.then hB hb; have hK1 := hK.keep hb; have c0 := hK1.cell 0; have c1 := hK1.cell 1; have c2 := hK1.cell 2)
        | fail)
      go_ret3
      exact ⟨rfl, hB1⟩
  · rw [show (((1 : Nat) : Int)) = 1 from rfl] at hB hK ⊢
    have i0 : ¬ (i : Int) < 0 := by omega
    have h64 : i < 64 := Nat.lt_of_lt_of_le hi (by decide)
    have hi2 : i < 2 := hi
    have i1 : ¬ (2 : Int) ≤ (i : Int) := by omega
    have e0 : ¬ D < 0 := by omega
    have e1 : ¬ (1 : Int) < D := by omega
    have hs7 : s = 0 ∨ s = 1 := by omega
    rcases hs7 with rfl | rfl
    · obtain rfl : D = 1 := by omega
      clear hs hD hi hi2
      obtain ⟨F, hF⟩ : ∃ F : Int, Hid (F = ((i / 2 ^ 0 * 2 ^ 0 : Nat) : Int)) := ⟨_, Lib.hid rfl⟩
      have hbn : bits .andNot .i64 (i : Int) 0 = F := by rw [hF.out]; exact and_not i 0 h64 (by omega)
      rw [← hF.out]
      go_enter Try.func56, Try.ntmps56
      go_wp2_with (first
        | (go_at_call 87; refine (dir_deep off 1 hdl _ _ rfl _ _ ⟨_, rfl⟩ ⟨_, rfl⟩).mono ?_; rintro r w1 ⟨rfl, hb⟩; have hB1 := Below.then hB hb; have hK1 := hK.keep hb; have c0 := hK1.cell 0; have c1 := hK1.cell 1; have c2 := hK1.cell 2)
        | fail)
      go_ret3
      exact ⟨rfl, hB1⟩
    · obtain rfl : D = 0 := by omega
      clear hs hD hi hi2
      obtain ⟨F, hF⟩ : ∃ F : Int, Hid (F = ((i / 2 ^ 1 * 2 ^ 1 : Nat) : Int)) := ⟨_, Lib.hid rfl⟩
      have hbn : bits .andNot .i64 (i : Int) 1 = F := by rw [hF.out]; exact and_not i 1 h64 (by omega)
      rw [← hF.out]
      go_enter Try.func56, Try.ntmps56
      go_wp2_with (first
        | (go_at_call 87; refine (dir_deep off 1 hdl _ _ rfl _ _ ⟨_, rfl⟩ ⟨_, rfl⟩).mono ?_; rintro r w1 ⟨rfl, hb⟩; have hB1 := Below.then hB hb; have hK1 := hK.keep hb; have c0 := hK1.cell 0; have c1 := hK1.cell 1; have c2 := hK1.cell 2)
        | fail)
      go_ret3
      exact ⟨rfl, hB1⟩
  · rw [show (((2 : Nat) : Int)) = 2 from rfl] at hB hK ⊢
    have i0 : ¬ (i : Int) < 0 := by omega
    have h64 : i < 64 := Nat.lt_of_lt_of_le hi (by decide)
    have hi2 : i < 4 := hi
    have i1 : ¬ (4 : Int) ≤ (i : Int) := by omega
    have e0 : ¬ D < 0 := by omega
    have e1 : ¬ (2 : Int) < D := by omega
    have hs7 : s = 0 ∨ s = 1 ∨ s = 2 := by omega
    rcases hs7 with rfl | rfl | rfl
    · obtain rfl : D = 2 := by omega
      clear hs hD hi hi2
      obtain ⟨F, hF⟩ : ∃ F : Int, Hid (F = ((i / 2 ^ 0 * 2 ^ 0 : Nat) : Int)) := ⟨_, Lib.hid rfl⟩
      have hbn : bits .andNot .i64 (i : Int) 0 = F := by rw [hF.out]; exact and_not i 0 h64 (by omega)
      rw [← hF.out]
      go_enter Try.func56, Try.ntmps56
      go_wp2_with (first
        | (go_at_call 87; refine (dir_deep off 2 hdl _ _ rfl _ _ ⟨_, rfl⟩ ⟨_, rfl⟩).mono ?_; rintro r w1 ⟨rfl, hb⟩; have hB1 := Below.then hB hb; have hK1 := hK.keep hb; have c0 := hK1.cell 0; have c1 := hK1.cell 1; have c2 := hK1.cell 2)
        | fail)
      go_ret3
      exact ⟨rfl, hB1⟩
    · obtain rfl : D = 1 := by omega
      clear hs hD hi hi2
      obtain ⟨F, hF⟩ : ∃ F : Int, Hid (F = ((i / 2 ^ 1 * 2 ^ 1 : Nat) : Int)) := ⟨_, Lib.hid rfl⟩
      have hbn : bits .andNot .i64 (i : Int) 1 = F := by rw [hF.out]; exact and_not i 1 h64 (by omega)
      rw [← hF.out]
      go_enter Try.func56, Try.ntmps56
      go_wp2_with (first
        | (go_at_call 87; refine (dir_deep off 2 hdl _ _ rfl _ _ ⟨_, rfl⟩ ⟨_, rfl⟩).mono ?_; rintro r w1 ⟨rfl, hb⟩; have hB1 := Below.then hB hb; have hK1 := hK.keep hb; have c0 := hK1.cell 0; have c1 := hK1.cell 1; have c2 := hK1.cell 2)
        | fail)
      go_ret3
      exact ⟨rfl, hB1⟩
    · obtain rfl : D = 0 := by omega
      clear hs hD hi hi2
      obtain ⟨F, hF⟩ : ∃ F : Int, Hid (F = ((i / 2 ^ 2 * 2 ^ 2 : Nat) : Int)) := ⟨_, Lib.hid rfl⟩
      have hbn : bits .andNot .i64 (i : Int) 3 = F := by rw [hF.out]; exact and_not i 2 h64 (by omega)
      rw [← hF.out]
      go_enter Try.func56, Try.ntmps56
      go_wp2_with (first
        | (go_at_call 87; refine (dir_deep off 2 hdl _ _ rfl _ _ ⟨_, rfl⟩ ⟨_, rfl⟩).mono ?_; rintro r w1 ⟨rfl, hb⟩; have hB1 := Below.then hB hb; have hK1 := hK.keep hb; have c0 := hK1.cell 0; have c1 := hK1.cell 1; have c2 := hK1.cell 2)
        | fail)
      go_ret3
      exact ⟨rfl, hB1⟩
  · rw [show (((3 : Nat) : Int)) = 3 from rfl] at hB hK ⊢
    have i0 : ¬ (i : Int) < 0 := by omega
    have h64 : i < 64 := Nat.lt_of_lt_of_le hi (by decide)
    have hi2 : i < 8 := hi
    have i1 : ¬ (8 : Int) ≤ (i : Int) := by omega
    have e0 : ¬ D < 0 := by omega
    have e1 : ¬ (3 : Int) < D := by omega
    have hs7 : s = 0 ∨ s = 1 ∨ s = 2 ∨ s = 3 := by omega
    rcases hs7 with rfl | rfl | rfl | rfl
    · obtain rfl : D = 3 := by omega
      clear hs hD hi hi2
      obtain ⟨F, hF⟩ : ∃ F : Int, Hid (F = ((i / 2 ^ 0 * 2 ^ 0 : Nat) : Int)) := ⟨_, Lib.hid rfl⟩
      have hbn : bits .andNot .i64 (i : Int) 0 = F := by rw [hF.out]; exact and_not i 0 h64 (by omega)
      rw [← hF.out]
      go_enter Try.func56, Try.ntmps56
      go_wp2_with (first
        | (go_at_call 87; refine (dir_deep off 3 hdl _ _ rfl _ _ ⟨_, rfl⟩ ⟨_, rfl⟩).mono ?_; rintro r w1 ⟨rfl, hb⟩; have hB1 := Below.then hB hb; have hK1 := hK.keep hb; have c0 := hK1.cell 0; have c1 := hK1.cell 1; have c2 := hK1.cell 2)
        | fail)
      go_ret3
      exact ⟨rfl, hB1⟩
    · obtain rfl : D = 2 := by omega
      clear hs hD hi hi2
      obtain ⟨F, hF⟩ : ∃ F : Int, Hid (F = ((i / 2 ^ 1 * 2 ^ 1 : Nat) : Int)) := ⟨_, Lib.hid rfl⟩
      have hbn : bits .andNot .i64 (i : Int) 1 = F := by rw [hF.out]; exact and_not i 1 h64 (by omega)
      rw [← hF.out]
      go_enter Try.func56, Try.ntmps56
      go_wp2_with (first
        | (go_at_call 87; refine (dir_deep off 3 hdl _ _ rfl _ _ ⟨_, rfl⟩ ⟨_, rfl⟩).mono ?_; rintro r w1 ⟨rfl, hb⟩; have hB1 := Below.then hB hb; have hK1 := hK.keep hb; have c0 := hK1.cell 0; have c1 := hK1.cell 1; have c2 := hK1.cell 2)
        | fail)
      go_ret3
      exact ⟨rfl, hB1⟩
    · obtain rfl : D = 1 := by omega
      clear hs hD hi hi2
      obtain ⟨F, hF⟩ : ∃ F : Int, Hid (F = ((i / 2 ^ 2 * 2 ^ 2 : Nat) : Int)) := ⟨_, Lib.hid rfl⟩
      have hbn : bits .andNot .i64 (i : Int) 3 = F := by rw [hF.out]; exact and_not i 2 h64 (by omega)
      rw [← hF.out]
      go_enter Try.func56, Try.ntmps56
      go_wp2_with (first
        | (go_at_call 87; refine (dir_deep off 3 hdl _ _ rfl _ _ ⟨_, rfl⟩ ⟨_, rfl⟩).mono ?_; rintro r w1 ⟨rfl, hb⟩; have hB1 := Below.then hB hb; have hK1 := hK.keep hb; have c0 := hK1.cell 0; have c1 := hK1.cell 1; have c2 := hK1.cell 2)
        | fail)
      go_ret3
      exact ⟨rfl, hB1⟩
    · obtain rfl : D = 0 := by omega
      clear hs hD hi hi2
      obtain ⟨F, hF⟩ : ∃ F : Int, Hid (F = ((i / 2 ^ 3 * 2 ^ 3 : Nat) : Int)) := ⟨_, Lib.hid rfl⟩
      have hbn : bits .andNot .i64 (i : Int) 7 = F := by rw [hF.out]; exact and_not i 3 h64 (by omega)
      rw [← hF.out]
      go_enter Try.func56, Try.ntmps56
      go_wp2_with (first
        | (go_at_call 87; refine (dir_deep off 3 hdl _ _ rfl _ _ ⟨_, rfl⟩ ⟨_, rfl⟩).mono ?_; rintro r w1 ⟨rfl, hb⟩; have hB1 := Below.then hB hb; have hK1 := hK.keep hb; have c0 := hK1.cell 0; have c1 := hK1.cell 1; have c2 := hK1.cell 2)
        | fail)
      go_ret3
      exact ⟨rfl, hB1⟩
  · rw [show (((4 : Nat) : Int)) = 4 from rfl] at hB hK ⊢
    have i0 : ¬ (i : Int) < 0 := by omega
    have h64 : i < 64 := Nat.lt_of_lt_of_le hi (by decide)
    have hi2 : i < 16 := hi
    have i1 : ¬ (16 : Int) ≤ (i : Int) := by omega
    have e0 : ¬ D < 0 := by omega
    have e1 : ¬ (4 : Int) < D := by omega
    have hs7 : s = 0 ∨ s = 1 ∨ s = 2 ∨ s = 3 ∨ s = 4 := by omega
    rcases hs7 with rfl | rfl | rfl | rfl | rfl
    · obtain rfl : D = 4 := by omega
      clear hs hD hi hi2
      obtain ⟨F, hF⟩ : ∃ F : Int, Hid (F = ((i / 2 ^ 0 * 2 ^ 0 : Nat) : Int)) := ⟨_, Lib.hid rfl⟩
      have hbn : bits .andNot .i64 (i : Int) 0 = F := by rw [hF.out]; exact and_not i 0 h64 (by omega)
      rw [← hF.out]
      go_enter Try.func56, Try.ntmps56
      go_wp2_with (first
        | (go_at_call 87; refine (dir_deep off 4 hdl _ _ rfl _ _ ⟨_, rfl⟩ ⟨_, rfl⟩).mono ?_; rintro r w1 ⟨rfl, hb⟩; have hB1 := Below.then hB hb; have hK1 := hK.keep hb; have c0 := hK1.cell 0; have c1 := hK1.cell 1; have c2 := hK1.cell 2)
        | fail)
      go_ret3
      exact ⟨rfl, hB1⟩
    · obtain rfl : D = 3 := by omega
      clear hs hD hi hi2
      obtain ⟨F, hF⟩ : ∃ F : Int, Hid (F = ((i / 2 ^ 1 * 2 ^ 1 : Nat) : Int)) := ⟨_, Lib.hid rfl⟩
      have hbn : bits .andNot .i64 (i : Int) 1 = F := by rw [hF.out]; exact and_not i 1 h64 (by omega)
      rw [← hF.out]
      go_enter Try.func56, Try.ntmps56
      go_wp2_with (first
        | (go_at_call 87; refine (dir_deep off 4 hdl _ _ rfl _ _ ⟨_, rfl⟩ ⟨_, rfl⟩).mono ?_; rintro r w1 ⟨rfl, hb⟩; have hB1 := Below.then hB hb; have hK1 := hK.keep hb; have c0 := hK1.cell 0; have c1 := hK1.cell 1; have c2 := hK1.cell 2)
        | fail)
      go_ret3
      exact ⟨rfl, hB1⟩
    · obtain rfl : D = 2 := by omega
      clear hs hD hi hi2
      obtain ⟨F, hF⟩ : ∃ F : Int, Hid (F = ((i / 2 ^ 2 * 2 ^ 2 : Nat) : Int)) := ⟨_, Lib.hid rfl⟩
      have hbn : bits .andNot .i64 (i : Int) 3 = F := by rw [hF.out]; exact and_not i 2 h64 (by omega)
      rw [← hF.out]
      go_enter Try.func56, Try.ntmps56
      go_wp2_with (first
        | (go_at_call 87; refine (dir_deep off 4 hdl _ _ rfl _ _ ⟨_, rfl⟩ ⟨_, rfl⟩).mono ?_; rintro r w1 ⟨rfl, hb⟩; have hB1 := Below.then hB hb; have hK1 := hK.keep hb; have c0 := hK1.cell 0; have c1 := hK1.cell 1; have c2 := hK1.cell 2)
        | fail)
      go_ret3
      exact ⟨rfl, hB1⟩
    · obtain rfl : D = 1 := by omega
      clear hs hD hi hi2
      obtain ⟨F, hF⟩ : ∃ F : Int, Hid (F = ((i / 2 ^ 3 * 2 ^ 3 : Nat) : Int)) := ⟨_, Lib.hid rfl⟩
      have hbn : bits .andNot .i64 (i : Int) 7 = F := by rw [hF.out]; exact and_not i 3 h64 (by omega)
      rw [← hF.out]
      go_enter Try.func56, Try.ntmps56
      go_wp2_with (first
        | (go_at_call 87; refine (dir_deep off 4 hdl _ _ rfl _ _ ⟨_, rfl⟩ ⟨_, rfl⟩).mono ?_; rintro r w1 ⟨rfl, hb⟩; have hB1 := Below.then hB hb; have hK1 := hK.keep hb; have c0 := hK1.cell 0; have c1 := hK1.cell 1; have c2 := hK1.cell 2)
        | fail)
      go_ret3
      exact ⟨rfl, hB1⟩
    · obtain rfl : D = 0 := by omega
      clear hs hD hi hi2
      obtain ⟨F, hF⟩ : ∃ F : Int, Hid (F = ((i / 2 ^ 4 * 2 ^ 4 : Nat) : Int)) := ⟨_, Lib.hid rfl⟩
      have hbn : bits .andNot .i64 (i : Int) 15 = F := by rw [hF.out]; exact and_not i 4 h64 (by omega)
      rw [← hF.out]
      go_enter Try.func56, Try.ntmps56
      go_wp2_with (first
        | (go_at_call 87; refine (dir_deep off 4 hdl _ _ rfl _ _ ⟨_, rfl⟩ ⟨_, rfl⟩).mono ?_; rintro r w1 ⟨rfl, hb⟩; have hB1 := Below.then hB hb; have hK1 := hK.keep hb; have c0 := hK1.cell 0; have c1 := hK1.cell 1; have c2 := hK1.cell 2)
        | fail)
      go_ret3
      exact ⟨rfl, hB1⟩
  · rw [show (((5 : Nat) : Int)) = 5 from rfl] at hB hK ⊢
    have i0 : ¬ (i : Int) < 0 := by omega
    have h64 : i < 64 := Nat.lt_of_lt_of_le hi (by decide)
    have hi2 : i < 32 := hi
    have i1 : ¬ (32 : Int) ≤ (i : Int) := by omega
    have e0 : ¬ D < 0 := by omega
    have e1 : ¬ (5 : Int) < D := by omega
    have hs7 : s = 0 ∨ s = 1 ∨ s = 2 ∨ s = 3 ∨ s = 4 ∨ s = 5 := by omega
    rcases hs7 with rfl | rfl | rfl | rfl | rfl | rfl
    · obtain rfl : D = 5 := by omega
      clear hs hD hi hi2
      obtain ⟨F, hF⟩ : ∃ F : Int, Hid (F = ((i / 2 ^ 0 * 2 ^ 0 : Nat) : Int)) := ⟨_, Lib.hid rfl⟩
      have hbn : bits .andNot .i64 (i : Int) 0 = F := by rw [hF.out]; exact and_not i 0 h64 (by omega)
      rw [← hF.out]
      go_enter Try.func56, Try.ntmps56
      go_wp2_with (first
        | (go_at_call 87; refine (dir_deep off 5 hdl _ _ rfl _ _ ⟨_, rfl⟩ ⟨_, rfl⟩).mono ?_; rintro r w1 ⟨rfl, hb⟩; have hB1 := Below.then hB hb; have hK1 := hK.keep hb; have c0 := hK1.cell 0; have c1 := hK1.cell 1; have c2 := hK1.cell 2)
        | fail)
      go_ret3
      exact ⟨rfl, hB1⟩
    · obtain rfl : D = 4 := by omega
      clear hs hD hi hi2
      obtain ⟨F, hF⟩ : ∃ F : Int, Hid (F = ((i / 2 ^ 1 * 2 ^ 1 : Nat) : Int)) := ⟨_, Lib.hid rfl⟩
      have hbn : bits .andNot .i64 (i : Int) 1 = F := by rw [hF.out]; exact and_not i 1 h64 (by omega)
      rw [← hF.out]
      go_enter Try.func56, Try.ntmps56
      go_wp2_with (first
        | (go_at_call 87; refine (dir_deep off 5 hdl _ _ rfl _ _ ⟨_, rfl⟩ ⟨_, rfl⟩).mono ?_; rintro r w1 ⟨rfl, hb⟩; have hB1 := Below.then hB hb; have hK1 := hK.keep hb; have c0 := hK1.cell 0; have c1 := hK1.cell 1; have c2 := hK1.cell 2)
        | fail)
      go_ret3
      exact ⟨rfl, hB1⟩
    · obtain rfl : D = 3 := by omega
      clear hs hD hi hi2
      obtain ⟨F, hF⟩ : ∃ F : Int, Hid (F = ((i / 2 ^ 2 * 2 ^ 2 : Nat) : Int)) := ⟨_, Lib.hid rfl⟩
      have hbn : bits .andNot .i64 (i : Int) 3 = F := by rw [hF.out]; exact and_not i 2 h64 (by omega)
      rw [← hF.out]
      go_enter Try.func56, Try.ntmps56
      go_wp2_with (first
        | (go_at_call 87; refine (dir_deep off 5 hdl _ _ rfl _ _ ⟨_, rfl⟩ ⟨_, rfl⟩).mono ?_; rintro r w1 ⟨rfl, hb⟩; have hB1 := Below.then hB hb; have hK1 := hK.keep hb; have c0 := hK1.cell 0; have c1 := hK1.cell 1; have c2 := hK1.cell 2)
        | fail)
      go_ret3
      exact ⟨rfl, hB1⟩
    · obtain rfl : D = 2 := by omega
      clear hs hD hi hi2
      obtain ⟨F, hF⟩ : ∃ F : Int, Hid (F = ((i / 2 ^ 3 * 2 ^ 3 : Nat) : Int)) := ⟨_, Lib.hid rfl⟩
      have hbn : bits .andNot .i64 (i : Int) 7 = F := by rw [hF.out]; exact and_not i 3 h64 (by omega)
      rw [← hF.out]
      go_enter Try.func56, Try.ntmps56
      go_wp2_with (first
        | (go_at_call 87; refine (dir_deep off 5 hdl _ _ rfl _ _ ⟨_, rfl⟩ ⟨_, rfl⟩).mono ?_; rintro r w1 ⟨rfl, hb⟩; have hB1 := Below.then hB hb; have hK1 := hK.keep hb; have c0 := hK1.cell 0; have c1 := hK1.cell 1; have c2 := hK1.cell 2)
        | fail)
      go_ret3
      exact ⟨rfl, hB1⟩
    · obtain rfl : D = 1 := by omega
      clear hs hD hi hi2
      obtain ⟨F, hF⟩ : ∃ F : Int, Hid (F = ((i / 2 ^ 4 * 2 ^ 4 : Nat) : Int)) := ⟨_, Lib.hid rfl⟩
      have hbn : bits .andNot .i64 (i : Int) 15 = F := by rw [hF.out]; exact and_not i 4 h64 (by omega)
      rw [← hF.out]
      go_enter Try.func56, Try.ntmps56
      go_wp2_with (first
        | (go_at_call 87; refine (dir_deep off 5 hdl _ _ rfl _ _ ⟨_, rfl⟩ ⟨_, rfl⟩).mono ?_; rintro r w1 ⟨rfl, hb⟩; have hB1 := Below.then hB hb; have hK1 := hK.keep hb; have c0 := hK1.cell 0; have c1 := hK1.cell 1; have c2 := hK1.cell 2)
        | fail)
      go_ret3
      exact ⟨rfl, hB1⟩
    · obtain rfl : D = 0 := by omega
      clear hs hD hi hi2
      obtain ⟨F, hF⟩ : ∃ F : Int, Hid (F = ((i / 2 ^ 5 * 2 ^ 5 : Nat) : Int)) := ⟨_, Lib.hid rfl⟩
      have hbn : bits .andNot .i64 (i : Int) 31 = F := by rw [hF.out]; exact and_not i 5 h64 (by omega)
      rw [← hF.out]
      go_enter Try.func56, Try.ntmps56
      go_wp2_with (first
        | (go_at_call 87; refine (dir_deep off 5 hdl _ _ rfl _ _ ⟨_, rfl⟩ ⟨_, rfl⟩).mono ?_; rintro r w1 ⟨rfl, hb⟩; have hB1 := Below.then hB hb; have hK1 := hK.keep hb; have c0 := hK1.cell 0; have c1 := hK1.cell 1; have c2 := hK1.cell 2)
        | fail)
      go_ret3
      exact ⟨rfl, hB1⟩
  · rw [show (((6 : Nat) : Int)) = 6 from rfl] at hB hK ⊢
    have i0 : ¬ (i : Int) < 0 := by omega
    have h64 : i < 64 := Nat.lt_of_lt_of_le hi (by decide)
    have hi2 : i < 64 := hi
    have i1 : ¬ (64 : Int) ≤ (i : Int) := by omega
    have e0 : ¬ D < 0 := by omega
    have e1 : ¬ (6 : Int) < D := by omega
    have hs7 : s = 0 ∨ s = 1 ∨ s = 2 ∨ s = 3 ∨ s = 4 ∨ s = 5 ∨ s = 6 := by omega
    rcases hs7 with rfl | rfl | rfl | rfl | rfl | rfl | rfl
    · obtain rfl : D = 6 := by omega
      clear hs hD hi hi2
      obtain ⟨F, hF⟩ : ∃ F : Int, Hid (F = ((i / 2 ^ 0 * 2 ^ 0 : Nat) : Int)) := ⟨_, Lib.hid rfl⟩
      have hbn : bits .andNot .i64 (i : Int) 0 = F := by rw [hF.out]; exact and_not i 0 h64 (by omega)
      rw [← hF.out]
      go_enter Try.func56, Try.ntmps56
      go_wp2_with (first
        | (go_at_call 87; refine (dir_deep off 6 hdl _ _ rfl _ _ ⟨_, rfl⟩ ⟨_, rfl⟩).mono ?_; rintro r w1 ⟨rfl, hb⟩; have hB1 := Below.then hB hb; have hK1 := hK.keep hb; have c0 := hK1.cell 0; have c1 := hK1.cell 1; have c2 := hK1.cell 2)
        | fail)
      go_ret3
      exact ⟨rfl, hB1⟩
    · obtain rfl : D = 5 := by omega
      clear hs hD hi hi2
      obtain ⟨F, hF⟩ : ∃ F : Int, Hid (F = ((i / 2 ^ 1 * 2 ^ 1 : Nat) : Int)) := ⟨_, Lib.hid rfl⟩
      have hbn : bits .andNot .i64 (i : Int) 1 = F := by rw [hF.out]; exact and_not i 1 h64 (by omega)
      rw [← hF.out]
      go_enter Try.func56, Try.ntmps56
      go_wp2_with (first
        | (go_at_call 87; refine (dir_deep off 6 hdl _ _ rfl _ _ ⟨_, rfl⟩ ⟨_, rfl⟩).mono ?_; rintro r w1 ⟨rfl, hb⟩; have hB1 := Below.then hB hb; have hK1 := hK.keep hb; have c0 := hK1.cell 0; have c1 := hK1.cell 1; have c2 := hK1.cell 2)
        | fail)
      go_ret3
      exact ⟨rfl, hB1⟩
    · obtain rfl : D = 4 := by omega
      clear hs hD hi hi2
      obtain ⟨F, hF⟩ : ∃ F : Int, Hid (F = ((i / 2 ^ 2 * 2 ^ 2 : Nat) : Int)) := ⟨_, Lib.hid rfl⟩
      have hbn : bits .andNot .i64 (i : Int) 3 = F := by rw [hF.out]; exact and_not i 2 h64 (by omega)
      rw [← hF.out]
      go_enter Try.func56, Try.ntmps56
      go_wp2_with (first
        | (go_at_call 87; refine (dir_deep off 6 hdl _ _ rfl _ _ ⟨_, rfl⟩ ⟨_, rfl⟩).mono ?_; rintro r w1 ⟨rfl, hb⟩; have hB1 := Below.then hB hb; have hK1 := hK.keep hb; have c0 := hK1.cell 0; have c1 := hK1.cell 1; have c2 := hK1.cell 2)
        | fail)
      go_ret3
      exact ⟨rfl, hB1⟩
    · obtain rfl : D = 3 := by omega
      clear hs hD hi hi2
      obtain ⟨F, hF⟩ : ∃ F : Int, Hid (F = ((i / 2 ^ 3 * 2 ^ 3 : Nat) : Int)) := ⟨_, Lib.hid rfl⟩
      have hbn : bits .andNot .i64 (i : Int) 7 = F := by rw [hF.out]; exact and_not i 3 h64 (by omega)
      rw [← hF.out]
      go_enter Try.func56, Try.ntmps56
      go_wp2_with (first
        | (go_at_call 87; refine (dir_deep off 6 hdl _ _ rfl _ _ ⟨_, rfl⟩ ⟨_, rfl⟩).mono ?_; rintro r w1 ⟨rfl, hb⟩; have hB1 := Below.then hB hb; have hK1 := hK.keep hb; have c0 := hK1.cell 0; have c1 := hK1.cell 1; have c2 := hK1.cell 2)
        | fail)
      go_ret3
      exact ⟨rfl, hB1⟩
    · obtain rfl : D = 2 := by omega
      clear hs hD hi hi2
      obtain ⟨F, hF⟩ : ∃ F : Int, Hid (F = ((i / 2 ^ 4 * 2 ^ 4 : Nat) : Int)) := ⟨_, Lib.hid rfl⟩
      have hbn : bits .andNot .i64 (i : Int) 15 = F := by rw [hF.out]; exact and_not i 4 h64 (by omega)
      rw [← hF.out]
      go_enter Try.func56, Try.ntmps56
      go_wp2_with (first
        | (go_at_call 87; refine (dir_deep off 6 hdl _ _ rfl _ _ ⟨_, rfl⟩ ⟨_, rfl⟩).mono ?_; rintro r w1 ⟨rfl, hb⟩; have hB1 := Below.then hB hb; have hK1 := hK.keep hb; have c0 := hK1.cell 0; have c1 := hK1.cell 1; have c2 := hK1.cell 2)
        | fail)
      go_ret3
      exact ⟨rfl, hB1⟩
    · obtain rfl : D = 1 := by omega
      clear hs hD hi hi2
      obtain ⟨F, hF⟩ : ∃ F : Int, Hid (F = ((i / 2 ^ 5 * 2 ^ 5 : Nat) : Int)) := ⟨_, Lib.hid rfl⟩
      have hbn : bits .andNot .i64 (i : Int) 31 = F := by rw [hF.out]; exact and_not i 5 h64 (by omega)
      rw [← hF.out]
      go_enter Try.func56, Try.ntmps56
      go_wp2_with (first
        | (go_at_call 87; refine (dir_deep off 6 hdl _ _ rfl _ _ ⟨_, rfl⟩ ⟨_, rfl⟩).mono ?_; rintro r w1 ⟨rfl, hb⟩; have hB1 := Below.then hB hb; have hK1 := hK.keep hb; have c0 := hK1.cell 0; have c1 := hK1.cell 1; have c2 := hK1.cell 2)
        | fail)
      go_ret3
      exact ⟨rfl, hB1⟩
    · obtain rfl : D = 0 := by omega
      clear hs hD hi hi2
      obtain ⟨F, hF⟩ : ∃ F : Int, Hid (F = ((i / 2 ^ 6 * 2 ^ 6 : Nat) : Int)) := ⟨_, Lib.hid rfl⟩
      have hbn : bits .andNot .i64 (i : Int) 63 = F := by rw [hF.out]; exact and_not i 6 h64 (by omega)
      rw [← hF.out]
      go_enter Try.func56, Try.ntmps56
      go_wp2_with (first
        | (go_at_call 87; refine (dir_deep off 6 hdl _ _ rfl _ _ ⟨_, rfl⟩ ⟨_, rfl⟩).mono ?_; rintro r w1 ⟨rfl, hb⟩; have hB1 := Below.then hB hb; have hK1 := hK.keep hb; have c0 := hK1.cell 0; have c1 := hK1.cell 1; have c2 := hK1.cell 2)
        | fail)
      go_ret3
      exact ⟨rfl, hB1⟩
set_option maxHeartbeats 4000000 in
theorem dir_run_out (w : World) (p off d : Nat) (hdl : d ≤ 6) (I D : Int) (hout : I < 0 ∨ ((2 ^ d : Nat) : Int) ≤ I ∨ D < 0 ∨ (d : Int) < D) : Calls Try.prog 56 #[dirV p off d, .int .i64 I, .int .i64 D] w fun r w' => r = .returned (.tuple #[.int .i64 0, .int .i64 0, .int .i64 101]) ∧ Below w.heap.size w w' := by
  have hB := (Below.refl w.heap.size w).alloc (Nat.le_refl _) (.cells #[.pointer (some ⟨p, 0, none⟩), .int .i64 (off : Int), .int .i64 (d : Int)] 92)
  have hK := Blk.new w #[.pointer (some ⟨p, 0, none⟩), .int .i64 (off : Int), .int .i64 (d : Int)] 92
  unfold dirV
  have hd7 : d = 0 ∨ d = 1 ∨ d = 2 ∨ d = 3 ∨ d = 4 ∨ d = 5 ∨ d = 6 := by omega
  rcases hd7 with rfl | rfl | rfl | rfl | rfl | rfl | rfl
  · rw [show (((0 : Nat) : Int)) = 0 from rfl] at hB hK ⊢
    have hP : ((2 ^ 0 : Nat) : Int) = 1 := rfl
    have hway : I < 0 ∨ (¬ I < 0 ∧ (1 : Int) ≤ I) ∨ (¬ I < 0 ∧ ¬ (1 : Int) ≤ I ∧ D < 0) ∨ (¬ I < 0 ∧ ¬ (1 : Int) ≤ I ∧ ¬ D < 0 ∧ (0 : Int) < D) := by
      rw [hP] at hout; clear hP; omega
    clear hP hout
    rcases hway with i0 | ⟨i0, i1⟩ | ⟨i0, i1, e0⟩ | ⟨i0, i1, e0, e1⟩
    iterate 4
      · go_enter Try.func56, Try.ntmps56
        go_wp2_with (first
          | (go_at_call 87; refine (dir_deep off 0 hdl _ _ rfl _ _ ⟨_, rfl⟩ ⟨_, rfl⟩).mono ?_; rintro r w1 ⟨rfl, hb⟩; have hB1 := Below.then hB hb; have hK1 := hK.keep hb; have c0 := hK1.cell 0; have c1 := hK1.cell 1; have c2 := hK1.cell 2)
          | fail)
        go_ret3
        exact ⟨rfl, hB1⟩
  · rw [show (((1 : Nat) : Int)) = 1 from rfl] at hB hK ⊢
    have hP : ((2 ^ 1 : Nat) : Int) = 2 := rfl
    have hway : I < 0 ∨ (¬ I < 0 ∧ (2 : Int) ≤ I) ∨ (¬ I < 0 ∧ ¬ (2 : Int) ≤ I ∧ D < 0) ∨ (¬ I < 0 ∧ ¬ (2 : Int) ≤ I ∧ ¬ D < 0 ∧ (1 : Int) < D) := by
      rw [hP] at hout; clear hP; omega
    clear hP hout
    rcases hway with i0 | ⟨i0, i1⟩ | ⟨i0, i1, e0⟩ | ⟨i0, i1, e0, e1⟩
    iterate 4
      · go_enter Try.func56, Try.ntmps56
        go_wp2_with (first
          | (go_at_call 87; refine (dir_deep off 1 hdl _ _ rfl _ _ ⟨_, rfl⟩ ⟨_, rfl⟩).mono ?_; rintro r w1 ⟨rfl, hb⟩; have hB1 := Below.then hB hb; have hK1 := hK.keep hb; have c0 := hK1.cell 0; have c1 := hK1.cell 1; have c2 := hK1.cell 2)
          | fail)
        go_ret3
        exact ⟨rfl, hB1⟩
  · rw [show (((2 : Nat) : Int)) = 2 from rfl] at hB hK ⊢
    have hP : ((2 ^ 2 : Nat) : Int) = 4 := rfl
    have hway : I < 0 ∨ (¬ I < 0 ∧ (4 : Int) ≤ I) ∨ (¬ I < 0 ∧ ¬ (4 : Int) ≤ I ∧ D < 0) ∨ (¬ I < 0 ∧ ¬ (4 : Int) ≤ I ∧ ¬ D < 0 ∧ (2 : Int) < D) := by
      rw [hP] at hout; clear hP; omega
    clear hP hout
    rcases hway with i0 | ⟨i0, i1⟩ | ⟨i0, i1, e0⟩ | ⟨i0, i1, e0, e1⟩
    iterate 4
      · go_enter Try.func56, Try.ntmps56
        go_wp2_with (first
          | (go_at_call 87; refine (dir_deep off 2 hdl _ _ rfl _ _ ⟨_, rfl⟩ ⟨_, rfl⟩).mono ?_; rintro r w1 ⟨rfl, hb⟩; have hB1 := Below.then hB hb; have hK1 := hK.keep hb; have c0 := hK1.cell 0; have c1 := hK1.cell 1; have c2 := hK1.cell 2)
          | fail)
        go_ret3
        exact ⟨rfl, hB1⟩
  · rw [show (((3 : Nat) : Int)) = 3 from rfl] at hB hK ⊢
    have hP : ((2 ^ 3 : Nat) : Int) = 8 := rfl
    have hway : I < 0 ∨ (¬ I < 0 ∧ (8 : Int) ≤ I) ∨ (¬ I < 0 ∧ ¬ (8 : Int) ≤ I ∧ D < 0) ∨ (¬ I < 0 ∧ ¬ (8 : Int) ≤ I ∧ ¬ D < 0 ∧ (3 : Int) < D) := by
      rw [hP] at hout; clear hP; omega
    clear hP hout
    rcases hway with i0 | ⟨i0, i1⟩ | ⟨i0, i1, e0⟩ | ⟨i0, i1, e0, e1⟩
    iterate 4
      · go_enter Try.func56, Try.ntmps56
        go_wp2_with (first
          | (go_at_call 87; refine (dir_deep off 3 hdl _ _ rfl _ _ ⟨_, rfl⟩ ⟨_, rfl⟩).mono ?_; rintro r w1 ⟨rfl, hb⟩; have hB1 := Below.then hB hb; have hK1 := hK.keep hb; have c0 := hK1.cell 0; have c1 := hK1.cell 1; have c2 := hK1.cell 2)
          | fail)
        go_ret3
        exact ⟨rfl, hB1⟩
  · rw [show (((4 : Nat) : Int)) = 4 from rfl] at hB hK ⊢
    have hP : ((2 ^ 4 : Nat) : Int) = 16 := rfl
    have hway : I < 0 ∨ (¬ I < 0 ∧ (16 : Int) ≤ I) ∨ (¬ I < 0 ∧ ¬ (16 : Int) ≤ I ∧ D < 0) ∨ (¬ I < 0 ∧ ¬ (16 : Int) ≤ I ∧ ¬ D < 0 ∧ (4 : Int) < D) := by
      rw [hP] at hout; clear hP; omega
    clear hP hout
    rcases hway with i0 | ⟨i0, i1⟩ | ⟨i0, i1, e0⟩ | ⟨i0, i1, e0, e1⟩
    iterate 4
      · go_enter Try.func56, Try.ntmps56
        go_wp2_with (first
          | (go_at_call 87; refine (dir_deep off 4 hdl _ _ rfl _ _ ⟨_, rfl⟩ ⟨_, rfl⟩).mono ?_; rintro r w1 ⟨rfl, hb⟩; have hB1 := Below.then hB hb; have hK1 := hK.keep hb; have c0 := hK1.cell 0; have c1 := hK1.cell 1; have c2 := hK1.cell 2)
          | fail)
        go_ret3
        exact ⟨rfl, hB1⟩
  · rw [show (((5 : Nat) : Int)) = 5 from rfl] at hB hK ⊢
    have hP : ((2 ^ 5 : Nat) : Int) = 32 := rfl
    have hway : I < 0 ∨ (¬ I < 0 ∧ (32 : Int) ≤ I) ∨ (¬ I < 0 ∧ ¬ (32 : Int) ≤ I ∧ D < 0) ∨ (¬ I < 0 ∧ ¬ (32 : Int) ≤ I ∧ ¬ D < 0 ∧ (5 : Int) < D) := by
      rw [hP] at hout; clear hP; omega
    clear hP hout
    rcases hway with i0 | ⟨i0, i1⟩ | ⟨i0, i1, e0⟩ | ⟨i0, i1, e0, e1⟩
    iterate 4
      · go_enter Try.func56, Try.ntmps56
        go_wp2_with (first
          | (go_at_call 87; refine (dir_deep off 5 hdl _ _ rfl _ _ ⟨_, rfl⟩ ⟨_, rfl⟩).mono ?_; rintro r w1 ⟨rfl, hb⟩; have hB1 := Below.then hB hb; have hK1 := hK.keep hb; have c0 := hK1.cell 0; have c1 := hK1.cell 1; have c2 := hK1.cell 2)
          | fail)
        go_ret3
        exact ⟨rfl, hB1⟩
  · rw [show (((6 : Nat) : Int)) = 6 from rfl] at hB hK ⊢
    have hP : ((2 ^ 6 : Nat) : Int) = 64 := rfl
    have hway : I < 0 ∨ (¬ I < 0 ∧ (64 : Int) ≤ I) ∨ (¬ I < 0 ∧ ¬ (64 : Int) ≤ I ∧ D < 0) ∨ (¬ I < 0 ∧ ¬ (64 : Int) ≤ I ∧ ¬ D < 0 ∧ (6 : Int) < D) := by
      rw [hP] at hout; clear hP; omega
    clear hP hout
    rcases hway with i0 | ⟨i0, i1⟩ | ⟨i0, i1, e0⟩ | ⟨i0, i1, e0, e1⟩
    iterate 4
      · go_enter Try.func56, Try.ntmps56
        go_wp2_with (first
          | (go_at_call 87; refine (dir_deep off 6 hdl _ _ rfl _ _ ⟨_, rfl⟩ ⟨_, rfl⟩).mono ?_; rintro r w1 ⟨rfl, hb⟩; have hB1 := Below.then hB hb; have hK1 := hK.keep hb; have c0 := hK1.cell 0; have c1 := hK1.cell 1; have c2 := hK1.cell 2)
          | fail)
        go_ret3
        exact ⟨rfl, hB1⟩
end Go.Proofs.Ytpbalilnemjeeaa
