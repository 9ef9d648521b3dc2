/- What is proved here: the contracts of package ctrl's functions but First, Rest and All: what each answers, by the word's bytes. Each word is below 2 to the 64. -/
import Derived.Test.YtakmaedimelaaaaDoorCBits
import Derived.Test.YtakmaedimelaaaaDoorKit
import Derived.KernelRfl
set_option linter.unusedVariables false
set_option linter.unusedSimpArgs false
namespace Go.Proofs.YtakmaedimelaaaaDoor
open Go.RowKit Pl

theorem zeros_any (n : Nat) (w : World) (h : n < 18446744073709551616) : Calls Tryd.prog 28 #[.int .u64 n] w fun e w' => e = .returned (.agg #[.int .u64 ((mask fun i => byt n i == 0 : Nat) : Int)]) ∧ Below w.heap.size w w' := by
  have he := Lib.hid (zeros_eq n h)
  go_enter Tryd.func28, Tryd.ntmps28
  go_wp2
  exact bodyPost_ret (v := .agg #[.int .u64 ((mask fun i => byt n i == 0 : Nat) : Int)]) (by simp [results, Tryd.results28, go_sem, he.out]) rfl ⟨rfl, (Below.refl _ _).alloc (Nat.le_refl _) _⟩
theorem zeros_is (x : Int) (n t : Nat) (w : World) (h : n < 18446744073709551616) (ht : t < 256) (hx : x = bits .xor .u64 (n : Int) (72340172838076673 * (t : Int))) : Calls Tryd.prog 28 #[.int .u64 x] w fun e w' => e = .returned (.agg #[.int .u64 ((mask (mat n t) : Nat) : Int)]) ∧ Below w.heap.size w w' := by
  obtain ⟨h1, h2⟩ := match_eq n h ht
  rw [hx, h1, ← mask_mat n ht]
  exact zeros_any _ w h2

theorem match_in (n t : Nat) (w : World) (h : n < 18446744073709551616) (ht : t ≤ 127) : Calls Tryd.prog 6 #[.int .u64 n, .int .i64 t] w fun e w' => e = .returned (.agg #[.int .u64 ((mask (mat n t) : Nat) : Int)]) ∧ Below w.heap.size w w' := by
  have h0 : ¬ (t : Int) < 0 := by omega
  have h1 : ¬ 127 < (t : Int) := by omega
  go_enter Tryd.func6, Tryd.ntmps6
  go_wp2_with fail
  refine (zeros_is _ n t _ h (by omega) rfl).mono ?_
  rintro e w1 ⟨rfl, hb⟩
  obtain ⟨hc, hf⟩ := bcell hb
  go_wp2_with fail
  exact bodyPost_ret (v := .agg #[.int .u64 ((mask (mat n t) : Nat) : Int)]) (by simp [results, Tryd.results6, go_sem, hc]) rfl ⟨rfl, (((Below.refl _ _).alloc (Nat.le_refl _) _).trans (hb.mono (by simp))).setCell (by simp) _⟩
theorem match_out (n : Nat) (t : Int) (w : World) (ht : t < 0 ∨ 127 < t) : Calls Tryd.prog 6 #[.int .u64 n, .int .i64 t] w fun e w' => e = .returned (.agg #[.int .u64 0]) ∧ Below w.heap.size w w' := by
  rcases ht with h1 | h1
  · go_enter Tryd.func6, Tryd.ntmps6
    go_wp2_with fail
    exact bodyPost_ret (v := .agg #[.int .u64 0]) (by simp [results, Tryd.results6, go_sem]) rfl ⟨rfl, ((Below.refl _ _).alloc (Nat.le_refl _) _)⟩
  · have h0 : ¬ t < 0 := by omega
    go_enter Tryd.func6, Tryd.ntmps6
    go_wp2_with fail
    exact bodyPost_ret (v := .agg #[.int .u64 0]) (by simp [results, Tryd.results6, go_sem]) rfl ⟨rfl, ((Below.refl _ _).alloc (Nat.le_refl _) _)⟩
theorem match_any (n : Nat) (t : Int) (w : World) (h : n < 18446744073709551616) : Calls Tryd.prog 6 #[.int .u64 n, .int .i64 t] w fun e w' => e = .returned (.agg #[.int .u64 ((mask (matF n t) : Nat) : Int)]) ∧ Below w.heap.size w w' := by
  by_cases ht : 0 ≤ t ∧ t ≤ 127
  · obtain ⟨t', rfl⟩ := Int.eq_ofNat_of_zero_le ht.1
    rw [matF_in n t' (by omega)]
    exact match_in n t' w h (by omega)
  · rw [matF_out n t (by omega)]
    exact match_out n t w (by omega)
theorem matchEmpty_any (n : Nat) (w : World) (h : n < 18446744073709551616) : Calls Tryd.prog 12 #[.int .u64 n] w fun e w' => e = .returned (.agg #[.int .u64 ((mask (mat n 128) : Nat) : Int)]) ∧ Below w.heap.size w w' := by
  go_enter Tryd.func12, Tryd.ntmps12
  go_wp2_with fail
  refine (zeros_is _ n 128 _ h (by omega) rfl).mono ?_
  rintro e w1 ⟨rfl, hb⟩
  obtain ⟨hc, hf⟩ := bcell hb
  go_wp2_with fail
  exact bodyPost_ret (v := .agg #[.int .u64 ((mask (mat n 128) : Nat) : Int)]) (by simp [results, Tryd.results12, go_sem, hc]) rfl ⟨rfl, (((Below.refl _ _).alloc (Nat.le_refl _) _).trans (hb.mono (by simp))).setCell (by simp) _⟩
theorem matchVacant_any (n : Nat) (w : World) (h : n < 18446744073709551616) : Calls Tryd.prog 10 #[.int .u64 n] w fun e w' => e = .returned (.agg #[.int .u64 ((mask (vac n) : Nat) : Int)]) ∧ Below w.heap.size w w' := by
  have he := Lib.hid (vac_eq n)
  have hfd : ∀ (x : Int) (w : World), (Instr.field 26 (.agg #[.int .u64 x]) 0).run Tryd.prog w = .ok (.int .u64 x) w := fun _ _ => by kernel_rfl
  go_enter Tryd.func10, Tryd.ntmps10
  go_wp2_with fail
  refine (matchEmpty_any n _ h).mono ?_
  rintro e w1 ⟨rfl, hb⟩
  obtain ⟨hc, hf⟩ := bcell hb
  have hz : w.heap.size < w1.heap.size := by have := hb.size; simp at this; omega
  go_wp2_with fail
  refine (zeros_is _ n 254 _ h (by omega) rfl).mono ?_
  rintro e w2 ⟨rfl, hb2⟩
  obtain ⟨hc2, hf2⟩ := bcell hb2
  go_wp2_with fail
  exact bodyPost_ret (v := .agg #[.int .u64 ((mask (vac n) : Nat) : Int)]) (by simp [results, Tryd.results10, go_sem, hc, hc2, hz, he.out]) rfl ⟨rfl, ((((Below.refl _ _).alloc (Nat.le_refl _) _).trans (hb.mono (by simp))).trans (hb2.mono (by omega))).setCell (by simp) _⟩
theorem matchFull_any (n : Nat) (w : World) (h : n < 18446744073709551616) : Calls Tryd.prog 8 #[.int .u64 n] w fun e w' => e = .returned (.agg #[.int .u64 ((mask (ful n) : Nat) : Int)]) ∧ Below w.heap.size w w' := by
  have he := Lib.hid (full_eq n h)
  go_enter Tryd.func8, Tryd.ntmps8
  go_wp2_with fail
  exact bodyPost_ret (v := .agg #[.int .u64 ((mask (ful n) : Nat) : Int)]) (by simp [results, Tryd.results8, go_sem, he.out]) rfl ⟨rfl, ((Below.refl _ _).alloc (Nat.le_refl _) _)⟩
theorem clear_any (n : Nat) (w : World) (h : n < 18446744073709551616) : Calls Tryd.prog 20 #[.int .u64 n] w fun e w' => e = .returned (.int .u64 ((clr n : Nat) : Int)) ∧ Below w.heap.size w w' := by
  have he := Lib.hid (clr_eq h)
  have hl := mask_lt (mat n 254)
  have hfd : ∀ (x : Int) (w : World), (Instr.field 26 (.agg #[.int .u64 x]) 0).run Tryd.prog w = .ok (.int .u64 x) w := fun _ _ => by kernel_rfl
  go_enter Tryd.func20, Tryd.ntmps20
  go_wp2_with fail
  refine (zeros_is _ n 254 _ h (by omega) rfl).mono ?_
  rintro e w1 ⟨rfl, hb⟩
  go_wp2_with fail
  go_ret
  exact ⟨ret_int (by have := he.out; rw [wraps_u64 _ (by omega) (by omega)] at this; exact this), hb⟩
theorem has_in (n i : Nat) (w : World) (h : n < 18446744073709551616) (hi : i < 8) : Calls Tryd.prog 21 #[.agg #[.int .u64 n], .int .i64 i] w fun e w' => e = .returned (.bool (has n i)) ∧ Below w.heap.size w w' := by
  have he := Lib.hid (has_eq n h i)
  have h1 : 0 ≤ (i : Int) := by omega
  have h3 : (i : Int) ≤ 7 := by omega
  go_enter Tryd.func21, Tryd.ntmps21
  go_wp2_with fail
  go_ret
  exact ⟨ret_bool he.out, by first | exact (Below.refl _ _).alloc (Nat.le_refl _) _ | exact below_drewN ((Below.refl _ _).alloc (Nat.le_refl _) _) _⟩
theorem has_out (n : Nat) (i : Int) (w : World) (hi : i < 0 ∨ 7 < i) : Calls Tryd.prog 21 #[.agg #[.int .u64 n], .int .i64 i] w fun e w' => e = .returned (.bool false) ∧ Below w.heap.size w w' := by
  rcases hi with h1 | h1
  · have h2 : decide (0 ≤ i) = false := by simp; omega
    go_enter Tryd.func21, Tryd.ntmps21
    go_wp2_with fail
    go_ret
    exact ⟨rfl, by first | exact (Below.refl _ _).alloc (Nat.le_refl _) _ | exact below_drewN ((Below.refl _ _).alloc (Nat.le_refl _) _) _⟩
  · have h2 : decide (0 ≤ i) = true := by simp; omega
    have h3 : decide (i ≤ 7) = false := by simp; omega
    go_enter Tryd.func21, Tryd.ntmps21
    go_wp2_with fail
    go_ret
    exact ⟨rfl, by first | exact (Below.refl _ _).alloc (Nat.le_refl _) _ | exact below_drewN ((Below.refl _ _).alloc (Nat.le_refl _) _) _⟩
theorem ones_mk : ∀ b0 b1 b2 b3 b4 b5 b6 b7 : Bool, bits BinOp.and IntKind.i64 (wrap64 (on6 (on5 (on4 (on3 (on2 (on1 (wd (hi b0) (hi b1) (hi b2) (hi b3) (hi b4) (hi b5) (hi b6) (hi b7) : Nat)))))))) 127 = (b0.toNat + b1.toNat + b2.toNat + b3.toNat + b4.toNat + b5.toNat + b6.toNat + b7.toNat : Nat) := by decide +kernel
theorem ones_any (n : Nat)  (w : World) (h : n < 18446744073709551616) : Calls Tryd.prog 32 #[.int .u64 n] w fun e w' => e = .returned (.int .i64 (bits BinOp.and IntKind.i64 (wrap64 (on6 (on5 (on4 (on3 (on2 (on1 n))))))) 127)) ∧ w = w' := by
  go_enter Tryd.func32, Tryd.ntmps32
  go_wp2
  go_ret
  exact ⟨rfl, rfl⟩
theorem ones_mask (p : Nat → Bool) (w : World) : Calls Tryd.prog 32 #[.int .u64 (mask p : Nat)] w fun e w' => e = .returned (.int .i64 (cnt p : Nat)) ∧ w = w' := by
  refine (ones_any (mask p) w (mask_lt p)).mono ?_
  rintro e w' ⟨rfl, rfl⟩
  exact ⟨ret_int (ones_mk (p 0) (p 1) (p 2) (p 3) (p 4) (p 5) (p 6) (p 7)), rfl⟩
theorem count_mask (p : Nat → Bool) (w : World) : Calls Tryd.prog 19 #[.agg #[.int .u64 (mask p : Nat)]] w fun e w' => e = .returned (.int .i64 (cnt p : Nat)) ∧ Below w.heap.size w w' := by
  go_enter Tryd.func19, Tryd.ntmps19
  go_wp2_with fail
  refine (ones_mask p _).mono ?_
  rintro e w' ⟨rfl, rfl⟩
  go_wp2_with fail
  go_ret
  exact ⟨rfl, (Below.refl _ _).alloc (Nat.le_refl _) _⟩
theorem get_in (n i : Nat) (w : World) (h : n < 18446744073709551616) (hi : i < 8) : Calls Tryd.prog 22 #[.int .u64 n, .int .i64 i] w fun e w' => e = .returned (.int .i64 (byt n i : Nat)) ∧ ∃ m, w' = w.drewN m := by
  have he := Lib.hid (get_eq n h i)
  have h1 : ¬ ((i : Int) < 0) := by omega
  have h3 : ¬ (7 < (i : Int)) := by omega
  go_enter Tryd.func22, Tryd.ntmps22
  go_wp2_with fail
  (try go_quiet (fail))
  go_wp2_with fail
  go_ret
  exact ⟨ret_int he.out, by first | exact ⟨_, rfl⟩ | exact ⟨0, rfl⟩⟩
theorem get_out (n : Nat) (i : Int) (w : World) (hi : i < 0 ∨ 7 < i) : Calls Tryd.prog 22 #[.int .u64 n, .int .i64 i] w fun e w' => e = .returned (.int .i64 (-1)) ∧ ∃ m, w' = w.drewN m := by
  rcases hi with h1 | h1
  · go_enter Tryd.func22, Tryd.ntmps22
    go_wp2_with fail
    go_ret
    exact ⟨rfl, ⟨0, rfl⟩⟩
  · have h2 : ¬ i < 0 := by omega
    go_enter Tryd.func22, Tryd.ntmps22
    go_wp2_with fail
    go_ret
    exact ⟨rfl, ⟨0, rfl⟩⟩
theorem set_in (n i c : Nat) (w : World) (h : n < 18446744073709551616) (hi : i < 8) (hc : c < 256) : Calls Tryd.prog 18 #[.int .u64 n, .int .i64 i, .int .i64 c] w fun e w' => e = .returned (.int .u64 (setN n i c : Nat)) ∧ ∃ m, w' = w.drewN m := by
  have he := Lib.hid (set_eq h hc hi)
  have h1 : ¬ ((i : Int) < 0) := by omega
  have h3 : ¬ (7 < (i : Int)) := by omega
  have h4 : ¬ ((c : Int) < 0) := by omega
  have h5 : ¬ (255 < (c : Int)) := by omega
  go_enter Tryd.func18, Tryd.ntmps18
  go_wp2_with fail
  go_quiet (fail)
  go_wp2_with fail
  go_ret
  exact ⟨ret_int he.out, by first | exact ⟨_, rfl⟩ | exact ⟨0, rfl⟩⟩
theorem set_out (n : Nat) (i c : Int) (w : World) (hi : i < 0 ∨ 7 < i ∨ c < 0 ∨ 255 < c) : Calls Tryd.prog 18 #[.int .u64 n, .int .i64 i, .int .i64 c] w fun e w' => e = .returned (.int .u64 n) ∧ ∃ m, w' = w.drewN m := by
  by_cases h1 : i < 0
  · go_enter Tryd.func18, Tryd.ntmps18
    go_wp2_with fail
    go_ret
    exact ⟨rfl, ⟨0, rfl⟩⟩
  by_cases h2 : 7 < i
  · go_enter Tryd.func18, Tryd.ntmps18
    go_wp2_with fail
    go_ret
    exact ⟨rfl, ⟨0, rfl⟩⟩
  by_cases h3 : c < 0
  · go_enter Tryd.func18, Tryd.ntmps18
    go_wp2_with fail
    go_ret
    exact ⟨rfl, ⟨0, rfl⟩⟩
  have h4 : 255 < c := by omega
  go_enter Tryd.func18, Tryd.ntmps18
  go_wp2_with fail
  go_ret
  exact ⟨rfl, ⟨0, rfl⟩⟩
theorem set_any (n : Nat) (i c : Int) (w : World) (h : n < 18446744073709551616) : Calls Tryd.prog 18 #[.int .u64 n, .int .i64 i, .int .i64 c] w fun e w' => e = .returned (.int .u64 (setF n i c : Nat)) ∧ ∃ m, w' = w.drewN m := by
  by_cases hi : 0 ≤ i ∧ i ≤ 7 ∧ 0 ≤ c ∧ c ≤ 255
  · have e : setF n i c = setN n i.toNat c.toNat := by unfold setF; rw [if_pos hi]
    obtain ⟨i', rfl⟩ := Int.eq_ofNat_of_zero_le hi.1
    obtain ⟨c', rfl⟩ := Int.eq_ofNat_of_zero_le hi.2.2.1
    rw [e]
    exact set_in n i' c' w h (by omega) (by omega)
  · have e : setF n i c = n := by unfold setF; rw [if_neg hi]
    rw [e]
    exact set_out n i c w (by omega)
theorem get_any (n : Nat) (i : Int) (w : World) (h : n < 18446744073709551616) : Calls Tryd.prog 22 #[.int .u64 n, .int .i64 i] w fun e w' => e = .returned (.int .i64 (getF n i)) ∧ ∃ m, w' = w.drewN m := by
  by_cases hi : 0 ≤ i ∧ i ≤ 7
  · have e : getF n i = (byt n i.toNat : Nat) := by unfold getF; rw [if_pos hi]
    obtain ⟨i', rfl⟩ := Int.eq_ofNat_of_zero_le hi.1
    rw [e]
    exact get_in n i' w h (by omega)
  · have e : getF n i = -1 := by unfold getF; rw [if_neg hi]
    rw [e]
    exact get_out n i w (by omega)
theorem empty_below (w : World) : Calls Tryd.prog 16 #[] w fun e w' => e = .returned (.int .u64 ((9259542123273814144 : Nat) : Int)) ∧ Below w.heap.size w w' := by
  go_enter Tryd.func16, Tryd.ntmps16
  go_wp2_with fail
  go_ret
  exact ⟨rfl, Below.refl _ _⟩
theorem count_to (p : Nat → Bool) (c : Int) (w : World) (h : ((cnt p : Nat) : Int) = c) : Calls Tryd.prog 19 #[.agg #[.int .u64 (mask p : Nat)]] w fun e w' => e = .returned (.int .i64 c) ∧ Below w.heap.size w w' := by
  subst h; exact count_mask p w
/-- the same at numbers that are known equal -/
theorem set_to (n : Nat) (i c : Int) (r : Nat) (w : World) (h : n < 18446744073709551616) (hr : setF n i c = r) : Calls Tryd.prog 18 #[.int .u64 n, .int .i64 i, .int .i64 c] w fun e w' => e = .returned (.int .u64 (r : Nat)) ∧ ∃ m, w' = w.drewN m := by
  subst hr; exact set_any n i c w h
theorem get_to (n : Nat) (i r : Int) (w : World) (h : n < 18446744073709551616) (hr : getF n i = r) : Calls Tryd.prog 22 #[.int .u64 n, .int .i64 i] w fun e w' => e = .returned (.int .i64 r) ∧ ∃ m, w' = w.drewN m := by
  subst hr; exact get_any n i w h
theorem has_is (p : Nat → Bool) (i : Nat) (b : Bool) (w : World) (hi : i < 8) (hp : p i = b) : Calls Tryd.prog 21 #[.agg #[.int .u64 (mask p : Nat)], .int .i64 i] w fun e w' => e = .returned (.bool b) ∧ Below w.heap.size w w' := by
  have := has_in (mask p) i w (mask_lt p) hi
  rw [has_mask p hi, hp] at this
  exact this
/-- the word of eight empty slots -/
theorem empty_any (w : World) : Calls Tryd.prog 16 #[] w fun e w' => e = .returned (.int .u64 ((9259542123273814144 : Nat) : Int)) ∧ Below w.heap.size w w' := by
  go_enter Tryd.func16, Tryd.ntmps16
  go_wp2_with fail
  go_ret
  exact ⟨rfl, Below.refl _ _⟩
end Go.Proofs.YtakmaedimelaaaaDoor
