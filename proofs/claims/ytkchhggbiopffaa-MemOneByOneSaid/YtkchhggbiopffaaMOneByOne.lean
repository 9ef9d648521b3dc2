/- What is proved here: the walk of the law MemOneByOne. Conditions: a string of at most maxLen bytes, numbers of their kinds. -/
import Derived.Test.YtkchhggbiopffaaMLaw
namespace Go.Proofs.Ytkchhggbiopffaa
set_option linter.unusedVariables false
set_option linter.unusedSimpArgs false
open Go.RowKit Pm
set_option maxHeartbeats 2000000 in
set_option maxRecDepth 100000 in
theorem one_1in (s : ByteArray) (off : Nat) (w : World) (h2 : off < s.size) (hs2 : s.size ≤ 134217728) : Calls Try.prog 8 #[.string s, .int .i64 off, .int .i64 1] w fun e w' => e = .returned (.bool true) ∧ Below w.heap.size w w' := by
  have hsb : ((s[off]).toNat : Int) < 256 := by have := (s[off]).toNat_lt; omega
  have hx : Hid (leN ((s.data.toList.drop off).take 1) = (s[off]).toNat) := leN_one _ _ _ (by simp [h2]; rfl)
  have hw : IntKind.u64.wrap ((s[off]).toNat : Int) = (s[off]).toNat := by rw [wrap_u64]; omega
  replace hw := Lib.hid hw
  go_enter Try.func8, Try.ntmps8
  go_wp2_with fail
  refine (made_any s w hs2).mono ?_
  rintro e w' ⟨rfl, hM⟩
  replace hM := Lib.hid hM
  go_wp2_with (first | (go_at_call 25; (with_reducible refine (ms_load_any hM.out off 1 _ _ rfl (by decide) (by decide) (by omega) _ hx.out).mono ?_); rintro e w' ⟨rfl, hM⟩; replace hM := Lib.hid hM))
  go_ret
  exact ⟨ret_bool (by first | rfl | (simp; done) | (rw [hw.out]; simp)), hM.out.below⟩
set_option maxHeartbeats 2000000 in
set_option maxRecDepth 100000 in
theorem one_1out (s : ByteArray) (off : Int) (w : World) (hb_off : -9223372036854775808 ≤ off ∧ off ≤ 9223372036854775807) (h2 : ¬ (0 ≤ off ∧ off < s.size)) (hs2 : s.size ≤ 134217728) : Calls Try.prog 8 #[.string s, .int .i64 off, .int .i64 1] w fun e w' => e = .returned (.bool true) ∧ Below w.heap.size w w' := by
  have hb : Hid (insF s.size off 1 = false) := ins_false (by omega)
  rcases (by omega : off < 0 ∨ (¬ off < 0 ∧ (s.size : Int) ≤ off)) with hp | ⟨hp, hp2⟩
  all_goals
    clear h2
    go_enter Try.func8, Try.ntmps8
    go_wp2_with fail
    refine (made_any s w hs2).mono ?_
    rintro e w' ⟨rfl, hM⟩
    replace hM := Lib.hid hM
    go_wp2_with (first | (go_at_call 25; (with_reducible refine (ms_load_out hM.out off _ (by simp) hb.out).mono ?_); rintro e w' ⟨rfl, hM⟩; replace hM := Lib.hid hM))
    go_ret
    exact ⟨ret_bool (by first | rfl | (simp; done) | (rw [IntWalk.i64_in _ (by omega)]; simp)), hM.out.below⟩
set_option maxHeartbeats 2000000 in
set_option maxRecDepth 100000 in
theorem one_width (s : ByteArray) (off k : Int) (w : World) (hb_off : -9223372036854775808 ≤ off ∧ off ≤ 9223372036854775807) (hb_k : -9223372036854775808 ≤ k ∧ k ≤ 9223372036854775807) (hk : ¬ (k = 1 ∨ k = 2 ∨ k = 4 ∨ k = 8)) (hs2 : s.size ≤ 134217728) : Calls Try.prog 8 #[.string s, .int .i64 off, .int .i64 k] w fun e w' => e = .returned (.bool true) ∧ Below w.heap.size w w' := by
  have k1 : (k == 1) = false := by simp; omega
  have k2 : (k != 2) = true := by simp; omega
  have k4 : (k != 4) = true := by simp; omega
  have k8 : (k != 8) = true := by simp; omega
  replace hk := Lib.hid hk
  go_enter Try.func8, Try.ntmps8
  go_wp2_with fail
  refine (made_any s w hs2).mono ?_
  rintro e w' ⟨rfl, hM⟩
  replace hM := Lib.hid hM
  go_wp2_with (first | (go_at_call 25; (with_reducible refine (ms_load_width hM.out off k hk.out).mono ?_); rintro e w' ⟨rfl, hM⟩; replace hM := Lib.hid hM))
  go_ret
  exact ⟨ret_bool (by first | rfl | (simp; done) | (rw [IntWalk.i64_in _ (by omega)]; simp)), hM.out.below⟩
set_option maxHeartbeats 2000000 in
set_option maxRecDepth 100000 in
theorem one_out2 (s : ByteArray) (off : Int) (w : World) (hb_off : -9223372036854775808 ≤ off ∧ off ≤ 9223372036854775807) (hb : Hid (insF s.size off 2 = false)) (hs2 : s.size ≤ 134217728) : Calls Try.prog 8 #[.string s, .int .i64 off, .int .i64 2] w fun e w' => e = .returned (.bool true) ∧ Below w.heap.size w w' := by
  go_enter Try.func8, Try.ntmps8
  go_wp2_with fail
  refine (made_any s w hs2).mono ?_
  rintro e w' ⟨rfl, hM⟩
  replace hM := Lib.hid hM
  go_wp2_with (first | (go_at_call 19; first | ((with_reducible refine (lins_to s.size off _ false hb.out _ (by omega)).mono ?_); rintro e w' ⟨rfl, rfl⟩)) | (go_at_call 25; (with_reducible refine (ms_load_out hM.out off _ (by simp) hb.out).mono ?_); rintro e w' ⟨rfl, hM⟩; replace hM := Lib.hid hM))
  go_ret
  exact ⟨ret_bool (by first | rfl | (simp; done) | (rw [IntWalk.i64_in _ (by omega)]; simp)), hM.out.below⟩
set_option maxHeartbeats 2000000 in
set_option maxRecDepth 100000 in
theorem one_in2 (s : ByteArray) (off : Nat) (w : World) (h2 : off + 2 ≤ s.size) (hs2 : s.size ≤ 134217728) : Calls Try.prog 8 #[.string s, .int .i64 off, .int .i64 2] w fun e w' => e = .returned (.bool true) ∧ Below w.heap.size w w' := by
  have hb : Hid (insF s.size off 2 = true) := ins_true (by omega) (by decide) (by omega)
  obtain ⟨lo, hlo⟩ : ∃ x, Hid (leN ((s.data.toList.drop off).take 1) = x) := ⟨_, rfl⟩
  obtain ⟨hi, hhi⟩ : ∃ x, Hid (leN ((s.data.toList.drop (off + 1)).take 1) = x) := ⟨_, rfl⟩
  obtain ⟨v, hv⟩ : ∃ x, Hid (leN ((s.data.toList.drop off).take 2) = x) := ⟨_, rfl⟩
  have hve : Hid (v = lo + 256 * hi) := by
    have e := leN_halves s.data.toList off 1 (by simp; omega)
    rw [show 2 * 1 = 2 from rfl, hv.out, hlo.out, hhi.out] at e
    exact e
  have l1 : lo < 256 := by have := leN_take_lt (s.data.toList.drop off) 1; rw [hlo.out] at this; exact this
  have l2 : hi < 256 := by have := leN_take_lt (s.data.toList.drop (off + 1)) 1; rw [hhi.out] at this; exact this
  go_enter Try.func8, Try.ntmps8
  go_wp2_with fail
  refine (made_any s w hs2).mono ?_
  rintro e w' ⟨rfl, hM⟩
  replace hM := Lib.hid hM
  go_wp2_with (first | (go_at_call 19; first | ((with_reducible refine (lins_to s.size off _ true hb.out _ (by omega)).mono ?_); rintro e w' ⟨rfl, rfl⟩)) | (go_at_call 25; first | ((with_reducible refine (ms_load_any hM.out off 2 _ _ rfl (by decide) (by decide) (by omega) _ hv.out).mono ?_); rintro e w' ⟨rfl, hM⟩; replace hM := Lib.hid hM) | ((with_reducible refine (ms_load_any hM.out off 1 _ _ rfl (by decide) (by decide) (by omega) _ hlo.out).mono ?_); rintro e w' ⟨rfl, hM⟩; replace hM := Lib.hid hM) | ((with_reducible refine (ms_load_any hM.out (off + 1) 1 _ _ (by omega) (by decide) (by decide) (by omega) _ hhi.out).mono ?_); rintro e w' ⟨rfl, hM⟩; replace hM := Lib.hid hM)))
  go_ret
  exact ⟨ret_bool (by rw [beq_iff_eq]; have := hve.out; omega), hM.out.below⟩
set_option maxHeartbeats 2000000 in
set_option maxRecDepth 100000 in
theorem one_out4 (s : ByteArray) (off : Int) (w : World) (hb_off : -9223372036854775808 ≤ off ∧ off ≤ 9223372036854775807) (hb : Hid (insF s.size off 4 = false)) (hs2 : s.size ≤ 134217728) : Calls Try.prog 8 #[.string s, .int .i64 off, .int .i64 4] w fun e w' => e = .returned (.bool true) ∧ Below w.heap.size w w' := by
  go_enter Try.func8, Try.ntmps8
  go_wp2_with fail
  refine (made_any s w hs2).mono ?_
  rintro e w' ⟨rfl, hM⟩
  replace hM := Lib.hid hM
  go_wp2_with (first | (go_at_call 19; first | ((with_reducible refine (lins_to s.size off _ false hb.out _ (by omega)).mono ?_); rintro e w' ⟨rfl, rfl⟩)) | (go_at_call 25; (with_reducible refine (ms_load_out hM.out off _ (by simp) hb.out).mono ?_); rintro e w' ⟨rfl, hM⟩; replace hM := Lib.hid hM))
  go_ret
  exact ⟨ret_bool (by first | rfl | (simp; done) | (rw [IntWalk.i64_in _ (by omega)]; simp)), hM.out.below⟩
set_option maxHeartbeats 2000000 in
set_option maxRecDepth 100000 in
theorem one_in4 (s : ByteArray) (off : Nat) (w : World) (h2 : off + 4 ≤ s.size) (hs2 : s.size ≤ 134217728) : Calls Try.prog 8 #[.string s, .int .i64 off, .int .i64 4] w fun e w' => e = .returned (.bool true) ∧ Below w.heap.size w w' := by
  have hb : Hid (insF s.size off 4 = true) := ins_true (by omega) (by decide) (by omega)
  obtain ⟨lo, hlo⟩ : ∃ x, Hid (leN ((s.data.toList.drop off).take 2) = x) := ⟨_, rfl⟩
  obtain ⟨hi, hhi⟩ : ∃ x, Hid (leN ((s.data.toList.drop (off + 2)).take 2) = x) := ⟨_, rfl⟩
  obtain ⟨v, hv⟩ : ∃ x, Hid (leN ((s.data.toList.drop off).take 4) = x) := ⟨_, rfl⟩
  have hve : Hid (v = lo + 65536 * hi) := by
    have e := leN_halves s.data.toList off 2 (by simp; omega)
    rw [show 2 * 2 = 4 from rfl, hv.out, hlo.out, hhi.out] at e
    exact e
  have l1 : lo < 65536 := by have := leN_take_lt (s.data.toList.drop off) 2; rw [hlo.out] at this; exact this
  have l2 : hi < 65536 := by have := leN_take_lt (s.data.toList.drop (off + 2)) 2; rw [hhi.out] at this; exact this
  go_enter Try.func8, Try.ntmps8
  go_wp2_with fail
  refine (made_any s w hs2).mono ?_
  rintro e w' ⟨rfl, hM⟩
  replace hM := Lib.hid hM
  go_wp2_with (first | (go_at_call 19; first | ((with_reducible refine (lins_to s.size off _ true hb.out _ (by omega)).mono ?_); rintro e w' ⟨rfl, rfl⟩)) | (go_at_call 25; first | ((with_reducible refine (ms_load_any hM.out off 4 _ _ rfl (by decide) (by decide) (by omega) _ hv.out).mono ?_); rintro e w' ⟨rfl, hM⟩; replace hM := Lib.hid hM) | ((with_reducible refine (ms_load_any hM.out off 2 _ _ rfl (by decide) (by decide) (by omega) _ hlo.out).mono ?_); rintro e w' ⟨rfl, hM⟩; replace hM := Lib.hid hM) | ((with_reducible refine (ms_load_any hM.out (off + 2) 2 _ _ (by omega) (by decide) (by decide) (by omega) _ hhi.out).mono ?_); rintro e w' ⟨rfl, hM⟩; replace hM := Lib.hid hM)))
  go_ret
  exact ⟨ret_bool (by rw [beq_iff_eq]; have := hve.out; omega), hM.out.below⟩
set_option maxHeartbeats 2000000 in
set_option maxRecDepth 100000 in
theorem one_out8 (s : ByteArray) (off : Int) (w : World) (hb_off : -9223372036854775808 ≤ off ∧ off ≤ 9223372036854775807) (hb : Hid (insF s.size off 8 = false)) (hs2 : s.size ≤ 134217728) : Calls Try.prog 8 #[.string s, .int .i64 off, .int .i64 8] w fun e w' => e = .returned (.bool true) ∧ Below w.heap.size w w' := by
  go_enter Try.func8, Try.ntmps8
  go_wp2_with fail
  refine (made_any s w hs2).mono ?_
  rintro e w' ⟨rfl, hM⟩
  replace hM := Lib.hid hM
  go_wp2_with (first | (go_at_call 19; first | ((with_reducible refine (lins_to s.size off _ false hb.out _ (by omega)).mono ?_); rintro e w' ⟨rfl, rfl⟩)) | (go_at_call 25; (with_reducible refine (ms_load_out hM.out off _ (by simp) hb.out).mono ?_); rintro e w' ⟨rfl, hM⟩; replace hM := Lib.hid hM))
  go_ret
  exact ⟨ret_bool (by first | rfl | (simp; done) | (rw [IntWalk.i64_in _ (by omega)]; simp)), hM.out.below⟩
set_option maxHeartbeats 2000000 in
set_option maxRecDepth 100000 in
theorem one_in8 (s : ByteArray) (off : Nat) (w : World) (h2 : off + 8 ≤ s.size) (hs2 : s.size ≤ 134217728) : Calls Try.prog 8 #[.string s, .int .i64 off, .int .i64 8] w fun e w' => e = .returned (.bool true) ∧ Below w.heap.size w w' := by
  have hb : Hid (insF s.size off 8 = true) := ins_true (by omega) (by decide) (by omega)
  obtain ⟨lo, hlo⟩ : ∃ x, Hid (leN ((s.data.toList.drop off).take 4) = x) := ⟨_, rfl⟩
  obtain ⟨hi, hhi⟩ : ∃ x, Hid (leN ((s.data.toList.drop (off + 4)).take 4) = x) := ⟨_, rfl⟩
  obtain ⟨v, hv⟩ : ∃ x, Hid (leN ((s.data.toList.drop off).take 8) = x) := ⟨_, rfl⟩
  have hve : Hid (v = lo + 4294967296 * hi) := by
    have e := leN_halves s.data.toList off 4 (by simp; omega)
    rw [show 2 * 4 = 8 from rfl, hv.out, hlo.out, hhi.out] at e
    exact e
  have l1 : lo < 4294967296 := by have := leN_take_lt (s.data.toList.drop off) 4; rw [hlo.out] at this; exact this
  have l2 : hi < 4294967296 := by have := leN_take_lt (s.data.toList.drop (off + 4)) 4; rw [hhi.out] at this; exact this
  go_enter Try.func8, Try.ntmps8
  go_wp2_with fail
  refine (made_any s w hs2).mono ?_
  rintro e w' ⟨rfl, hM⟩
  replace hM := Lib.hid hM
  go_wp2_with (first | (go_at_call 19; first | ((with_reducible refine (lins_to s.size off _ true hb.out _ (by omega)).mono ?_); rintro e w' ⟨rfl, rfl⟩)) | (go_at_call 25; first | ((with_reducible refine (ms_load_any hM.out off 8 _ _ rfl (by decide) (by decide) (by omega) _ hv.out).mono ?_); rintro e w' ⟨rfl, hM⟩; replace hM := Lib.hid hM) | ((with_reducible refine (ms_load_any hM.out off 4 _ _ rfl (by decide) (by decide) (by omega) _ hlo.out).mono ?_); rintro e w' ⟨rfl, hM⟩; replace hM := Lib.hid hM) | ((with_reducible refine (ms_load_any hM.out (off + 4) 4 _ _ (by omega) (by decide) (by decide) (by omega) _ hhi.out).mono ?_); rintro e w' ⟨rfl, hM⟩; replace hM := Lib.hid hM)))
  go_ret
  exact ⟨ret_bool (by rw [beq_iff_eq]; have := hve.out; omega), hM.out.below⟩
set_option maxHeartbeats 2000000 in
set_option maxRecDepth 100000 in
theorem oneByOne_all (s : ByteArray) (off k : Int) (w : World) (hb_off : -9223372036854775808 ≤ off ∧ off ≤ 9223372036854775807) (hb_k : -9223372036854775808 ≤ k ∧ k ≤ 9223372036854775807) (hs : s.size ≤ maxLen) : Calls Try.prog 8 #[.string s, .int .i64 off, .int .i64 k] w fun e w' => e = .returned (.bool true) ∧ Below w.heap.size w w' := by
  have hs0 := Lib.hid hs
  unfold maxLen at hs
  by_cases hbig : 134217728 < s.size
  · have hbig2 : (134217728 : Int) < s.size := by omega
    go_enter Try.func8, Try.ntmps8
    go_wp2_with (go_at_call 16; (with_reducible refine (made_no s _ hbig hs0.out).mono ?_); rintro e w' ⟨rfl, rfl⟩)
    go_ret
    exact ⟨ret_bool (by first | rfl | simp), Below.refl _ _⟩
  have hs2 : s.size ≤ 134217728 := by omega
  clear hs hbig
  by_cases h1 : k = 1
  · subst h1
    by_cases h2 : 0 ≤ off ∧ off < s.size
    · obtain ⟨h3, h4⟩ := h2
      obtain ⟨off, rfl⟩ := Int.eq_ofNat_of_zero_le h3
      exact one_1in s off w (by omega) hs2
    · exact one_1out s off w hb_off h2 hs2
  by_cases hk : k = 2 ∨ k = 4 ∨ k = 8
  rotate_left
  · exact one_width s off k w hb_off hb_k (by omega) hs2
  by_cases hi : 0 ≤ off ∧ 0 ≤ k ∧ off + k ≤ s.size
  rotate_left
  · have hb : Hid (insF s.size off k = false) := ins_false hi
    rcases hk with rfl | rfl | rfl
    · exact one_out2 s off w hb_off hb hs2
    · exact one_out4 s off w hb_off hb hs2
    · exact one_out8 s off w hb_off hb hs2
  obtain ⟨h0, _, h2⟩ := hi
  obtain ⟨off, rfl⟩ := Int.eq_ofNat_of_zero_le h0
  rcases hk with rfl | rfl | rfl
  · exact one_in2 s off w (by omega) hs2
  · exact one_in4 s off w (by omega) hs2
  · exact one_in8 s off w (by omega) hs2
end Go.Proofs.Ytkchhggbiopffaa
