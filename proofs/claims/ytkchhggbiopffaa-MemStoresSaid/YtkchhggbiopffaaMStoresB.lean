/- What is proved here: the walk of the law MemStores. Conditions: a string of at most maxLen bytes, numbers of their kinds. -/
import Derived.Test.YtkchhggbiopffaaMLaw
namespace Go.Proofs.Ytkchhggbiopffaa
set_option linter.unusedVariables false
set_option linter.unusedSimpArgs false
open Go.RowKit Pm
set_option maxHeartbeats 2000000 in
set_option maxRecDepth 100000 in
theorem stores_out4 (s : ByteArray) (off : Int) (v : Nat) (p : Int) (w : World) (hb_off : -9223372036854775808 ≤ off ∧ off ≤ 9223372036854775807) (hb : Hid (insF s.size off 4 = false)) (hs2 : s.size ≤ 134217728) : Calls Try.prog 10 #[.string s, .int .i64 off, .int .i64 4, .int .u64 v, .int .i64 p] w fun e w' => e = .returned (.bool true) ∧ Below w.heap.size w w' := by
  rcases (by omega : p < 0 ∨ (¬ p < 0 ∧ (s.size : Int) ≤ p) ∨ (0 ≤ p ∧ p < s.size)) with hp | ⟨hp, hp2⟩ | ⟨hp, hp2⟩
  · have hp4 : decide (p < 0) = true := decide_eq_true hp
    go_enter Try.func10, Try.ntmps10
    go_wp2_with fail
    refine (made_any s w hs2).mono ?_
    rintro e w' ⟨rfl, hM⟩
    replace hM := Lib.hid hM
    go_wp2_with (first | (go_at_call 19; first | ((with_reducible refine (lins_to s.size off _ false hb.out _ (by omega)).mono ?_); rintro e w' ⟨rfl, rfl⟩)) | (go_at_call 27; (with_reducible refine (ms_store_out hM.out off _ _ (by simp) hb.out).mono ?_); rintro e w' ⟨rfl, hM⟩; replace hM := Lib.hid hM) | (go_at_call 25; (with_reducible refine (ms_load_out hM.out off _ (by simp) hb.out).mono ?_); rintro e w' ⟨rfl, hM⟩; replace hM := Lib.hid hM))
    all_goals
      go_quiet (fail)
      go_wp2_with fail
      go_ret
      exact ⟨ret_bool (by first | rfl | (simp; done)), below_drewN hM.out.below _⟩
  · have hp3 : ¬ p < s.size := by omega
    have hp4 : decide (p < 0) = false := decide_eq_false hp
    have hp5 : decide ((s.size : Int) ≤ p) = true := decide_eq_true hp2
    go_enter Try.func10, Try.ntmps10
    go_wp2_with fail
    refine (made_any s w hs2).mono ?_
    rintro e w' ⟨rfl, hM⟩
    replace hM := Lib.hid hM
    go_wp2_with (first | (go_at_call 19; first | ((with_reducible refine (lins_to s.size off _ false hb.out _ (by omega)).mono ?_); rintro e w' ⟨rfl, rfl⟩)) | (go_at_call 27; (with_reducible refine (ms_store_out hM.out off _ _ (by simp) hb.out).mono ?_); rintro e w' ⟨rfl, hM⟩; replace hM := Lib.hid hM) | (go_at_call 25; (with_reducible refine (ms_load_out hM.out off _ (by simp) hb.out).mono ?_); rintro e w' ⟨rfl, hM⟩; replace hM := Lib.hid hM))
    all_goals
      go_quiet (fail)
      go_wp2_with fail
      go_ret
      exact ⟨ret_bool (by first | rfl | (simp; done)), below_drewN hM.out.below _⟩
  · obtain ⟨p, rfl⟩ := Int.eq_ofNat_of_zero_le hp
    have hlt : p < s.size := by omega
    have hsb : ((s[p]).toNat : Int) < 256 := by have := (s[p]).toNat_lt; omega
    have fw : IntKind.i64.wrap ((s[p]).toNat : Int) = (s[p]).toNat := IntWalk.i64_in _ (by omega)
    have hp4 : decide ((p : Int) < 0) = false := by simp
    have hp5 : decide ((s.size : Int) ≤ p) = false := by simp; omega
    have hp6 : decide (s.size ≤ p) = false := by simp; omega
    have hv : Hid (atF s.data.toList s.size p = (s[p]).toNat) := by
      unfold Hid; rw [atF_in _ _ _ hp2]; simp [hlt]; rfl
    replace fw := Lib.hid fw
    go_enter Try.func10, Try.ntmps10
    go_wp2_with fail
    refine (made_any s w hs2).mono ?_
    rintro e w' ⟨rfl, hM⟩
    replace hM := Lib.hid hM
    go_wp2_with (first | (go_at_call 19; first | ((with_reducible refine (lins_to s.size off _ false hb.out _ (by omega)).mono ?_); rintro e w' ⟨rfl, rfl⟩)) | (go_at_call 27; (with_reducible refine (ms_store_out hM.out off _ _ (by simp) hb.out).mono ?_); rintro e w' ⟨rfl, hM⟩; replace hM := Lib.hid hM) | (go_at_call 25; (with_reducible refine (ms_load_out hM.out off _ (by simp) hb.out).mono ?_); rintro e w' ⟨rfl, hM⟩; replace hM := Lib.hid hM))
    replace fw := fw.out
    go_region_held3 (fun w' => MS w (w.heap.size + 1) w.heap.size s.data.toList s.size w') (first | exact hM.out | exact hM.out.drew | exact hM.out.drewN _ | assumption) ((first | (go_at_call 22; (with_reducible refine (at_to (by first | exact hM.out | exact hM.out.drew | exact hM.out.drewN _ | assumption) p _ hv.out).mono ?_); rintro e w' ⟨rfl, hM⟩; replace hM := Lib.hid hM)))
    all_goals
      go_wp2_with fail
      go_ret
      exact ⟨ret_bool (by first | rfl | (simp; done) | (rw [IntWalk.i64_in _ (by omega)]; simp)), hM.out.below⟩
set_option maxHeartbeats 2000000 in
set_option maxRecDepth 100000 in
theorem stores_in4 (s : ByteArray) (off v p : Nat) (w : World) (hvv : Hid (v < 2 ^ 64)) (h2 : off + 4 ≤ s.size) (h5 : off ≤ p) (h6 : p < off + 4) (hs2 : s.size ≤ 134217728) : Calls Try.prog 10 #[.string s, .int .i64 off, .int .i64 4, .int .u64 v, .int .i64 p] w fun e w' => e = .returned (.bool true) ∧ Below w.heap.size w w' := by
  have hb : Hid (insF s.size off 4 = true) := ins_true (by omega) (by decide) (by omega)
  have hv0 : (0 : Int) ≤ v := by omega
  have hx : Hid ((leN (((splice s.data.toList off (leB 4 v)).drop off).take 4) : Int) = ((v : Int) % 4294967296)) := by
    have e := splice_mid s.data.toList off (leB 4 v) (by rw [leB_len]; simp; omega)
    rw [leB_len] at e
    unfold Hid; rw [e, leN_leB]
    simp
  obtain ⟨t, ht0⟩ : ∃ t : Nat, Hid (p = off + t) := ⟨p - off, by unfold Hid; omega⟩
  have ht : t < 4 := by have := ht0.out; omega
  have f1 : IntKind.i64.wrap ((p : Int) - off) = (t : Int) := by rw [IntWalk.i64_in _ (by omega)]; have := ht0.out; omega
  have f2 : IntKind.i64.wrap (8 * (t : Int)) = 8 * t := IntWalk.i64_in _ (by omega)
  have f3 : (0 : Int) ≤ 8 * t := by omega
  have hv : Hid (atF (splice s.data.toList off (leB 4 v)) s.size (p : Int) = ((v / 256 ^ t % 256 : Nat) : Int)) := by
    unfold Hid; rw [atF_in _ _ _ (by omega), splice_in _ _ _ (by rw [leB_len]; simp; omega) _ (by omega) (by rw [leB_len]; omega), show p - off = t by have := ht0.out; omega, leB_get? _ _ _ ht]
    simp
  replace f1 := Lib.hid f1
  replace f2 := Lib.hid f2
  go_enter Try.func10, Try.ntmps10
  go_wp2_with fail
  refine (made_any s w hs2).mono ?_
  rintro e w' ⟨rfl, hM⟩
  replace hM := Lib.hid hM
  go_wp2_with (first | (go_at_call 19; first | ((with_reducible refine (lins_to s.size off _ true hb.out _ (by omega)).mono ?_); rintro e w' ⟨rfl, rfl⟩)) | (go_at_call 27; (with_reducible refine (ms_store_to hM.out off 4 v _ (by decide) (by decide) (by omega) hvv.out).mono ?_); rintro e w' ⟨rfl, hM⟩; replace hM := Lib.hid hM) | (go_at_call 25; (with_reducible refine (ms_load_to hM.out off 4 _ (by decide) (by decide) (by omega) _ hx.out).mono ?_); rintro e w' ⟨rfl, hM⟩; replace hM := Lib.hid hM))
  replace f1 := f1.out
  replace f2 := f2.out
  go_region_held3 (fun w' => MS w (w.heap.size + 1) w.heap.size (splice s.data.toList off (leB 4 v)) s.size w') (first | exact hM.out | exact hM.out.drew | exact hM.out.drewN _ | assumption) ((first | (go_at_call 22; (with_reducible refine (at_to (by first | exact hM.out | exact hM.out.drew | exact hM.out.drewN _ | assumption) p _ hv.out).mono ?_); rintro e w' ⟨rfl, hM⟩; replace hM := Lib.hid hM)))
  all_goals
    go_wp2_with fail
    go_ret
    refine ⟨ret_bool ?_, hM.out.below⟩
    exact end_byte v 4 t _ (by simp) ht
set_option maxHeartbeats 2000000 in
set_option maxRecDepth 100000 in
theorem stores_by4 (s : ByteArray) (off v : Nat) (p : Int) (w : World) (hvv : Hid (v < 2 ^ 64)) (h2 : off + 4 ≤ s.size) (hq : p < off ∨ (off : Int) + 4 ≤ p) (hs2 : s.size ≤ 134217728) : Calls Try.prog 10 #[.string s, .int .i64 off, .int .i64 4, .int .u64 v, .int .i64 p] w fun e w' => e = .returned (.bool true) ∧ Below w.heap.size w w' := by
  have hb : Hid (insF s.size off 4 = true) := ins_true (by omega) (by decide) (by omega)
  have hv0 : (0 : Int) ≤ v := by omega
  have hx : Hid ((leN (((splice s.data.toList off (leB 4 v)).drop off).take 4) : Int) = ((v : Int) % 4294967296)) := by
    have e := splice_mid s.data.toList off (leB 4 v) (by rw [leB_len]; simp; omega)
    rw [leB_len] at e
    unfold Hid; rw [e, leN_leB]
    simp
  rcases hq with hq | hq
  all_goals
    rcases (by omega : p < 0 ∨ (¬ p < 0 ∧ (s.size : Int) ≤ p) ∨ (0 ≤ p ∧ p < s.size)) with hp | ⟨hp, hp2⟩ | ⟨hp, hp2⟩
    · have hp4 : decide (p < 0) = true := decide_eq_true hp
      go_enter Try.func10, Try.ntmps10
      go_wp2_with fail
      refine (made_any s w hs2).mono ?_
      rintro e w' ⟨rfl, hM⟩
      replace hM := Lib.hid hM
      go_wp2_with (first | (go_at_call 19; first | ((with_reducible refine (lins_to s.size off _ true hb.out _ (by omega)).mono ?_); rintro e w' ⟨rfl, rfl⟩)) | (go_at_call 27; (with_reducible refine (ms_store_to hM.out off 4 v _ (by decide) (by decide) (by omega) hvv.out).mono ?_); rintro e w' ⟨rfl, hM⟩; replace hM := Lib.hid hM) | (go_at_call 25; (with_reducible refine (ms_load_to hM.out off 4 _ (by decide) (by decide) (by omega) _ hx.out).mono ?_); rintro e w' ⟨rfl, hM⟩; replace hM := Lib.hid hM))
      all_goals
        go_quiet (fail)
        go_wp2_with fail
        go_ret
        exact ⟨ret_bool (by first | rfl | (simp; done)), below_drewN hM.out.below _⟩
    · have hp3 : ¬ p < s.size := by omega
      have hp4 : decide (p < 0) = false := decide_eq_false hp
      have hp5 : decide ((s.size : Int) ≤ p) = true := decide_eq_true hp2
      go_enter Try.func10, Try.ntmps10
      go_wp2_with fail
      refine (made_any s w hs2).mono ?_
      rintro e w' ⟨rfl, hM⟩
      replace hM := Lib.hid hM
      go_wp2_with (first | (go_at_call 19; first | ((with_reducible refine (lins_to s.size off _ true hb.out _ (by omega)).mono ?_); rintro e w' ⟨rfl, rfl⟩)) | (go_at_call 27; (with_reducible refine (ms_store_to hM.out off 4 v _ (by decide) (by decide) (by omega) hvv.out).mono ?_); rintro e w' ⟨rfl, hM⟩; replace hM := Lib.hid hM) | (go_at_call 25; (with_reducible refine (ms_load_to hM.out off 4 _ (by decide) (by decide) (by omega) _ hx.out).mono ?_); rintro e w' ⟨rfl, hM⟩; replace hM := Lib.hid hM))
      all_goals
        go_quiet (fail)
        go_wp2_with fail
        go_ret
        exact ⟨ret_bool (by first | rfl | (simp; done)), below_drewN hM.out.below _⟩
    · obtain ⟨p, rfl⟩ := Int.eq_ofNat_of_zero_le hp
      have hlt : p < s.size := by omega
      have hsb : ((s[p]).toNat : Int) < 256 := by have := (s[p]).toNat_lt; omega
      have fw : IntKind.i64.wrap ((s[p]).toNat : Int) = (s[p]).toNat := IntWalk.i64_in _ (by omega)
      have hp4 : decide ((p : Int) < 0) = false := by simp
      have hp5 : decide ((s.size : Int) ≤ p) = false := by simp; omega
      have hp6 : decide (s.size ≤ p) = false := by simp; omega
      have hv : Hid (atF (splice s.data.toList off (leB 4 v)) s.size p = (s[p]).toNat) := by
        unfold Hid; rw [atF_in _ _ _ hp2, splice_out _ _ _ (by rw [leB_len]; simp; omega) _ (by rw [leB_len]; omega)]; simp [hlt]; rfl
      replace fw := Lib.hid fw
      go_enter Try.func10, Try.ntmps10
      go_wp2_with fail
      refine (made_any s w hs2).mono ?_
      rintro e w' ⟨rfl, hM⟩
      replace hM := Lib.hid hM
      go_wp2_with (first | (go_at_call 19; first | ((with_reducible refine (lins_to s.size off _ true hb.out _ (by omega)).mono ?_); rintro e w' ⟨rfl, rfl⟩)) | (go_at_call 27; (with_reducible refine (ms_store_to hM.out off 4 v _ (by decide) (by decide) (by omega) hvv.out).mono ?_); rintro e w' ⟨rfl, hM⟩; replace hM := Lib.hid hM) | (go_at_call 25; (with_reducible refine (ms_load_to hM.out off 4 _ (by decide) (by decide) (by omega) _ hx.out).mono ?_); rintro e w' ⟨rfl, hM⟩; replace hM := Lib.hid hM))
      replace fw := fw.out
      go_region_held3 (fun w' => MS w (w.heap.size + 1) w.heap.size (splice s.data.toList off (leB 4 v)) s.size w') (first | exact hM.out | exact hM.out.drew | exact hM.out.drewN _ | assumption) ((first | (go_at_call 22; (with_reducible refine (at_to (by first | exact hM.out | exact hM.out.drew | exact hM.out.drewN _ | assumption) p _ hv.out).mono ?_); rintro e w' ⟨rfl, hM⟩; replace hM := Lib.hid hM)))
      all_goals
        go_wp2_with fail
        go_ret
        exact ⟨ret_bool (by first | rfl | (simp; done) | (rw [IntWalk.i64_in _ (by omega)]; simp)), hM.out.below⟩
set_option maxHeartbeats 2000000 in
set_option maxRecDepth 100000 in
theorem stores_out8 (s : ByteArray) (off : Int) (v : Nat) (p : Int) (w : World) (hb_off : -9223372036854775808 ≤ off ∧ off ≤ 9223372036854775807) (hb : Hid (insF s.size off 8 = false)) (hs2 : s.size ≤ 134217728) : Calls Try.prog 10 #[.string s, .int .i64 off, .int .i64 8, .int .u64 v, .int .i64 p] w fun e w' => e = .returned (.bool true) ∧ Below w.heap.size w w' := by
  rcases (by omega : p < 0 ∨ (¬ p < 0 ∧ (s.size : Int) ≤ p) ∨ (0 ≤ p ∧ p < s.size)) with hp | ⟨hp, hp2⟩ | ⟨hp, hp2⟩
  · have hp4 : decide (p < 0) = true := decide_eq_true hp
    go_enter Try.func10, Try.ntmps10
    go_wp2_with fail
    refine (made_any s w hs2).mono ?_
    rintro e w' ⟨rfl, hM⟩
    replace hM := Lib.hid hM
    go_wp2_with (first | (go_at_call 19; first | ((with_reducible refine (lins_to s.size off _ false hb.out _ (by omega)).mono ?_); rintro e w' ⟨rfl, rfl⟩)) | (go_at_call 27; (with_reducible refine (ms_store_out hM.out off _ _ (by simp) hb.out).mono ?_); rintro e w' ⟨rfl, hM⟩; replace hM := Lib.hid hM) | (go_at_call 25; (with_reducible refine (ms_load_out hM.out off _ (by simp) hb.out).mono ?_); rintro e w' ⟨rfl, hM⟩; replace hM := Lib.hid hM))
    all_goals
      go_quiet (fail)
      go_wp2_with fail
      go_ret
      exact ⟨ret_bool (by first | rfl | (simp; done)), below_drewN hM.out.below _⟩
  · have hp3 : ¬ p < s.size := by omega
    have hp4 : decide (p < 0) = false := decide_eq_false hp
    have hp5 : decide ((s.size : Int) ≤ p) = true := decide_eq_true hp2
    go_enter Try.func10, Try.ntmps10
    go_wp2_with fail
    refine (made_any s w hs2).mono ?_
    rintro e w' ⟨rfl, hM⟩
    replace hM := Lib.hid hM
    go_wp2_with (first | (go_at_call 19; first | ((with_reducible refine (lins_to s.size off _ false hb.out _ (by omega)).mono ?_); rintro e w' ⟨rfl, rfl⟩)) | (go_at_call 27; (with_reducible refine (ms_store_out hM.out off _ _ (by simp) hb.out).mono ?_); rintro e w' ⟨rfl, hM⟩; replace hM := Lib.hid hM) | (go_at_call 25; (with_reducible refine (ms_load_out hM.out off _ (by simp) hb.out).mono ?_); rintro e w' ⟨rfl, hM⟩; replace hM := Lib.hid hM))
    all_goals
      go_quiet (fail)
      go_wp2_with fail
      go_ret
      exact ⟨ret_bool (by first | rfl | (simp; done)), below_drewN hM.out.below _⟩
  · obtain ⟨p, rfl⟩ := Int.eq_ofNat_of_zero_le hp
    have hlt : p < s.size := by omega
    have hsb : ((s[p]).toNat : Int) < 256 := by have := (s[p]).toNat_lt; omega
    have fw : IntKind.i64.wrap ((s[p]).toNat : Int) = (s[p]).toNat := IntWalk.i64_in _ (by omega)
    have hp4 : decide ((p : Int) < 0) = false := by simp
    have hp5 : decide ((s.size : Int) ≤ p) = false := by simp; omega
    have hp6 : decide (s.size ≤ p) = false := by simp; omega
    have hv : Hid (atF s.data.toList s.size p = (s[p]).toNat) := by
      unfold Hid; rw [atF_in _ _ _ hp2]; simp [hlt]; rfl
    replace fw := Lib.hid fw
    go_enter Try.func10, Try.ntmps10
    go_wp2_with fail
    refine (made_any s w hs2).mono ?_
    rintro e w' ⟨rfl, hM⟩
    replace hM := Lib.hid hM
    go_wp2_with (first | (go_at_call 19; first | ((with_reducible refine (lins_to s.size off _ false hb.out _ (by omega)).mono ?_); rintro e w' ⟨rfl, rfl⟩)) | (go_at_call 27; (with_reducible refine (ms_store_out hM.out off _ _ (by simp) hb.out).mono ?_); rintro e w' ⟨rfl, hM⟩; replace hM := Lib.hid hM) | (go_at_call 25; (with_reducible refine (ms_load_out hM.out off _ (by simp) hb.out).mono ?_); rintro e w' ⟨rfl, hM⟩; replace hM := Lib.hid hM))
    replace fw := fw.out
    go_region_held3 (fun w' => MS w (w.heap.size + 1) w.heap.size s.data.toList s.size w') (first | exact hM.out | exact hM.out.drew | exact hM.out.drewN _ | assumption) ((first | (go_at_call 22; (with_reducible refine (at_to (by first | exact hM.out | exact hM.out.drew | exact hM.out.drewN _ | assumption) p _ hv.out).mono ?_); rintro e w' ⟨rfl, hM⟩; replace hM := Lib.hid hM)))
    all_goals
      go_wp2_with fail
      go_ret
      exact ⟨ret_bool (by first | rfl | (simp; done) | (rw [IntWalk.i64_in _ (by omega)]; simp)), hM.out.below⟩
set_option maxHeartbeats 2000000 in
set_option maxRecDepth 100000 in
theorem stores_in8 (s : ByteArray) (off v p : Nat) (w : World) (hvv : Hid (v < 2 ^ 64)) (h2 : off + 8 ≤ s.size) (h5 : off ≤ p) (h6 : p < off + 8) (hs2 : s.size ≤ 134217728) : Calls Try.prog 10 #[.string s, .int .i64 off, .int .i64 8, .int .u64 v, .int .i64 p] w fun e w' => e = .returned (.bool true) ∧ Below w.heap.size w w' := by
  have hb : Hid (insF s.size off 8 = true) := ins_true (by omega) (by decide) (by omega)
  have hv0 : (0 : Int) ≤ v := by omega
  have hx : Hid ((leN (((splice s.data.toList off (leB 8 v)).drop off).take 8) : Int) = (v : Int)) := by
    have e := splice_mid s.data.toList off (leB 8 v) (by rw [leB_len]; simp; omega)
    rw [leB_len] at e
    unfold Hid; rw [e, leN_leB]
    rw [Nat.mod_eq_of_lt (by have := hvv.out; omega)]
  obtain ⟨t, ht0⟩ : ∃ t : Nat, Hid (p = off + t) := ⟨p - off, by unfold Hid; omega⟩
  have ht : t < 8 := by have := ht0.out; omega
  have f1 : IntKind.i64.wrap ((p : Int) - off) = (t : Int) := by rw [IntWalk.i64_in _ (by omega)]; have := ht0.out; omega
  have f2 : IntKind.i64.wrap (8 * (t : Int)) = 8 * t := IntWalk.i64_in _ (by omega)
  have f3 : (0 : Int) ≤ 8 * t := by omega
  have hv : Hid (atF (splice s.data.toList off (leB 8 v)) s.size (p : Int) = ((v / 256 ^ t % 256 : Nat) : Int)) := by
    unfold Hid; rw [atF_in _ _ _ (by omega), splice_in _ _ _ (by rw [leB_len]; simp; omega) _ (by omega) (by rw [leB_len]; omega), show p - off = t by have := ht0.out; omega, leB_get? _ _ _ ht]
    simp
  replace f1 := Lib.hid f1
  replace f2 := Lib.hid f2
  go_enter Try.func10, Try.ntmps10
  go_wp2_with fail
  refine (made_any s w hs2).mono ?_
  rintro e w' ⟨rfl, hM⟩
  replace hM := Lib.hid hM
  go_wp2_with (first | (go_at_call 19; first | ((with_reducible refine (lins_to s.size off _ true hb.out _ (by omega)).mono ?_); rintro e w' ⟨rfl, rfl⟩)) | (go_at_call 27; (with_reducible refine (ms_store_to hM.out off 8 v _ (by decide) (by decide) (by omega) hvv.out).mono ?_); rintro e w' ⟨rfl, hM⟩; replace hM := Lib.hid hM) | (go_at_call 25; (with_reducible refine (ms_load_to hM.out off 8 _ (by decide) (by decide) (by omega) _ hx.out).mono ?_); rintro e w' ⟨rfl, hM⟩; replace hM := Lib.hid hM))
  replace f1 := f1.out
  replace f2 := f2.out
  go_region_held3 (fun w' => MS w (w.heap.size + 1) w.heap.size (splice s.data.toList off (leB 8 v)) s.size w') (first | exact hM.out | exact hM.out.drew | exact hM.out.drewN _ | assumption) ((first | (go_at_call 22; (with_reducible refine (at_to (by first | exact hM.out | exact hM.out.drew | exact hM.out.drewN _ | assumption) p _ hv.out).mono ?_); rintro e w' ⟨rfl, hM⟩; replace hM := Lib.hid hM)))
  all_goals
    go_wp2_with fail
    go_ret
    refine ⟨ret_bool ?_, hM.out.below⟩
    exact end_byte v 8 t _ (by rw [Nat.mod_eq_of_lt (by have := hvv.out; omega)]) ht
set_option maxHeartbeats 2000000 in
set_option maxRecDepth 100000 in
theorem stores_by8 (s : ByteArray) (off v : Nat) (p : Int) (w : World) (hvv : Hid (v < 2 ^ 64)) (h2 : off + 8 ≤ s.size) (hq : p < off ∨ (off : Int) + 8 ≤ p) (hs2 : s.size ≤ 134217728) : Calls Try.prog 10 #[.string s, .int .i64 off, .int .i64 8, .int .u64 v, .int .i64 p] w fun e w' => e = .returned (.bool true) ∧ Below w.heap.size w w' := by
  have hb : Hid (insF s.size off 8 = true) := ins_true (by omega) (by decide) (by omega)
  have hv0 : (0 : Int) ≤ v := by omega
  have hx : Hid ((leN (((splice s.data.toList off (leB 8 v)).drop off).take 8) : Int) = (v : Int)) := by
    have e := splice_mid s.data.toList off (leB 8 v) (by rw [leB_len]; simp; omega)
    rw [leB_len] at e
    unfold Hid; rw [e, leN_leB]
    rw [Nat.mod_eq_of_lt (by have := hvv.out; omega)]
  rcases hq with hq | hq
  all_goals
    rcases (by omega : p < 0 ∨ (¬ p < 0 ∧ (s.size : Int) ≤ p) ∨ (0 ≤ p ∧ p < s.size)) with hp | ⟨hp, hp2⟩ | ⟨hp, hp2⟩
    · have hp4 : decide (p < 0) = true := decide_eq_true hp
      go_enter Try.func10, Try.ntmps10
      go_wp2_with fail
      refine (made_any s w hs2).mono ?_
      rintro e w' ⟨rfl, hM⟩
      replace hM := Lib.hid hM
      go_wp2_with (first | (go_at_call 19; first | ((with_reducible refine (lins_to s.size off _ true hb.out _ (by omega)).mono ?_); rintro e w' ⟨rfl, rfl⟩)) | (go_at_call 27; (with_reducible refine (ms_store_to hM.out off 8 v _ (by decide) (by decide) (by omega) hvv.out).mono ?_); rintro e w' ⟨rfl, hM⟩; replace hM := Lib.hid hM) | (go_at_call 25; (with_reducible refine (ms_load_to hM.out off 8 _ (by decide) (by decide) (by omega) _ hx.out).mono ?_); rintro e w' ⟨rfl, hM⟩; replace hM := Lib.hid hM))
      all_goals
        go_quiet (fail)
        go_wp2_with fail
        go_ret
        exact ⟨ret_bool (by first | rfl | (simp; done)), below_drewN hM.out.below _⟩
    · have hp3 : ¬ p < s.size := by omega
      have hp4 : decide (p < 0) = false := decide_eq_false hp
      have hp5 : decide ((s.size : Int) ≤ p) = true := decide_eq_true hp2
      go_enter Try.func10, Try.ntmps10
      go_wp2_with fail
      refine (made_any s w hs2).mono ?_
      rintro e w' ⟨rfl, hM⟩
      replace hM := Lib.hid hM
      go_wp2_with (first | (go_at_call 19; first | ((with_reducible refine (lins_to s.size off _ true hb.out _ (by omega)).mono ?_); rintro e w' ⟨rfl, rfl⟩)) | (go_at_call 27; (with_reducible refine (ms_store_to hM.out off 8 v _ (by decide) (by decide) (by omega) hvv.out).mono ?_); rintro e w' ⟨rfl, hM⟩; replace hM := Lib.hid hM) | (go_at_call 25; (with_reducible refine (ms_load_to hM.out off 8 _ (by decide) (by decide) (by omega) _ hx.out).mono ?_); rintro e w' ⟨rfl, hM⟩; replace hM := Lib.hid hM))
      all_goals
        go_quiet (fail)
        go_wp2_with fail
        go_ret
        exact ⟨ret_bool (by first | rfl | (simp; done)), below_drewN hM.out.below _⟩
    · obtain ⟨p, rfl⟩ := Int.eq_ofNat_of_zero_le hp
      have hlt : p < s.size := by omega
      have hsb : ((s[p]).toNat : Int) < 256 := by have := (s[p]).toNat_lt; omega
      have fw : IntKind.i64.wrap ((s[p]).toNat : Int) = (s[p]).toNat := IntWalk.i64_in _ (by omega)
      have hp4 : decide ((p : Int) < 0) = false := by simp
      have hp5 : decide ((s.size : Int) ≤ p) = false := by simp; omega
      have hp6 : decide (s.size ≤ p) = false := by simp; omega
      have hv : Hid (atF (splice s.data.toList off (leB 8 v)) s.size p = (s[p]).toNat) := by
        unfold Hid; rw [atF_in _ _ _ hp2, splice_out _ _ _ (by rw [leB_len]; simp; omega) _ (by rw [leB_len]; omega)]; simp [hlt]; rfl
      replace fw := Lib.hid fw
      go_enter Try.func10, Try.ntmps10
      go_wp2_with fail
      refine (made_any s w hs2).mono ?_
      rintro e w' ⟨rfl, hM⟩
      replace hM := Lib.hid hM
      go_wp2_with (first | (go_at_call 19; first | ((with_reducible refine (lins_to s.size off _ true hb.out _ (by omega)).mono ?_); rintro e w' ⟨rfl, rfl⟩)) | (go_at_call 27; (with_reducible refine (ms_store_to hM.out off 8 v _ (by decide) (by decide) (by omega) hvv.out).mono ?_); rintro e w' ⟨rfl, hM⟩; replace hM := Lib.hid hM) | (go_at_call 25; (with_reducible refine (ms_load_to hM.out off 8 _ (by decide) (by decide) (by omega) _ hx.out).mono ?_); rintro e w' ⟨rfl, hM⟩; replace hM := Lib.hid hM))
      replace fw := fw.out
      go_region_held3 (fun w' => MS w (w.heap.size + 1) w.heap.size (splice s.data.toList off (leB 8 v)) s.size w') (first | exact hM.out | exact hM.out.drew | exact hM.out.drewN _ | assumption) ((first | (go_at_call 22; (with_reducible refine (at_to (by first | exact hM.out | exact hM.out.drew | exact hM.out.drewN _ | assumption) p _ hv.out).mono ?_); rintro e w' ⟨rfl, hM⟩; replace hM := Lib.hid hM)))
      all_goals
        go_wp2_with fail
        go_ret
        exact ⟨ret_bool (by first | rfl | (simp; done) | (rw [IntWalk.i64_in _ (by omega)]; simp)), hM.out.below⟩
end Go.Proofs.Ytkchhggbiopffaa
