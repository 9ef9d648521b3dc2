/- What is proved here: the walk of the law MemGrows. Conditions: a string of at most maxLen bytes, numbers of their kinds. -/
import Derived.Test.YtkchhggbiopffaaMLaw
namespace Go.Proofs.Ytkchhggbiopffaa
set_option linter.unusedVariables false
set_option linter.unusedSimpArgs false
open Go.RowKit Pm
set_option maxHeartbeats 2000000 in
set_option maxRecDepth 100000 in
theorem grows_all (s : ByteArray) (size p : Int) (w : World) (hb_size : -9223372036854775808 ≤ size ∧ size ≤ 9223372036854775807) (hb_p : -9223372036854775808 ≤ p ∧ p ≤ 9223372036854775807) (hs : s.size ≤ maxLen) : Calls Try.prog 9 #[.string s, .int .i64 size, .int .i64 p] w fun e w' => e = .returned (.bool true) ∧ Below w.heap.size w w' := by
  have hs0 := Lib.hid hs
  unfold maxLen at hs
  by_cases hbig : 134217728 < s.size
  · have hbig2 : (134217728 : Int) < s.size := by omega
    go_enter Try.func9, Try.ntmps9
    go_wp2_with (go_at_call 16; (with_reducible refine (made_no s _ hbig hs0.out).mono ?_); rintro e w' ⟨rfl, rfl⟩)
    go_ret
    exact ⟨ret_bool (by first | rfl | simp), Below.refl _ _⟩
  have hs2 : s.size ≤ 134217728 := by omega
  clear hs hbig
  by_cases hg : size < s.size ∨ 134217728 < size
  · obtain ⟨v, hv⟩ : ∃ v, Hid (atF s.data.toList s.size p = v) := ⟨_, rfl⟩
    have hbad := Lib.hid hg
    rcases (by omega : size < s.size ∨ (¬ size < s.size ∧ 134217728 < size)) with h1 | ⟨h1, h2⟩
    all_goals
      clear hg
      go_enter Try.func9, Try.ntmps9
      go_wp2_with fail
      refine (made_any s w hs2).mono ?_
      rintro e w' ⟨rfl, hM⟩
      replace hM := Lib.hid hM
      go_wp2_with (first | (go_at_call 26; (with_reducible refine (ms_grow_no hM.out size hbad.out).mono ?_); rintro e w' ⟨rfl, hM⟩; replace hM := Lib.hid hM) | (go_at_call 14; (with_reducible refine (ms_len hM.out).mono ?_); rintro e w' ⟨rfl, hM⟩; replace hM := Lib.hid hM) | (go_at_call 22; (with_reducible refine (at_to hM.out p _ hv.out).mono ?_); rintro e w' ⟨rfl, hM⟩; replace hM := Lib.hid hM))
      go_ret
      exact ⟨ret_bool (by first | rfl | (simp; done) | (rw [IntWalk.i64_in _ (by omega)]; simp)), hM.out.below⟩
  · obtain ⟨size, rfl⟩ := Int.eq_ofNat_of_zero_le (by omega : 0 ≤ size)
    have g1 : s.size ≤ size := by omega
    have g2 : size ≤ 134217728 := by omega
    clear hg
    by_cases hp : 0 ≤ p ∧ p < size
    · obtain ⟨h3, h4⟩ := hp
      obtain ⟨p, rfl⟩ := Int.eq_ofNat_of_zero_le h3
      by_cases hps : p < s.size
      · have hsb : ((s[p]).toNat : Int) < 256 := by have := (s[p]).toNat_lt; omega
        have hv : Hid (atF s.data.toList s.size p = (s[p]).toNat) := by
          unfold Hid; rw [atF_in _ _ _ (by omega)]; simp [hps]; rfl
        go_enter Try.func9, Try.ntmps9
        go_wp2_with fail
        refine (made_any s w hs2).mono ?_
        rintro e w' ⟨rfl, hM⟩
        replace hM := Lib.hid hM
        go_wp2_with (first | (go_at_call 26; (with_reducible refine (ms_grow hM.out size (by omega) (by omega)).mono ?_); rintro e w' ⟨rfl, q', L', hM, hL'⟩; replace hM := Lib.hid hM; have hv2 := Lib.hid ((atF_grown hL' (by simp) (by omega) p (by omega)).trans ((if_pos hps).trans hv.out)); clear hL') | (go_at_call 14; (with_reducible refine (ms_len hM.out).mono ?_); rintro e w' ⟨rfl, hM⟩; replace hM := Lib.hid hM) | (go_at_call 22; first | ((with_reducible refine (at_to hM.out p _ hv.out).mono ?_); rintro e w' ⟨rfl, hM⟩; replace hM := Lib.hid hM) | ((with_reducible refine (at_to hM.out p _ hv2.out).mono ?_); rintro e w' ⟨rfl, hM⟩; replace hM := Lib.hid hM)))
        have fw : IntKind.i64.wrap ((s[p]).toNat : Int) = (s[p]).toNat := IntWalk.i64_in _ (by omega)
        have f3 : (0 : Int) ≤ p := by omega
        have f4 : (p : Int) < s.size := by omega
        go_region_held3 (fun wx => MS w (w.heap.size + 1) q' L' size wx) (first | exact hM.out | exact hM.out.drew | exact hM.out.drewN _ | assumption) ((first | (go_at_call 22; (with_reducible refine (at_to (by first | exact hM.out | exact hM.out.drew | exact hM.out.drewN _ | assumption) p _ hv2.out).mono ?_); rintro e w' ⟨rfl, hM⟩; replace hM := Lib.hid hM)))
        all_goals
          go_wp2_with fail
          go_ret
          exact ⟨ret_bool (by first | rfl | (simp; done) | (rw [IntWalk.i64_in _ (by omega)]; simp)), hM.out.below⟩
      · have hv : Hid (atF s.data.toList s.size p = -1) := atF_out _ _ _ (by omega)
        go_enter Try.func9, Try.ntmps9
        go_wp2_with fail
        refine (made_any s w hs2).mono ?_
        rintro e w' ⟨rfl, hM⟩
        replace hM := Lib.hid hM
        go_wp2_with (first | (go_at_call 26; (with_reducible refine (ms_grow hM.out size (by omega) (by omega)).mono ?_); rintro e w' ⟨rfl, q', L', hM, hL'⟩; replace hM := Lib.hid hM; have hv2 := Lib.hid ((atF_grown hL' (by simp) (by omega) p (by omega)).trans (if_neg hps)); clear hL') | (go_at_call 14; (with_reducible refine (ms_len hM.out).mono ?_); rintro e w' ⟨rfl, hM⟩; replace hM := Lib.hid hM) | (go_at_call 22; first | ((with_reducible refine (at_to hM.out p _ hv.out).mono ?_); rintro e w' ⟨rfl, hM⟩; replace hM := Lib.hid hM) | ((with_reducible refine (at_to hM.out p _ hv2.out).mono ?_); rintro e w' ⟨rfl, hM⟩; replace hM := Lib.hid hM)))
        go_ret
        exact ⟨ret_bool (by first | rfl | (simp; done) | (rw [IntWalk.i64_in _ (by omega)]; simp)), hM.out.below⟩
    · obtain ⟨v, hv⟩ : ∃ v, Hid (atF s.data.toList s.size p = v) := ⟨_, rfl⟩
      have hq := Lib.hid hp
      rcases (by omega : p < 0 ∨ (¬ p < 0 ∧ (size : Int) ≤ p)) with h1 | ⟨h1, h2⟩
      all_goals
        clear hp
        go_enter Try.func9, Try.ntmps9
        go_wp2_with fail
        refine (made_any s w hs2).mono ?_
        rintro e w' ⟨rfl, hM⟩
        replace hM := Lib.hid hM
        go_wp2_with (first | (go_at_call 26; (with_reducible refine (ms_grow hM.out size (by omega) (by omega)).mono ?_); rintro e w' ⟨rfl, q', L', hM, hL'⟩; replace hM := Lib.hid hM; have hv2 := Lib.hid (atF_out L' size p hq.out); clear hL') | (go_at_call 14; (with_reducible refine (ms_len hM.out).mono ?_); rintro e w' ⟨rfl, hM⟩; replace hM := Lib.hid hM) | (go_at_call 22; first | ((with_reducible refine (at_to hM.out p _ hv.out).mono ?_); rintro e w' ⟨rfl, hM⟩; replace hM := Lib.hid hM) | ((with_reducible refine (at_to hM.out p _ hv2.out).mono ?_); rintro e w' ⟨rfl, hM⟩; replace hM := Lib.hid hM)))
        go_ret
        exact ⟨ret_bool (by first | rfl | (simp; done) | (rw [IntWalk.i64_in _ (by omega)]; simp)), hM.out.below⟩
end Go.Proofs.Ytkchhggbiopffaa
