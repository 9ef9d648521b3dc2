/- What is proved here: the walk of the law MemFills. Conditions: a string of at most maxLen bytes, numbers of their kinds. -/
import Derived.Test.YtkchhggbiopffaaMLaw
namespace Go.Proofs.Ytkchhggbiopffaa
set_option linter.unusedVariables false
set_option linter.unusedSimpArgs false
open Go.RowKit Pm
set_option maxHeartbeats 2000000 in
set_option maxRecDepth 100000 in
theorem fills_all (s : ByteArray) (off k : Int) (c : UInt8) (p : Int) (w : World) (hob : -9223372036854775808 ≤ off ∧ off ≤ 9223372036854775807) (hkb : -9223372036854775808 ≤ k ∧ k ≤ 9223372036854775807) (hcb : (c.toNat : Int) < 256) (hs : s.size ≤ maxLen) : Calls Try.prog 7 #[.string s, .int .i64 off, .int .i64 k, .int .u8 (c.toNat : Int), .int .i64 p] w fun e w' => e = .returned (.bool true) ∧ Below w.heap.size w w' := by
  have hs0 := Lib.hid hs
  unfold maxLen at hs
  by_cases hbig : 134217728 < s.size
  · have hbig2 : (134217728 : Int) < s.size := by omega
    go_enter Try.func7, Try.ntmps7
    go_wp2_with (go_at_call 16; (with_reducible refine (made_no s _ hbig hs0.out).mono ?_); rintro e w' ⟨rfl, rfl⟩)
    go_ret
    exact ⟨ret_bool (by first | rfl | simp), Below.refl _ _⟩
  have hs2 : s.size ≤ 134217728 := by omega
  clear hs hbig
  by_cases hi : 0 ≤ off ∧ 0 ≤ k ∧ off + k ≤ s.size
  · obtain ⟨h0, h1, h2⟩ := hi
    obtain ⟨off, rfl⟩ := Int.eq_ofNat_of_zero_le h0
    obtain ⟨k, rfl⟩ := Int.eq_ofNat_of_zero_le h1
    have hin : Hid (insF s.size off k = true) := ins_true h0 h1 h2
    by_cases hp : 0 ≤ p ∧ p < s.size
    · obtain ⟨h3, h4⟩ := hp
      obtain ⟨p, rfl⟩ := Int.eq_ofNat_of_zero_le h3
      by_cases hsp : off ≤ p ∧ p < off + k
      · obtain ⟨h5, h6⟩ := hsp
        have hv : Hid (atF (splice s.data.toList off (List.replicate k c)) s.size p = c.toNat) := by
          unfold Hid; rw [atF_in _ _ _ h4, splice_in _ _ _ (by simp; omega) p h5 (by simpa using h6), List.getElem?_replicate, if_pos (by omega)]; rfl
        go_enter Try.func7, Try.ntmps7
        go_wp2_with fail
        refine (made_any s w hs2).mono ?_
        rintro e w' ⟨rfl, hM⟩
        replace hM := Lib.hid hM
        go_wp2_with (first | (go_at_call 19; (with_reducible refine (lins_to s.size off k true hin.out _ (by omega)).mono ?_); rintro e w' ⟨rfl, rfl⟩) | (go_at_call 24; (with_reducible refine (ms_fill_in hM.out off k c (by omega)).mono ?_); rintro e w' ⟨rfl, hM⟩; replace hM := Lib.hid hM) | (go_at_call 22; (with_reducible refine (at_to hM.out p _ hv.out).mono ?_); rintro e w' ⟨rfl, hM⟩; replace hM := Lib.hid hM))
        go_ret
        exact ⟨ret_bool (by first | rfl | (simp; done) | (rw [IntWalk.i64_in _ (by omega)]; simp)), hM.out.below⟩
      · have hlt : p < s.size := by omega
        have hsb : ((s[p]).toNat : Int) < 256 := by have := (s[p]).toNat_lt; omega
        have hv : Hid (atF (splice s.data.toList off (List.replicate k c)) s.size p = (s[p]).toNat) := by
          unfold Hid; rw [atF_in _ _ _ h4, splice_out _ _ _ (by simp; omega) p (by simp; omega)]; simp [hlt]; rfl
        have hsp2 : p < off ∨ off + k ≤ p := by omega
        clear hsp
        rcases hsp2 with hsp2 | hsp2
        all_goals
          go_enter Try.func7, Try.ntmps7
          go_wp2_with fail
          refine (made_any s w hs2).mono ?_
          rintro e w' ⟨rfl, hM⟩
          replace hM := Lib.hid hM
          go_wp2_with (first | (go_at_call 19; (with_reducible refine (lins_to s.size off k true hin.out _ (by omega)).mono ?_); rintro e w' ⟨rfl, rfl⟩) | (go_at_call 24; (with_reducible refine (ms_fill_in hM.out off k c (by omega)).mono ?_); rintro e w' ⟨rfl, hM⟩; replace hM := Lib.hid hM) | (go_at_call 22; (with_reducible refine (at_to hM.out p _ hv.out).mono ?_); rintro e w' ⟨rfl, hM⟩; replace hM := Lib.hid hM))
          go_region_held3 (fun w' => MS w (w.heap.size + 1) w.heap.size (splice s.data.toList off (List.replicate k c)) s.size w') (first | exact hM.out | exact hM.out.drew | exact hM.out.drewN _ | assumption) ((first | (go_at_call 22; (with_reducible refine (at_to (by first | exact hM.out | exact hM.out.drew | exact hM.out.drewN _ | assumption) p _ hv.out).mono ?_); rintro e w' ⟨rfl, hM⟩; replace hM := Lib.hid hM)))
          all_goals
            go_wp2_with fail
            go_ret
            exact ⟨ret_bool (by first | rfl | (simp; done) | (rw [IntWalk.i64_in _ (by omega)]; simp)), hM.out.below⟩
    · have hv : Hid (atF (splice s.data.toList off (List.replicate k c)) s.size p = -1) := atF_out _ _ _ hp
      have hp2 : p < 0 ∨ (¬ p < 0 ∧ (s.size : Int) ≤ p) := by omega
      clear hp
      rcases hp2 with hp2 | ⟨hp2, hp3⟩
      all_goals
        go_enter Try.func7, Try.ntmps7
        go_wp2_with fail
        refine (made_any s w hs2).mono ?_
        rintro e w' ⟨rfl, hM⟩
        replace hM := Lib.hid hM
        go_wp2_with (first | (go_at_call 19; (with_reducible refine (lins_to s.size off k true hin.out _ (by omega)).mono ?_); rintro e w' ⟨rfl, rfl⟩) | (go_at_call 24; (with_reducible refine (ms_fill_in hM.out off k c (by omega)).mono ?_); rintro e w' ⟨rfl, hM⟩; replace hM := Lib.hid hM) | (go_at_call 22; (with_reducible refine (at_to hM.out p _ hv.out).mono ?_); rintro e w' ⟨rfl, hM⟩; replace hM := Lib.hid hM))
        go_ret
        exact ⟨ret_bool (by first | rfl | (simp; done) | (rw [IntWalk.i64_in _ (by omega)]; simp)), hM.out.below⟩
  · have hin : Hid (insF s.size off k = false) := ins_false hi
    clear hi
    by_cases hp : 0 ≤ p ∧ p < s.size
    · obtain ⟨h3, h4⟩ := hp
      obtain ⟨p, rfl⟩ := Int.eq_ofNat_of_zero_le h3
      have hlt : p < s.size := by omega
      have hsb : ((s[p]).toNat : Int) < 256 := by have := (s[p]).toNat_lt; omega
      have hv : Hid (atF s.data.toList s.size p = (s[p]).toNat) := by
        unfold Hid; rw [atF_in _ _ _ h4]; simp [hlt]; rfl
      go_enter Try.func7, Try.ntmps7
      go_wp2_with fail
      refine (made_any s w hs2).mono ?_
      rintro e w' ⟨rfl, hM⟩
      replace hM := Lib.hid hM
      go_wp2_with (first | (go_at_call 19; (with_reducible refine (lins_to s.size off k false hin.out _ (by omega)).mono ?_); rintro e w' ⟨rfl, rfl⟩) | (go_at_call 24; (with_reducible refine (ms_fill_out hM.out off k _ hin.out).mono ?_); rintro e w' ⟨rfl, hM⟩; replace hM := Lib.hid hM) | (go_at_call 22; (with_reducible refine (at_to hM.out p _ hv.out).mono ?_); rintro e w' ⟨rfl, hM⟩; replace hM := Lib.hid hM))
      go_region_held3 (fun w' => MS w (w.heap.size + 1) w.heap.size s.data.toList s.size w') (first | exact hM.out | exact hM.out.drew | exact hM.out.drewN _ | assumption) ((first | (go_at_call 22; (with_reducible refine (at_to (by first | exact hM.out | exact hM.out.drew | exact hM.out.drewN _ | assumption) p _ hv.out).mono ?_); rintro e w' ⟨rfl, hM⟩; replace hM := Lib.hid hM)))
      all_goals
        go_wp2_with fail
        go_ret
        exact ⟨ret_bool (by first | rfl | (simp; done) | (rw [IntWalk.i64_in _ (by omega)]; simp)), hM.out.below⟩
    · have hv : Hid (atF s.data.toList s.size p = -1) := atF_out _ _ _ hp
      have hp2 : p < 0 ∨ (¬ p < 0 ∧ (s.size : Int) ≤ p) := by omega
      clear hp
      rcases hp2 with hp2 | ⟨hp2, hp3⟩
      all_goals
        go_enter Try.func7, Try.ntmps7
        go_wp2_with fail
        refine (made_any s w hs2).mono ?_
        rintro e w' ⟨rfl, hM⟩
        replace hM := Lib.hid hM
        go_wp2_with (first | (go_at_call 19; (with_reducible refine (lins_to s.size off k false hin.out _ (by omega)).mono ?_); rintro e w' ⟨rfl, rfl⟩) | (go_at_call 24; (with_reducible refine (ms_fill_out hM.out off k _ hin.out).mono ?_); rintro e w' ⟨rfl, hM⟩; replace hM := Lib.hid hM) | (go_at_call 22; (with_reducible refine (at_to hM.out p _ hv.out).mono ?_); rintro e w' ⟨rfl, hM⟩; replace hM := Lib.hid hM))
        go_ret
        exact ⟨ret_bool (by first | rfl | (simp; done) | (rw [IntWalk.i64_in _ (by omega)]; simp)), hM.out.below⟩
end Go.Proofs.Ytkchhggbiopffaa
