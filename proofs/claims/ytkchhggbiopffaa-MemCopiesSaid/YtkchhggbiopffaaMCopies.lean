/- What is proved here: the walk of the law MemCopies. Conditions: a string of at most maxLen bytes, numbers of their kinds. -/
import Derived.Test.YtkchhggbiopffaaMLaw
namespace Go.Proofs.Ytkchhggbiopffaa
set_option linter.unusedVariables false
set_option linter.unusedSimpArgs false
open Go.RowKit Pm
set_option maxHeartbeats 2000000 in
set_option maxRecDepth 100000 in
theorem copies_all (s : ByteArray) (dst src k p : Int) (w : World) (hb_dst : -9223372036854775808 ≤ dst ∧ dst ≤ 9223372036854775807) (hb_src : -9223372036854775808 ≤ src ∧ src ≤ 9223372036854775807) (hb_k : -9223372036854775808 ≤ k ∧ k ≤ 9223372036854775807) (hs : s.size ≤ maxLen) : Calls Try.prog 5 #[.string s, .int .i64 dst, .int .i64 src, .int .i64 k, .int .i64 p] w fun e w' => e = .returned (.bool true) ∧ Below w.heap.size w w' := by
  have hs0 := Lib.hid hs
  unfold maxLen at hs
  by_cases hbig : 134217728 < s.size
  · have hbig2 : (134217728 : Int) < s.size := by omega
    go_enter Try.func5, Try.ntmps5
    go_wp2_with (go_at_call 16; (with_reducible refine (made_no s _ hbig hs0.out).mono ?_); rintro e w' ⟨rfl, rfl⟩)
    go_ret
    exact ⟨ret_bool (by first | rfl | simp), Below.refl _ _⟩
  have hs2 : s.size ≤ 134217728 := by omega
  clear hs hbig
  by_cases hi : (0 ≤ dst ∧ 0 ≤ k ∧ dst + k ≤ s.size) ∧ (0 ≤ src ∧ 0 ≤ k ∧ src + k ≤ s.size)
  · obtain ⟨⟨h0, h1, h2⟩, h3, _, h4⟩ := hi
    obtain ⟨dst, rfl⟩ := Int.eq_ofNat_of_zero_le h0
    obtain ⟨src, rfl⟩ := Int.eq_ofNat_of_zero_le h3
    obtain ⟨k, rfl⟩ := Int.eq_ofNat_of_zero_le h1
    have hd : Hid (insF s.size dst k = true) := ins_true h0 h1 h2
    have hc : Hid (insF s.size src k = true) := ins_true h3 h1 h4
    have hl : Hid (((s.data.toList.drop src).take k).length = k) := by unfold Hid; simp; omega
    by_cases hp : 0 ≤ p ∧ p < s.size
    · obtain ⟨h5, h6⟩ := hp
      obtain ⟨p, rfl⟩ := Int.eq_ofNat_of_zero_le h5
      by_cases hsp : dst ≤ p ∧ p < dst + k
      · obtain ⟨h7, h8⟩ := hsp
        obtain ⟨t, ht⟩ : ∃ t : Nat, Hid (p = dst + t) := ⟨p - dst, by unfold Hid; omega⟩
        obtain ⟨j, hj⟩ : ∃ j : Nat, Hid (j = src + t) := ⟨_, rfl⟩
        have ht2 : t < k := by have := ht.out; omega
        have hlt : j < s.size := by have := hj.out; omega
        have hsb : ((s[j]).toNat : Int) < 256 := by have := (s[j]).toNat_lt; omega
        have f1 : IntKind.i64.wrap ((p : Int) - dst) = (t : Int) := by rw [IntWalk.i64_in _ (by omega)]; have := ht.out; omega
        have f2 : IntKind.i64.wrap ((src : Int) + t) = (j : Int) := by rw [IntWalk.i64_in _ (by omega)]; have := hj.out; omega
        have f3 : (0 : Int) ≤ j := by omega
        have f4 : (j : Int) < s.size := by omega
        have hv : Hid (atF (splice s.data.toList dst ((s.data.toList.drop src).take k)) s.size p = (s[j]).toNat) := by
          unfold Hid; rw [atF_in _ _ _ h6, splice_in _ _ _ (by rw [hl.out]; simp; omega) p h7 (by rw [hl.out]; exact h8), List.getElem?_take, if_pos (by omega), List.getElem?_drop, show src + (p - dst) = j by have := hj.out; have := ht.out; omega]
          simp [hlt]; rfl
        replace f1 := Lib.hid f1
        replace f2 := Lib.hid f2
        go_enter Try.func5, Try.ntmps5
        go_wp2_with fail
        refine (made_any s w hs2).mono ?_
        rintro e w' ⟨rfl, hM⟩
        replace hM := Lib.hid hM
        go_wp2_with (first | (go_at_call 19; first | ((with_reducible refine (lins_to s.size dst k true hd.out _ (by omega)).mono ?_); rintro e w' ⟨rfl, rfl⟩) | ((with_reducible refine (lins_to s.size src k true hc.out _ (by omega)).mono ?_); rintro e w' ⟨rfl, rfl⟩)) | (go_at_call 21; (with_reducible refine (ms_copy_in hM.out dst src k (by omega) (by omega)).mono ?_); rintro e w' ⟨rfl, hM⟩; replace hM := Lib.hid hM) | (go_at_call 22; (with_reducible refine (at_to hM.out p _ hv.out).mono ?_); rintro e w' ⟨rfl, hM⟩; replace hM := Lib.hid hM))
        replace f1 := f1.out
        replace f2 := f2.out
        go_region_held3 (fun w' => MS w (w.heap.size + 1) w.heap.size (splice s.data.toList dst ((s.data.toList.drop src).take k)) s.size w') (first | exact hM.out | exact hM.out.drew | exact hM.out.drewN _ | assumption) ((first | (go_at_call 22; (with_reducible refine (at_to (by first | exact hM.out | exact hM.out.drew | exact hM.out.drewN _ | assumption) p _ hv.out).mono ?_); rintro e w' ⟨rfl, hM⟩; replace hM := Lib.hid hM)))
        all_goals
          go_wp2_with fail
          go_ret
          exact ⟨ret_bool (by first | rfl | (simp; done) | (rw [IntWalk.i64_in _ (by omega)]; simp)), hM.out.below⟩
      · have hlt : p < s.size := by omega
        have hsb : ((s[p]).toNat : Int) < 256 := by have := (s[p]).toNat_lt; omega
        have hsp2 : p < dst ∨ dst + k ≤ p := by omega
        have hv : Hid (atF (splice s.data.toList dst ((s.data.toList.drop src).take k)) s.size p = (s[p]).toNat) := by
          unfold Hid; rw [atF_in _ _ _ h6, splice_out _ _ _ (by rw [hl.out]; simp; omega) p (by rw [hl.out]; exact hsp2)]; simp [hlt]; rfl
        clear hsp
        rcases hsp2 with hsp2 | hsp2
        all_goals
          go_enter Try.func5, Try.ntmps5
          go_wp2_with fail
          refine (made_any s w hs2).mono ?_
          rintro e w' ⟨rfl, hM⟩
          replace hM := Lib.hid hM
          go_wp2_with (first | (go_at_call 19; first | ((with_reducible refine (lins_to s.size dst k true hd.out _ (by omega)).mono ?_); rintro e w' ⟨rfl, rfl⟩) | ((with_reducible refine (lins_to s.size src k true hc.out _ (by omega)).mono ?_); rintro e w' ⟨rfl, rfl⟩)) | (go_at_call 21; (with_reducible refine (ms_copy_in hM.out dst src k (by omega) (by omega)).mono ?_); rintro e w' ⟨rfl, hM⟩; replace hM := Lib.hid hM) | (go_at_call 22; (with_reducible refine (at_to hM.out p _ hv.out).mono ?_); rintro e w' ⟨rfl, hM⟩; replace hM := Lib.hid hM))
          go_region_held3 (fun w' => MS w (w.heap.size + 1) w.heap.size (splice s.data.toList dst ((s.data.toList.drop src).take k)) s.size w') (first | exact hM.out | exact hM.out.drew | exact hM.out.drewN _ | assumption) ((first | (go_at_call 22; (with_reducible refine (at_to (by first | exact hM.out | exact hM.out.drew | exact hM.out.drewN _ | assumption) p _ hv.out).mono ?_); rintro e w' ⟨rfl, hM⟩; replace hM := Lib.hid hM)))
          all_goals
            go_wp2_with fail
            go_ret
            exact ⟨ret_bool (by first | rfl | (simp; done) | (rw [IntWalk.i64_in _ (by omega)]; simp)), hM.out.below⟩
    · have hv : Hid (atF (splice s.data.toList dst ((s.data.toList.drop src).take k)) s.size p = -1) := atF_out _ _ _ hp
      have hp2 : p < 0 ∨ (¬ p < 0 ∧ (s.size : Int) ≤ p) := by omega
      clear hp
      rcases hp2 with hp2 | ⟨hp2, hp3⟩
      all_goals
        go_enter Try.func5, Try.ntmps5
        go_wp2_with fail
        refine (made_any s w hs2).mono ?_
        rintro e w' ⟨rfl, hM⟩
        replace hM := Lib.hid hM
        go_wp2_with (first | (go_at_call 19; first | ((with_reducible refine (lins_to s.size dst k true hd.out _ (by omega)).mono ?_); rintro e w' ⟨rfl, rfl⟩) | ((with_reducible refine (lins_to s.size src k true hc.out _ (by omega)).mono ?_); rintro e w' ⟨rfl, rfl⟩)) | (go_at_call 21; (with_reducible refine (ms_copy_in hM.out dst src k (by omega) (by omega)).mono ?_); rintro e w' ⟨rfl, hM⟩; replace hM := Lib.hid hM) | (go_at_call 22; (with_reducible refine (at_to hM.out p _ hv.out).mono ?_); rintro e w' ⟨rfl, hM⟩; replace hM := Lib.hid hM))
        go_ret
        exact ⟨ret_bool (by first | rfl | (simp; done) | (rw [IntWalk.i64_in _ (by omega)]; simp)), hM.out.below⟩
  · have hno : Hid (insF s.size dst k = false ∨ insF s.size src k = false) := by
      by_cases hd : 0 ≤ dst ∧ 0 ≤ k ∧ dst + k ≤ s.size
      · exact Or.inr (ins_false (fun hc => hi ⟨hd, hc⟩))
      · exact Or.inl (ins_false hd)
    clear hi
    obtain ⟨bd, hd⟩ : ∃ b, Hid (insF s.size dst k = b) := ⟨_, rfl⟩
    obtain ⟨bc, hc⟩ : ∃ b, Hid (insF s.size src k = b) := ⟨_, rfl⟩
    have hbb : bd = false ∨ (bd = true ∧ bc = false) := by
      have h := hno.out
      rw [hd.out, hc.out] at h
      cases bd with
      | false => exact Or.inl rfl
      | true => exact Or.inr ⟨rfl, by simpa using h⟩
    by_cases hp : 0 ≤ p ∧ p < s.size
    · obtain ⟨h5, h6⟩ := hp
      obtain ⟨p, rfl⟩ := Int.eq_ofNat_of_zero_le h5
      have hlt : p < s.size := by omega
      have hsb : ((s[p]).toNat : Int) < 256 := by have := (s[p]).toNat_lt; omega
      have hv : Hid (atF s.data.toList s.size p = (s[p]).toNat) := by
        unfold Hid; rw [atF_in _ _ _ h6]; simp [hlt]; rfl
      rcases hbb with rfl | ⟨rfl, rfl⟩
      · skip
        go_enter Try.func5, Try.ntmps5
        go_wp2_with fail
        refine (made_any s w hs2).mono ?_
        rintro e w' ⟨rfl, hM⟩
        replace hM := Lib.hid hM
        go_wp2_with (first | (go_at_call 19; first | ((with_reducible refine (lins_to s.size dst k false hd.out _ (by omega)).mono ?_); rintro e w' ⟨rfl, rfl⟩)) | (go_at_call 21; (with_reducible refine (ms_copy_out hM.out dst src k hno.out).mono ?_); rintro e w' ⟨rfl, hM⟩; replace hM := Lib.hid hM) | (go_at_call 22; (with_reducible refine (at_to hM.out p _ hv.out).mono ?_); rintro e w' ⟨rfl, hM⟩; replace hM := Lib.hid hM))
        go_region_held3 (fun w' => MS w (w.heap.size + 1) w.heap.size s.data.toList s.size w') (first | exact hM.out | exact hM.out.drew | exact hM.out.drewN _ | assumption) ((first | (go_at_call 22; (with_reducible refine (at_to (by first | exact hM.out | exact hM.out.drew | exact hM.out.drewN _ | assumption) p _ hv.out).mono ?_); rintro e w' ⟨rfl, hM⟩; replace hM := Lib.hid hM)))
        all_goals
          go_wp2_with fail
          go_ret
          exact ⟨ret_bool (by first | rfl | (simp; done) | (rw [IntWalk.i64_in _ (by omega)]; simp)), hM.out.below⟩
      · skip
        go_enter Try.func5, Try.ntmps5
        go_wp2_with fail
        refine (made_any s w hs2).mono ?_
        rintro e w' ⟨rfl, hM⟩
        replace hM := Lib.hid hM
        go_wp2_with (first | (go_at_call 19; first | ((with_reducible refine (lins_to s.size dst k true hd.out _ (by omega)).mono ?_); rintro e w' ⟨rfl, rfl⟩) | ((with_reducible refine (lins_to s.size src k false hc.out _ (by omega)).mono ?_); rintro e w' ⟨rfl, rfl⟩)) | (go_at_call 21; (with_reducible refine (ms_copy_out hM.out dst src k hno.out).mono ?_); rintro e w' ⟨rfl, hM⟩; replace hM := Lib.hid hM) | (go_at_call 22; (with_reducible refine (at_to hM.out p _ hv.out).mono ?_); rintro e w' ⟨rfl, hM⟩; replace hM := Lib.hid hM))
        go_region_held3 (fun w' => MS w (w.heap.size + 1) w.heap.size s.data.toList s.size w') (first | exact hM.out | exact hM.out.drew | exact hM.out.drewN _ | assumption) ((first | (go_at_call 22; (with_reducible refine (at_to (by first | exact hM.out | exact hM.out.drew | exact hM.out.drewN _ | assumption) p _ hv.out).mono ?_); rintro e w' ⟨rfl, hM⟩; replace hM := Lib.hid hM)))
        all_goals
          go_wp2_with fail
          go_ret
          exact ⟨ret_bool (by first | rfl | (simp; done) | (rw [IntWalk.i64_in _ (by omega)]; simp)), hM.out.below⟩
    · have hv : Hid (atF s.data.toList s.size p = -1) := atF_out _ _ _ hp
      have hp2 : p < 0 ∨ (¬ p < 0 ∧ (s.size : Int) ≤ p) := by omega
      clear hp
      rcases hbb with rfl | ⟨rfl, rfl⟩
      all_goals
        rcases hp2 with hp2 | ⟨hp2, hp3⟩
      all_goals
        go_enter Try.func5, Try.ntmps5
        go_wp2_with fail
        refine (made_any s w hs2).mono ?_
        rintro e w' ⟨rfl, hM⟩
        replace hM := Lib.hid hM
        go_wp2_with (first | (go_at_call 19; first | ((with_reducible refine (lins_to s.size dst k false hd.out _ (by omega)).mono ?_); rintro e w' ⟨rfl, rfl⟩) | ((with_reducible refine (lins_to s.size dst k true hd.out _ (by omega)).mono ?_); rintro e w' ⟨rfl, rfl⟩) | ((with_reducible refine (lins_to s.size src k false hc.out _ (by omega)).mono ?_); rintro e w' ⟨rfl, rfl⟩)) | (go_at_call 21; (with_reducible refine (ms_copy_out hM.out dst src k hno.out).mono ?_); rintro e w' ⟨rfl, hM⟩; replace hM := Lib.hid hM) | (go_at_call 22; (with_reducible refine (at_to hM.out p _ hv.out).mono ?_); rintro e w' ⟨rfl, hM⟩; replace hM := Lib.hid hM))
        go_ret
        exact ⟨ret_bool (by first | rfl | (simp; done) | (rw [IntWalk.i64_in _ (by omega)]; simp)), hM.out.below⟩
end Go.Proofs.Ytkchhggbiopffaa
