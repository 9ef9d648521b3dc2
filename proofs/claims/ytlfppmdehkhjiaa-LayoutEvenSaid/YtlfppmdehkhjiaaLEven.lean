/- What is proved here: the walk of the law LayoutEven. The numbers are ints. -/
import Derived.Test.YtlfppmdehkhjiaaLBox
namespace Go.Proofs.Ytlfppmdehkhjiaa
set_option linter.unusedVariables false
set_option linter.unusedSimpArgs false
open Go.RowKit Pl
set_option maxRecDepth 100000 in
set_option maxHeartbeats 2000000 in
theorem even_all (K E A B C D X : Int) (w : World) (hK : -9223372036854775808 ≤ K ∧ K ≤ 9223372036854775807) (hE : -9223372036854775808 ≤ E ∧ E ≤ 9223372036854775807) (hA : -9223372036854775808 ≤ A ∧ A ≤ 9223372036854775807) (hB : -9223372036854775808 ≤ B ∧ B ≤ 9223372036854775807) (hC : -9223372036854775808 ≤ C ∧ C ≤ 9223372036854775807) :
    Calls Try.prog 8 #[.agg #[.int .i64 K, .int .i64 E, .int .i64 A, .int .i64 B, .int .i64 C, .int .i64 D, .int .i64 X]] w fun e' w' => e' = .returned (.bool true) ∧ Below w.heap.size w w' := by
  go_enter Try.func8, Try.ntmps8
  go_wp2_with fail
  refine (right_any K E A B C D X _ hK hE hA hB hC).mono ?_
  rintro e' w1 ⟨g, k, e, ka, ea, c, hgood, rfl, hg1, hg2, hb1, hblk⟩
  obtain ⟨q0, q1, q2, q3, q4, hfz⟩ := five_cells hblk
  obtain ⟨eo, bo, sl, gr, L⟩ := last_of hgood
  have hpe := Lib.hid (perr_zero.2 hgood)
  have hpd := Lib.hid L.parsed
  have hv := Lib.hid (L.valid hgood)
  have L' := Lib.hid L
  replace hblk := Lib.hid hblk
  have gk2 := hgood.k2
  have ge1 := hgood.e1
  have gk1 := hgood.k1
  clear L hgood
  go_wp2_with fail
  refine (parse_to g 0 5 k e ka ea c _ _ _ hpd.out hpe.out hg2 q0 q1 q2 q3 q4).mono ?_
  rintro e' w2 ⟨rfl, hb2⟩
  obtain ⟨hc2, hf2⟩ := bcell hb2
  have hB := Below.then ((Below.refl w.heap.size w).alloc (Nat.le_refl _) _) (Below.then hb1 hb2)
  have hg3 : g < w2.heap.size := by have := hb2.size; omega
  have z2 : sl ≤ 278 := by have := L'.out.slv; have := L'.out.boT; omega
  have z3 : 16 ≤ sl := by have := L'.out.slv; have := L'.out.bo1; have := L'.out.eo1; have := L'.out.bo3; omega
  have z5 : 0 ≤ eo := by have := L'.out.eo1; omega
  have z6 : eo ≤ 135 := L'.out.eoT
  have z7 : 0 ≤ bo := by have := L'.out.bo1; omega
  have z8 : bo ≤ 270 := L'.out.boT
  have hgr : Hid (gr = 8 * sl + 8) := L'.out.grv
  have hX : Box w w2.heap.size k e ka ea c eo bo sl gr (w2.alloc (.cells #[.int .i64 k, .int .i64 e, .int .i64 ka, .int .i64 ea, .int .i64 c, .int .i64 eo, .int .i64 bo, .int .i64 sl, .int .i64 gr] 24)) :=
    ⟨hB.alloc hB.size _, by go_simp, by go_simp, by go_simp, by go_simp, by go_simp, by go_simp, by go_simp, by go_simp, by go_simp⟩
  have a1 : Hid (placeF ⟨k, e, ka, ea, c, eo, bo, sl, gr⟩ 0 0 = 8) := by unfold Hid; rw [place_in hv.out 0 0 (by decide) (by decide)]; simp
  have a2 : Hid (groupsF ⟨k, e, ka, ea, c, eo, bo, sl, gr⟩ 8 = 8 + 8 * sl) := by
    unfold Hid; rw [groups_in hv.out 8 (by decide) (by decide) (by decide)]; have := hgr.out; simp only; omega
  have f1 : Hid (IntKind.i64.wrap (8 * sl) = 8 * sl) := IntWalk.i64_in _ (by omega)
  have f2 : Hid (IntKind.i64.wrap (8 + 8 * sl) = 8 + 8 * sl) := IntWalk.i64_in _ (by omega)
  have f3 : decide (sl < 16) = false := by simp; omega
  obtain ⟨qb, q0, q1, q2, q3, q4, q5, q6, q7, q8⟩ := id hX
  go_wp2_with fail
  replace f1 := f1.out
  replace f2 := f2.out
  go_region_held3 (fun w' => Below w.heap.size w w' ∧ w'.cell? ⟨w2.heap.size, 0, none⟩ = some (.int .i64 k) ∧ w'.cell? ⟨w2.heap.size, 1, none⟩ = some (.int .i64 e) ∧ w'.cell? ⟨w2.heap.size, 2, none⟩ = some (.int .i64 ka) ∧ w'.cell? ⟨w2.heap.size, 3, none⟩ = some (.int .i64 ea) ∧ w'.cell? ⟨w2.heap.size, 4, none⟩ = some (.int .i64 c) ∧ w'.cell? ⟨w2.heap.size, 5, none⟩ = some (.int .i64 eo) ∧ w'.cell? ⟨w2.heap.size, 6, none⟩ = some (.int .i64 bo) ∧ w'.cell? ⟨w2.heap.size, 7, none⟩ = some (.int .i64 sl) ∧ w'.cell? ⟨w2.heap.size, 8, none⟩ = some (.int .i64 gr)) (first | exact ⟨hX.below, hX.c0, hX.c1, hX.c2, hX.c3, hX.c4, hX.c5, hX.c6, hX.c7, hX.c8⟩ | exact ⟨hX.below.drew, hX.c0, hX.c1, hX.c2, hX.c3, hX.c4, hX.c5, hX.c6, hX.c7, hX.c8⟩ | exact ⟨below_drewN hX.below _, hX.c0, hX.c1, hX.c2, hX.c3, hX.c4, hX.c5, hX.c6, hX.c7, hX.c8⟩ | exact ⟨(below_drewN hX.below _).drew, hX.c0, hX.c1, hX.c2, hX.c3, hX.c4, hX.c5, hX.c6, hX.c7, hX.c8⟩ | go_keep) ((first | (go_at_call 23; (first | with_reducible refine (keeps (keyAt_to k e ka ea c eo bo sl gr 0 8 _ a1.out) (fun w' hb => Box.keep (by first | exact hX | exact hX.drew1 | exact hX.drew _) w' hb)).mono ?_); rintro e' w' ⟨rfl, hX⟩; obtain ⟨qb, q0, q1, q2, q3, q4, q5, q6, q7, q8⟩ := id hX) | (go_at_call 29; (first | with_reducible refine (keeps (groups_to k e ka ea c eo bo sl gr 8 (8 + 8 * sl) _ a2.out) (fun w' hb => Box.keep (by first | exact hX | exact hX.drew1 | exact hX.drew _) w' hb)).mono ?_); rintro e' w' ⟨rfl, hX⟩; obtain ⟨qb, q0, q1, q2, q3, q4, q5, q6, q7, q8⟩ := id hX)))
  clear f1 f2
  go_wp2_with fail
  go_loopw [5] (fun i wr => ∃ n : Nat, n ≤ 8 ∧ i = .int .i64 n ∧ Box w w2.heap.size k e ka ea c eo bo sl gr wr) (fun i _ => (8 - intOf i).toNat)
  case atStart => exact ⟨0, by decide, rfl, by first | exact hX | exact hX.drew _⟩
  case round =>
    obtain ⟨n, hn, rfl, hX⟩ := hrel
    obtain ⟨qb, q0, q1, q2, q3, q4, q5, q6, q7, q8⟩ := id hX
    by_cases hlt : n < 8
    · have m0 : 0 ≤ (n : Int) * sl := Int.mul_nonneg (by omega) (by omega)
      have m1 : (n : Int) * sl ≤ 1946 := by have : (n : Int) * sl ≤ 7 * sl := Int.mul_le_mul_of_nonneg_right (by omega) (by omega)
                                            omega
      have b1 : Hid (placeF ⟨k, e, ka, ea, c, eo, bo, sl, gr⟩ n 0 = 8 + n * sl) := by unfold Hid; rw [place_in hv.out n 0 (by omega) (by omega)]; simp
      have b2 : Hid (placeF ⟨k, e, ka, ea, c, eo, bo, sl, gr⟩ n eo = 8 + n * sl + eo) := by unfold Hid; rw [place_in hv.out n eo (by omega) (by omega)]
      have b3 : Hid (placeF ⟨k, e, ka, ea, c, eo, bo, sl, gr⟩ n bo = 8 + n * sl + bo) := by unfold Hid; rw [place_in hv.out n bo (by omega) (by omega)]
      have f1 : Hid (IntKind.i64.wrap ((n : Int) * sl) = n * sl) := IntWalk.i64_in _ (by omega)
      have f2 : Hid (IntKind.i64.wrap (8 + (n : Int) * sl) = 8 + n * sl) := IntWalk.i64_in _ (by omega)
      have f3 : Hid (IntKind.i64.wrap (8 + (n : Int) * sl + eo) = 8 + n * sl + eo) := IntWalk.i64_in _ (by omega)
      have f4 : Hid (IntKind.i64.wrap (8 + (n : Int) * sl + bo) = 8 + n * sl + bo) := IntWalk.i64_in _ (by omega)
      go_wp2_with (first | (go_at_call 23; (first | with_reducible refine (keeps (keyAt_to k e ka ea c eo bo sl gr n _ _ b1.out) (fun w' hb => Box.keep (by first | exact hX | exact hX.drew1 | exact hX.drew _) w' hb)).mono ?_); rintro e' w' ⟨rfl, hX⟩; obtain ⟨qb, q0, q1, q2, q3, q4, q5, q6, q7, q8⟩ := id hX) | (go_at_call 25; (first | with_reducible refine (keeps (elemAt_to k e ka ea c eo bo sl gr n _ _ b2.out) (fun w' hb => Box.keep (by first | exact hX | exact hX.drew1 | exact hX.drew _) w' hb)).mono ?_); rintro e' w' ⟨rfl, hX⟩; obtain ⟨qb, q0, q1, q2, q3, q4, q5, q6, q7, q8⟩ := id hX) | (go_at_call 27; (first | with_reducible refine (keeps (birthAt_to k e ka ea c eo bo sl gr n _ _ b3.out) (fun w' hb => Box.keep (by first | exact hX | exact hX.drew1 | exact hX.drew _) w' hb)).mono ?_); rintro e' w' ⟨rfl, hX⟩; obtain ⟨qb, q0, q1, q2, q3, q4, q5, q6, q7, q8⟩ := id hX))
      replace f1 := f1.out
      replace f2 := f2.out
      replace f3 := f3.out
      replace f4 := f4.out
      go_region_held3 (fun w' => Below w.heap.size w w' ∧ w'.cell? ⟨w2.heap.size, 0, none⟩ = some (.int .i64 k) ∧ w'.cell? ⟨w2.heap.size, 1, none⟩ = some (.int .i64 e) ∧ w'.cell? ⟨w2.heap.size, 2, none⟩ = some (.int .i64 ka) ∧ w'.cell? ⟨w2.heap.size, 3, none⟩ = some (.int .i64 ea) ∧ w'.cell? ⟨w2.heap.size, 4, none⟩ = some (.int .i64 c) ∧ w'.cell? ⟨w2.heap.size, 5, none⟩ = some (.int .i64 eo) ∧ w'.cell? ⟨w2.heap.size, 6, none⟩ = some (.int .i64 bo) ∧ w'.cell? ⟨w2.heap.size, 7, none⟩ = some (.int .i64 sl) ∧ w'.cell? ⟨w2.heap.size, 8, none⟩ = some (.int .i64 gr)) (first | exact ⟨hX.below, hX.c0, hX.c1, hX.c2, hX.c3, hX.c4, hX.c5, hX.c6, hX.c7, hX.c8⟩ | exact ⟨hX.below.drew, hX.c0, hX.c1, hX.c2, hX.c3, hX.c4, hX.c5, hX.c6, hX.c7, hX.c8⟩ | exact ⟨below_drewN hX.below _, hX.c0, hX.c1, hX.c2, hX.c3, hX.c4, hX.c5, hX.c6, hX.c7, hX.c8⟩ | exact ⟨(below_drewN hX.below _).drew, hX.c0, hX.c1, hX.c2, hX.c3, hX.c4, hX.c5, hX.c6, hX.c7, hX.c8⟩ | go_keep) ((first | (go_at_call 23; (first | with_reducible refine (keeps (keyAt_to k e ka ea c eo bo sl gr n _ _ b1.out) (fun w' hb => Box.keep (by first | exact hX | exact hX.drew1 | exact hX.drew _) w' hb)).mono ?_); rintro e' w' ⟨rfl, hX⟩; obtain ⟨qb, q0, q1, q2, q3, q4, q5, q6, q7, q8⟩ := id hX) | (go_at_call 25; (first | with_reducible refine (keeps (elemAt_to k e ka ea c eo bo sl gr n _ _ b2.out) (fun w' hb => Box.keep (by first | exact hX | exact hX.drew1 | exact hX.drew _) w' hb)).mono ?_); rintro e' w' ⟨rfl, hX⟩; obtain ⟨qb, q0, q1, q2, q3, q4, q5, q6, q7, q8⟩ := id hX) | (go_at_call 27; (first | with_reducible refine (keeps (birthAt_to k e ka ea c eo bo sl gr n _ _ b3.out) (fun w' hb => Box.keep (by first | exact hX | exact hX.drew1 | exact hX.drew _) w' hb)).mono ?_); rintro e' w' ⟨rfl, hX⟩; obtain ⟨qb, q0, q1, q2, q3, q4, q5, q6, q7, q8⟩ := id hX)))
      clear f1 f2 f3 f4
      go_wp2_with fail
      go_roundw
      case rel => exact ⟨n + 1, by omega, by go_num, by first | exact hX | exact hX.drew _⟩
      case measure => simp [intOf]; omega
    · go_wp2_with fail
      go_loopw [7] (fun i wr => ∃ t : Int, 8 ≤ t ∧ t ≤ 65536 ∧ Hid (isP t = true) ∧ i = .int .i64 t ∧ Box w w2.heap.size k e ka ea c eo bo sl gr wr) (fun i _ => (65536 - intOf i).toNat)
      case atStart => exact ⟨8, by decide, by decide, rfl, rfl, by first | exact hX | exact hX.drew _⟩
      case round =>
        obtain ⟨t, ht1, ht2, hp, rfl, hX⟩ := hrel
        obtain ⟨qb, q0, q1, q2, q3, q4, q5, q6, q7, q8⟩ := id hX
        by_cases hlt : t < 65536
        · obtain ⟨p1, p2, p3, p4, p5⟩ := isP_next hp.out ht1 hlt
          have g0 : 0 ≤ gr := by have := hgr.out; omega
          obtain ⟨x, hx⟩ : ∃ x, Hid (t / 8 * gr = x) := ⟨_, rfl⟩
          have x0 : 0 ≤ x := by rw [← hx.out]; exact Int.mul_nonneg (by omega) g0
          have x1 : x ≤ 18841600 := by
            have h1 : t / 8 * gr ≤ 8192 * gr := Int.mul_le_mul_of_nonneg_right (by omega) g0
            have := hgr.out; rw [← hx.out]; omega
          have b1 : Hid (groupsF ⟨k, e, ka, ea, c, eo, bo, sl, gr⟩ (2 * t) = 2 * x) := by
            unfold Hid; rw [groups_in hv.out _ p1 (by omega) (by omega), p5, ← hx.out, Int.mul_assoc]
          have b2 : Hid (groupsF ⟨k, e, ka, ea, c, eo, bo, sl, gr⟩ t = x) := by
            unfold Hid; rw [groups_in hv.out _ hp.out (by omega) (by omega), ← hx.out]
          have b3 : Hid (groupsF ⟨k, e, ka, ea, c, eo, bo, sl, gr⟩ (t + 1) = -1) := groups_no _ (Or.inl p2)
          have b4 : Hid (groupsF ⟨k, e, ka, ea, c, eo, bo, sl, gr⟩ (2 * t - 1) = -1) := groups_no _ (Or.inl p3)
          replace p1 := Lib.hid p1
          clear p2 p3 p5
          have f1 : Hid (IntKind.i64.wrap (2 * t) = 2 * t) := IntWalk.i64_in _ (by omega)
          have f2 : Hid (IntKind.i64.wrap (2 * x) = 2 * x) := IntWalk.i64_in _ (by omega)
          have f3 : Hid (IntKind.i64.wrap (t + 1) = t + 1) := IntWalk.i64_in _ (by omega)
          have f4 : Hid (IntKind.i64.wrap (2 * t - 1) = 2 * t - 1) := IntWalk.i64_in _ (by omega)
          go_wp2_with fail
          replace f1 := f1.out
          replace f2 := f2.out
          replace f3 := f3.out
          replace f4 := f4.out
          go_region_held3 (fun w' => Below w.heap.size w w' ∧ w'.cell? ⟨w2.heap.size, 0, none⟩ = some (.int .i64 k) ∧ w'.cell? ⟨w2.heap.size, 1, none⟩ = some (.int .i64 e) ∧ w'.cell? ⟨w2.heap.size, 2, none⟩ = some (.int .i64 ka) ∧ w'.cell? ⟨w2.heap.size, 3, none⟩ = some (.int .i64 ea) ∧ w'.cell? ⟨w2.heap.size, 4, none⟩ = some (.int .i64 c) ∧ w'.cell? ⟨w2.heap.size, 5, none⟩ = some (.int .i64 eo) ∧ w'.cell? ⟨w2.heap.size, 6, none⟩ = some (.int .i64 bo) ∧ w'.cell? ⟨w2.heap.size, 7, none⟩ = some (.int .i64 sl) ∧ w'.cell? ⟨w2.heap.size, 8, none⟩ = some (.int .i64 gr)) (first | exact ⟨hX.below, hX.c0, hX.c1, hX.c2, hX.c3, hX.c4, hX.c5, hX.c6, hX.c7, hX.c8⟩ | exact ⟨hX.below.drew, hX.c0, hX.c1, hX.c2, hX.c3, hX.c4, hX.c5, hX.c6, hX.c7, hX.c8⟩ | exact ⟨below_drewN hX.below _, hX.c0, hX.c1, hX.c2, hX.c3, hX.c4, hX.c5, hX.c6, hX.c7, hX.c8⟩ | exact ⟨(below_drewN hX.below _).drew, hX.c0, hX.c1, hX.c2, hX.c3, hX.c4, hX.c5, hX.c6, hX.c7, hX.c8⟩ | go_keep) ((first | (go_at_call 29; (first | with_reducible refine (keeps (groups_to k e ka ea c eo bo sl gr (2 * t) _ _ b1.out) (fun w' hb => Box.keep (by first | exact hX | exact hX.drew1 | exact hX.drew _) w' hb)).mono ?_ | with_reducible refine (keeps (groups_to k e ka ea c eo bo sl gr t _ _ b2.out) (fun w' hb => Box.keep (by first | exact hX | exact hX.drew1 | exact hX.drew _) w' hb)).mono ?_ | with_reducible refine (keeps (groups_to k e ka ea c eo bo sl gr (t + 1) _ _ b3.out) (fun w' hb => Box.keep (by first | exact hX | exact hX.drew1 | exact hX.drew _) w' hb)).mono ?_ | with_reducible refine (keeps (groups_to k e ka ea c eo bo sl gr (2 * t - 1) _ _ b4.out) (fun w' hb => Box.keep (by first | exact hX | exact hX.drew1 | exact hX.drew _) w' hb)).mono ?_); rintro e' w' ⟨rfl, hX⟩; obtain ⟨qb, q0, q1, q2, q3, q4, q5, q6, q7, q8⟩ := id hX)))
          clear f1 f2 f3 f4
          go_wp2_with fail
          go_roundw
          case rel => exact ⟨2 * t, by omega, by omega, p1, rfl, by first | exact hX | exact hX.drew _⟩
          case measure => simp [intOf]; omega
        · have b1 : Hid (groupsF ⟨k, e, ka, ea, c, eo, bo, sl, gr⟩ 131072 = -1) := groups_no _ (Or.inl (by decide))
          have b2 : Hid (placeF ⟨k, e, ka, ea, c, eo, bo, sl, gr⟩ 8 0 = -1) := place_no _ _ (Or.inr (Or.inl (by decide)))
          have b3 : Hid (placeF ⟨k, e, ka, ea, c, eo, bo, sl, gr⟩ (-1) eo = -1) := place_no _ _ (Or.inl (by decide))
          go_wp2_with (first | (go_at_call 29; (first | with_reducible refine (keeps (groups_to k e ka ea c eo bo sl gr 131072 _ _ b1.out) (fun w' hb => Box.keep (by first | exact hX | exact hX.drew1 | exact hX.drew _) w' hb)).mono ?_); rintro e' w' ⟨rfl, hX⟩; obtain ⟨qb, q0, q1, q2, q3, q4, q5, q6, q7, q8⟩ := id hX) | (go_at_call 23; (first | with_reducible refine (keeps (keyAt_to k e ka ea c eo bo sl gr 8 _ _ b2.out) (fun w' hb => Box.keep (by first | exact hX | exact hX.drew1 | exact hX.drew _) w' hb)).mono ?_); rintro e' w' ⟨rfl, hX⟩; obtain ⟨qb, q0, q1, q2, q3, q4, q5, q6, q7, q8⟩ := id hX) | (go_at_call 25; (first | with_reducible refine (keeps (elemAt_to k e ka ea c eo bo sl gr (-1) _ _ b3.out) (fun w' hb => Box.keep (by first | exact hX | exact hX.drew1 | exact hX.drew _) w' hb)).mono ?_); rintro e' w' ⟨rfl, hX⟩; obtain ⟨qb, q0, q1, q2, q3, q4, q5, q6, q7, q8⟩ := id hX))
          go_ret
          exact ⟨rfl, by first | exact hX.below | exact below_drewN hX.below _⟩
end Go.Proofs.Ytlfppmdehkhjiaa
