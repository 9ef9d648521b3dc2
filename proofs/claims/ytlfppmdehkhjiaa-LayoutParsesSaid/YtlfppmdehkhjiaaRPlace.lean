/- What is proved here: the contracts of the reference's Valid, at, KeyAt, ElemAt, BirthAt, Groups. -/
import Derived.Test.YtlfppmdehkhjiaaRParse
import Derived.Test.YtlfppmdehkhjiaaLBox
namespace Go.Proofs.Ytlfppmdehkhjiaa
set_option linter.unusedVariables false
set_option linter.unusedSimpArgs false
open Go.RowKit Pl
/-- Parse of five numbers, what it answers under names -/
theorem rparse_to (b o c : Nat) (k e ka ea cp : Int) (r : LV) (er : Int) (w : World) (hr : parsed k e ka ea cp = r) (he : perr k e ka ea cp = er) (hb : b < w.heap.size) (h0 : w.cell? ⟨b, o, none⟩ = some (.int .i64 k)) (h1 : w.cell? ⟨b, o + 1, none⟩ = some (.int .i64 e)) (h2 : w.cell? ⟨b, o + 2, none⟩ = some (.int .i64 ka)) (h3 : w.cell? ⟨b, o + 3, none⟩ = some (.int .i64 ea)) (h4 : w.cell? ⟨b, o + 4, none⟩ = some (.int .i64 cp)) :
    Calls Try.prog 12 #[.slice (some ⟨b, o, none⟩) 5 c] w fun e' w' => e' = .returned (.tuple #[.agg #[.int .i64 r.k, .int .i64 r.e, .int .i64 r.ka, .int .i64 r.ea, .int .i64 r.c, .int .i64 r.eo, .int .i64 r.bo, .int .i64 r.sl, .int .i64 r.gr], .int .i64 er]) ∧ Below w.heap.size w w' := by
  subst hr; subst he
  exact rparse_five b o c k e ka ea cp w hb h0 h1 h2 h3 h4
theorem rvalid_any (l : LV) (w : World) : Calls Try.prog 22 #[l.val] w fun e w' => e = .returned (.bool l.validB) ∧ Below w.heap.size w w' := by
  obtain ⟨k, e, ka, ea, c, eo, bo, sl, gr⟩ := l
  have hv : Hid (LV.validB ⟨k, e, ka, ea, c, eo, bo, sl, gr⟩ = ((perr k e ka ea c == 0) && LV.beq (parsed k e ka ea c) ⟨k, e, ka, ea, c, eo, bo, sl, gr⟩)) := rfl
  obtain ⟨er, her⟩ : ∃ er, Hid (perr k e ka ea c = er) := ⟨_, rfl⟩
  obtain ⟨⟨p1, p2, p3, p4, p5, p6, p7, p8, p9⟩, hp⟩ : ∃ p, Hid (parsed k e ka ea c = p) := ⟨_, rfl⟩
  have hq := fun w => eql_lay ⟨p1, p2, p3, p4, p5, p6, p7, p8, p9⟩ ⟨k, e, ka, ea, c, eo, bo, sl, gr⟩ w
  have hg := layGuard
  rw [hp.out, her.out] at hv
  replace hv := Lib.hid hv.out
  simp only [LV.val]
  cases hz : (er == 0)
  · go_enter Try.func22, Try.ntmps22
    go_wp2_with fail
    refine (rparse_to _ _ _ k e ka ea c _ _ _ hp.out her.out (by simp) (by go_simp) (by go_simp) (by go_simp) (by go_simp) (by go_simp)).mono ?_
    rintro e' w1 ⟨rfl, hb⟩
    obtain ⟨hc, hf⟩ := bcell hb
    have hsz : w.heap.size + 1 < w1.heap.size := by have := hb.size; simp at this; omega
    go_wp2_with fail
    go_ret
    exact ⟨ret_bool (by rw [hv.out, hz]; rfl), (((((Below.refl _ _).alloc (Nat.le_refl _) _).alloc (by simp) _).trans (hb.mono (by simp; omega))).alloc (by omega) _)⟩
  · go_enter Try.func22, Try.ntmps22
    go_wp2_with fail
    refine (rparse_to _ _ _ k e ka ea c _ _ _ hp.out her.out (by simp) (by go_simp) (by go_simp) (by go_simp) (by go_simp) (by go_simp)).mono ?_
    rintro e' w1 ⟨rfl, hb⟩
    obtain ⟨hc, hf⟩ := bcell hb
    have hsz : w.heap.size + 1 < w1.heap.size := by have := hb.size; simp at this; omega
    have hsz2 : w.heap.size < w1.heap.size := by omega
    go_wp2_with fail
    go_ret
    exact ⟨ret_bool (by rw [hv.out, hz]; rfl), (((((Below.refl _ _).alloc (Nat.le_refl _) _).alloc (by simp) _).trans (hb.mono (by simp; omega))).alloc (by omega) _)⟩
theorem rvalid_is (k e ka ea c eo bo sl gr : Int) (w : World) (b : Bool) (hb : LV.validB ⟨k, e, ka, ea, c, eo, bo, sl, gr⟩ = b) : Calls Try.prog 22 #[.agg #[.int .i64 k, .int .i64 e, .int .i64 ka, .int .i64 ea, .int .i64 c, .int .i64 eo, .int .i64 bo, .int .i64 sl, .int .i64 gr]] w fun e' w' => e' = .returned (.bool b) ∧ Below w.heap.size w w' := by
  subst hb; exact rvalid_any ⟨k, e, ka, ea, c, eo, bo, sl, gr⟩ w
set_option maxHeartbeats 1000000 in
theorem rat_any (k e ka ea c eo bo sl gr i : Int) (w : World) : Calls Try.prog 45 #[.agg #[.int .i64 k, .int .i64 e, .int .i64 ka, .int .i64 ea, .int .i64 c, .int .i64 eo, .int .i64 bo, .int .i64 sl, .int .i64 gr], .int .i64 i] w fun e' w' => e' = .returned (.int .i64 (placeF ⟨k, e, ka, ea, c, eo, bo, sl, gr⟩ i 0)) ∧ Below w.heap.size w w' := by
  obtain ⟨b, hv⟩ : ∃ b, Hid (LV.validB ⟨k, e, ka, ea, c, eo, bo, sl, gr⟩ = b) := ⟨_, rfl⟩
  by_cases hc : b = true ∧ 0 ≤ i ∧ i ≤ 7
  · obtain ⟨rfl, h0, h7⟩ := hc
    have hr : Hid (placeF ⟨k, e, ka, ea, c, eo, bo, sl, gr⟩ i 0 = 8 + i * sl) := by unfold Hid; rw [place_in hv.out i 0 h0 h7]; simp
    have hbd : 0 ≤ sl ∧ sl ≤ 278 := by
      obtain ⟨g, a1, a2, a3, a4, a5, a6, a7, a8⟩ := valid_bounds hv.out
      have := g.e1
      simp only at *
      omega
    obtain ⟨s0, s1⟩ := hbd
    go_enter Try.func45, Try.ntmps45
    go_wp2_with fail
    refine (rvalid_is k e ka ea c eo bo sl gr _ _ hv.out).mono ?_
    rintro e' w1 ⟨rfl, hb⟩
    obtain ⟨hc, hf⟩ := bcell hb
    have hB := Lib.hid (((Below.refl w.heap.size w).alloc (Nat.le_refl _) (.cells #[.int .i64 k, .int .i64 e, .int .i64 ka, .int .i64 ea, .int .i64 c, .int .i64 eo, .int .i64 bo, .int .i64 sl, .int .i64 gr] 24)).trans (hb.mono (by simp)))
    replace hb := Lib.hid hb
    go_wp2_with fail
    go_loop [6, 7] (fun n j => ∃ m : Nat, (m : Int) ≤ i ∧ j = .int .i64 m ∧ n = .int .i64 (8 + m * sl)) (fun _ j => (i - intOf j).toNat)
    case atStart => exact ⟨0, by omega, rfl, by simp⟩
    case round =>
      obtain ⟨m, hm, rfl, rfl⟩ := hrel
      by_cases hlt : (m : Int) < i
      · have m0 : 0 ≤ (m : Int) * sl := Int.mul_nonneg (by omega) s0
        have m1 : (m : Int) * sl ≤ 1946 := by
          have : (m : Int) * sl ≤ 7 * sl := Int.mul_le_mul_of_nonneg_right (by omega) s0
          omega
        obtain ⟨x, hx⟩ : ∃ x, Hid (x = (m : Int) * sl) := ⟨_, rfl⟩
        rw [← hx.out] at m0 m1
        rw [← hx.out]
        have hy : Hid (8 + x + sl = 8 + ((m + 1 : Nat) : Int) * sl) := by
          unfold Hid; rw [hx.out]; rw [Int.natCast_add, Int.add_mul]; simp; omega
        go_wp2_with fail
        go_round
        case rel => exact ⟨m + 1, by omega, by go_num, by rw [← hy.out]⟩
        case measure => simp [intOf]; omega
      · have he : Hid (8 + (m : Int) * sl = placeF ⟨k, e, ka, ea, c, eo, bo, sl, gr⟩ i 0) := by unfold Hid; rw [hr.out, show i = (m : Int) by omega]
        go_wp2_with fail
        go_ret
        exact ⟨ret_int he.out, hB.out⟩
  · have hr : Hid (placeF ⟨k, e, ka, ea, c, eo, bo, sl, gr⟩ i 0 = -1) := place_no _ _ (by
      cases b with
      | true => simp at hc; omega
      | false => exact Or.inr (Or.inr hv.out))
    have hi : b = false ∨ (b = true ∧ i < 0) ∨ (b = true ∧ ¬ i < 0 ∧ 7 < i) := by
      cases b with
      | true => simp at hc; simp; omega
      | false => exact Or.inl rfl
    clear hc
    rcases hi with rfl | ⟨rfl, hi⟩ | ⟨rfl, hi, hi2⟩
    all_goals
      go_enter Try.func45, Try.ntmps45
      go_wp2_with fail
      refine (rvalid_is k e ka ea c eo bo sl gr _ _ hv.out).mono ?_
      rintro e' w1 ⟨rfl, hb⟩
      go_wp2_with fail
      go_ret
      exact ⟨ret_int hr.out.symm, ((Below.refl _ _).alloc (Nat.le_refl _) _).trans (hb.mono (by simp))⟩
theorem rat_to (k e ka ea c eo bo sl gr i r : Int) (w : World) (h : placeF ⟨k, e, ka, ea, c, eo, bo, sl, gr⟩ i 0 = r) : Calls Try.prog 45 #[.agg #[.int .i64 k, .int .i64 e, .int .i64 ka, .int .i64 ea, .int .i64 c, .int .i64 eo, .int .i64 bo, .int .i64 sl, .int .i64 gr], .int .i64 i] w fun e' w' => e' = .returned (.int .i64 r) ∧ Below w.heap.size w w' := by
  subst h; exact rat_any k e ka ea c eo bo sl gr i w
theorem rkeyAt_to (k e ka ea c eo bo sl gr i r : Int) (w : World) (h : placeF ⟨k, e, ka, ea, c, eo, bo, sl, gr⟩ i 0 = r) : Calls Try.prog 24 #[.agg #[.int .i64 k, .int .i64 e, .int .i64 ka, .int .i64 ea, .int .i64 c, .int .i64 eo, .int .i64 bo, .int .i64 sl, .int .i64 gr], .int .i64 i] w fun e' w' => e' = .returned (.int .i64 r) ∧ Below w.heap.size w w' := by
  replace h := Lib.hid h
  go_enter Try.func24, Try.ntmps24
  go_wp2_with fail
  refine (rat_to k e ka ea c eo bo sl gr i _ _ h.out).mono ?_
  rintro e' w1 ⟨rfl, hb⟩
  go_wp2_with fail
  go_ret
  exact ⟨rfl, ((Below.refl _ _).alloc (Nat.le_refl _) _).trans (hb.mono (by simp))⟩
set_option maxHeartbeats 400000 in
theorem relemAt_to (k e ka ea c eo bo sl gr i r : Int) (w : World) (h : placeF ⟨k, e, ka, ea, c, eo, bo, sl, gr⟩ i eo = r) : Calls Try.prog 26 #[.agg #[.int .i64 k, .int .i64 e, .int .i64 ka, .int .i64 ea, .int .i64 c, .int .i64 eo, .int .i64 bo, .int .i64 sl, .int .i64 gr], .int .i64 i] w fun e' w' => e' = .returned (.int .i64 r) ∧ Below w.heap.size w w' := by
  obtain ⟨b, hv⟩ : ∃ b, Hid (LV.validB ⟨k, e, ka, ea, c, eo, bo, sl, gr⟩ = b) := ⟨_, rfl⟩
  by_cases hc : b = true ∧ 0 ≤ i ∧ i ≤ 7
  · obtain ⟨rfl, h0, h7⟩ := hc
    have hbd : 0 ≤ sl ∧ sl ≤ 278 ∧ 0 ≤ eo ∧ eo ≤ 270 := by
      obtain ⟨g, a1, a2, a3, a4, a5, a6, a7, a8⟩ := valid_bounds hv.out
      have := g.e1
      simp only at *
      omega
    obtain ⟨s0, s1, s2, s3⟩ := hbd
    have m0 : 0 ≤ i * sl := Int.mul_nonneg h0 s0
    have m1 : i * sl ≤ 1946 := by
      have : i * sl ≤ 7 * sl := Int.mul_le_mul_of_nonneg_right h7 s0
      omega
    obtain ⟨x, hx⟩ : ∃ x, Hid (x = i * sl) := ⟨_, rfl⟩
    rw [← hx.out] at m0 m1
    have hp : Hid (placeF ⟨k, e, ka, ea, c, eo, bo, sl, gr⟩ i 0 = 8 + x) := by unfold Hid; rw [place_in hv.out i 0 h0 h7, ← hx.out]; simp
    have hr : Hid (8 + x + eo = r) := by unfold Hid; rw [← h, place_in hv.out i _ h0 h7, ← hx.out]
    clear h
    go_enter Try.func26, Try.ntmps26
    go_wp2_with fail
    refine (rat_to k e ka ea c eo bo sl gr i _ _ hp.out).mono ?_
    rintro e' w1 ⟨rfl, hb⟩
    obtain ⟨hc, hf⟩ := bcell hb
    have hB := Lib.hid (((Below.refl w.heap.size w).alloc (Nat.le_refl _) (.cells #[.int .i64 k, .int .i64 e, .int .i64 ka, .int .i64 ea, .int .i64 c, .int .i64 eo, .int .i64 bo, .int .i64 sl, .int .i64 gr] 24)).trans (hb.mono (by simp)))
    replace hb := Lib.hid hb
    go_wp2_with fail
    go_ret
    exact ⟨ret_int hr.out, hB.out⟩
  · have hno : i < 0 ∨ 7 < i ∨ LV.validB ⟨k, e, ka, ea, c, eo, bo, sl, gr⟩ = false := by
      cases b with
      | true => simp at hc; omega
      | false => exact Or.inr (Or.inr hv.out)
    have hp : Hid (placeF ⟨k, e, ka, ea, c, eo, bo, sl, gr⟩ i 0 = -1) := place_no _ _ hno
    have hr : Hid (-1 = r) := by unfold Hid; rw [← h, place_no _ _ hno]
    clear h hno hc
    go_enter Try.func26, Try.ntmps26
    go_wp2_with fail
    refine (rat_to k e ka ea c eo bo sl gr i _ _ hp.out).mono ?_
    rintro e' w1 ⟨rfl, hb⟩
    go_wp2_with fail
    go_ret
    exact ⟨ret_int hr.out, ((Below.refl _ _).alloc (Nat.le_refl _) _).trans (hb.mono (by simp))⟩
set_option maxHeartbeats 400000 in
theorem rbirthAt_to (k e ka ea c eo bo sl gr i r : Int) (w : World) (h : placeF ⟨k, e, ka, ea, c, eo, bo, sl, gr⟩ i bo = r) : Calls Try.prog 28 #[.agg #[.int .i64 k, .int .i64 e, .int .i64 ka, .int .i64 ea, .int .i64 c, .int .i64 eo, .int .i64 bo, .int .i64 sl, .int .i64 gr], .int .i64 i] w fun e' w' => e' = .returned (.int .i64 r) ∧ Below w.heap.size w w' := by
  obtain ⟨b, hv⟩ : ∃ b, Hid (LV.validB ⟨k, e, ka, ea, c, eo, bo, sl, gr⟩ = b) := ⟨_, rfl⟩
  by_cases hc : b = true ∧ 0 ≤ i ∧ i ≤ 7
  · obtain ⟨rfl, h0, h7⟩ := hc
    have hbd : 0 ≤ sl ∧ sl ≤ 278 ∧ 0 ≤ bo ∧ bo ≤ 270 := by
      obtain ⟨g, a1, a2, a3, a4, a5, a6, a7, a8⟩ := valid_bounds hv.out
      have := g.e1
      simp only at *
      omega
    obtain ⟨s0, s1, s2, s3⟩ := hbd
    have m0 : 0 ≤ i * sl := Int.mul_nonneg h0 s0
    have m1 : i * sl ≤ 1946 := by
      have : i * sl ≤ 7 * sl := Int.mul_le_mul_of_nonneg_right h7 s0
      omega
    obtain ⟨x, hx⟩ : ∃ x, Hid (x = i * sl) := ⟨_, rfl⟩
    rw [← hx.out] at m0 m1
    have hp : Hid (placeF ⟨k, e, ka, ea, c, eo, bo, sl, gr⟩ i 0 = 8 + x) := by unfold Hid; rw [place_in hv.out i 0 h0 h7, ← hx.out]; simp
    have hr : Hid (8 + x + bo = r) := by unfold Hid; rw [← h, place_in hv.out i _ h0 h7, ← hx.out]
    clear h
    go_enter Try.func28, Try.ntmps28
    go_wp2_with fail
    refine (rat_to k e ka ea c eo bo sl gr i _ _ hp.out).mono ?_
    rintro e' w1 ⟨rfl, hb⟩
    obtain ⟨hc, hf⟩ := bcell hb
    have hB := Lib.hid (((Below.refl w.heap.size w).alloc (Nat.le_refl _) (.cells #[.int .i64 k, .int .i64 e, .int .i64 ka, .int .i64 ea, .int .i64 c, .int .i64 eo, .int .i64 bo, .int .i64 sl, .int .i64 gr] 24)).trans (hb.mono (by simp)))
    replace hb := Lib.hid hb
    go_wp2_with fail
    go_ret
    exact ⟨ret_int hr.out, hB.out⟩
  · have hno : i < 0 ∨ 7 < i ∨ LV.validB ⟨k, e, ka, ea, c, eo, bo, sl, gr⟩ = false := by
      cases b with
      | true => simp at hc; omega
      | false => exact Or.inr (Or.inr hv.out)
    have hp : Hid (placeF ⟨k, e, ka, ea, c, eo, bo, sl, gr⟩ i 0 = -1) := place_no _ _ hno
    have hr : Hid (-1 = r) := by unfold Hid; rw [← h, place_no _ _ hno]
    clear h hno hc
    go_enter Try.func28, Try.ntmps28
    go_wp2_with fail
    refine (rat_to k e ka ea c eo bo sl gr i _ _ hp.out).mono ?_
    rintro e' w1 ⟨rfl, hb⟩
    go_wp2_with fail
    go_ret
    exact ⟨ret_int hr.out, ((Below.refl _ _).alloc (Nat.le_refl _) _).trans (hb.mono (by simp))⟩
set_option maxHeartbeats 1000000 in
theorem rgroups_to (k e ka ea c eo bo sl gr n r : Int) (w : World) (h : groupsF ⟨k, e, ka, ea, c, eo, bo, sl, gr⟩ n = r) : Calls Try.prog 30 #[.agg #[.int .i64 k, .int .i64 e, .int .i64 ka, .int .i64 ea, .int .i64 c, .int .i64 eo, .int .i64 bo, .int .i64 sl, .int .i64 gr], .int .i64 n] w fun e' w' => e' = .returned (.int .i64 r) ∧ Below w.heap.size w w' := by
  obtain ⟨b, hv⟩ : ∃ b, Hid (LV.validB ⟨k, e, ka, ea, c, eo, bo, sl, gr⟩ = b) := ⟨_, rfl⟩
  cases b with
  | false =>
    have hr : Hid (-1 = r) := by unfold Hid; rw [← h, groups_no _ (Or.inr (Or.inr (Or.inr hv.out)))]
    clear h
    go_enter Try.func30, Try.ntmps30
    go_wp2_with fail
    refine (rvalid_is k e ka ea c eo bo sl gr _ _ hv.out).mono ?_
    rintro e' w1 ⟨rfl, hb⟩
    go_wp2_with fail
    go_ret
    exact ⟨ret_int hr.out, ((Below.refl _ _).alloc (Nat.le_refl _) _).trans (hb.mono (by simp))⟩
  | true =>
    have hgr : 0 ≤ gr ∧ gr ≤ 2300 := by
      obtain ⟨g, a1, a2, a3, a4, a5, a6, a7, a8⟩ := valid_bounds hv.out
      have := g.e1
      simp only at *
      omega
    obtain ⟨g0, g1⟩ := hgr
    have hin : Hid (∀ t, isP t = true → 8 ≤ t → t ≤ 65536 → t = n → t / 8 * gr = r) := by
      intro t h1 h2 h3 h4
      subst h4
      rw [← h, groups_in hv.out t h1 h2 h3]
    have hout : Hid ((∀ q, isP q = true → 8 ≤ q → q ≤ 65536 → q ≠ n) → -1 = r) := by
      intro hq
      rw [← h, groups_no]
      by_cases h1 : isP n = true
      · by_cases h2 : 8 ≤ n
        · by_cases h3 : n ≤ 65536
          · exact absurd rfl (hq n h1 h2 h3)
          · exact Or.inr (Or.inr (Or.inl (by omega)))
        · exact Or.inr (Or.inl (by omega))
      · exact Or.inl (by simpa using h1)
    clear h
    go_enter Try.func30, Try.ntmps30
    go_wp2_with fail
    refine (rvalid_is k e ka ea c eo bo sl gr _ _ hv.out).mono ?_
    rintro e' w1 ⟨rfl, hb⟩
    obtain ⟨hc, hf⟩ := bcell hb
    have hB := Lib.hid (((Below.refl w.heap.size w).alloc (Nat.le_refl _) (.cells #[.int .i64 k, .int .i64 e, .int .i64 ka, .int .i64 ea, .int .i64 c, .int .i64 eo, .int .i64 bo, .int .i64 sl, .int .i64 gr] 24)).trans (hb.mono (by simp)))
    replace hb := Lib.hid hb
    go_wp2_with fail
    go_loop [6, 7] (fun x s => ∃ t : Int, 8 ≤ t ∧ t ≤ 131072 ∧ Hid (t = 131072 ∨ isP t = true) ∧ Hid (∀ q, isP q = true → 8 ≤ q → q < t → q ≠ n) ∧ s = .int .i64 t ∧ x = .int .i64 (t / 8 * gr)) (fun _ s => (131073 - intOf s).toNat)
    case atStart => exact ⟨8, by decide, by decide, Or.inr (by decide), (fun q _ h1 h2 => by omega), rfl, by simp⟩
    case round =>
      obtain ⟨t, t1, t2, tp, tq, rfl, rfl⟩ := hrel
      have m0 : 0 ≤ t / 8 * gr := Int.mul_nonneg (by omega) g0
      have m1 : t / 8 * gr ≤ 37683200 := by
        have : t / 8 * gr ≤ 16384 * gr := Int.mul_le_mul_of_nonneg_right (by omega) g0
        omega
      obtain ⟨x, hx⟩ : ∃ x, Hid (x = t / 8 * gr) := ⟨_, rfl⟩
      rw [← hx.out] at m0 m1
      rw [← hx.out]
      by_cases hlt : t ≤ 65536
      · have hp : Hid (isP t = true) := by rcases tp.out with h | h; omega; exact h
        by_cases he : t = n
        · have hr : Hid (x = r) := by rw [hx.out]; exact hin.out t hp.out t1 hlt he
          have he2 : (t == n) = true := by simp [he]
          clear he
          go_wp2_with fail
          go_ret
          exact ⟨ret_int hr.out, hB.out⟩
        · have he2 : (t == n) = false := by simp; exact he
          have hn : Hid (∀ q, isP q = true → 8 ≤ q → q < 2 * t → q ≠ n) := by
            intro q h1 h2 h3 h4
            have := isP_gap hp.out h1 h3
            by_cases h5 : q = t
            · subst h5; exact he h4
            · exact tq.out q h1 h2 (by omega) h4
          have hd : Hid (2 * t = 131072 ∨ isP (2 * t) = true) := by
            by_cases h6 : t ≤ 32768
            · exact Or.inr (isP_dbl hp.out h6)
            · have h7 := isP_gap (show isP 65536 = true by decide) hp.out (by omega)
              have h8 := isP_gap hp.out (show isP 65536 = true by decide)
              left; omega
          have hy : Hid (2 * x = 2 * t / 8 * gr) := by
            unfold Hid
            have e8 : 2 * t / 8 = 2 * (t / 8) := by
              have h9 := hp.out
              simp only [isP, Bool.or_eq_true, beq_iff_eq] at h9
              omega
            rw [e8, Int.mul_assoc, ← hx.out]
          clear he
          go_wp2_with fail
          go_round
          case rel => exact ⟨2 * t, by omega, by omega, hd, hn, rfl, by rw [← hy.out]⟩
          case measure => simp [intOf]; omega
      · have hr : Hid (-1 = r) := hout.out (fun q h1 h2 h3 => tq.out q h1 h2 (by omega))
        go_wp2_with fail
        go_ret
        exact ⟨ret_int hr.out, hB.out⟩
end Go.Proofs.Ytlfppmdehkhjiaa
