/- What is proved here: the contracts of larderlaw03's mod and Right. -/
import Derived.Test.YtlfppmdehkhjiaaLPlace
namespace Go.Proofs.Ytlfppmdehkhjiaa
set_option linter.unusedVariables false
set_option linter.unusedSimpArgs false
open Go.RowKit Pl
theorem mod_any (n m : Int) (w : World) (h1 : 1 ≤ m) (h2 : m ≤ 1000) (h3 : -9223372036854775808 ≤ n) (h4 : n ≤ 9223372036854775807) : Calls Try.prog 19 #[.int .i64 n, .int .i64 m] w fun e w' => e = .returned (.int .i64 (n % m)) ∧ w = w' := by
  have h0 : (m == 0) = false := beq_eq_false_iff_ne.2 (by omega)
  have hr := Lib.hid (Int.tmod_eq_emod (a := n) (b := m))
  have b1 : Int.tmod n m < m := Int.tmod_lt_of_pos n (by omega)
  have b2 : -m < Int.tmod n m := Int.lt_tmod_of_pos n (by omega)
  by_cases hn : Int.tmod n m < 0
  · have he : Hid (n % m = Int.tmod n m + m) := by
      unfold Hid
      have := hr.out
      split at this
      · rename_i hh
        have h5 := Int.emod_nonneg n (show m ≠ 0 by omega)
        omega
      · rw [Int.natAbs_of_nonneg (by omega)] at this; omega
    go_enter Try.func19, Try.ntmps19
    go_wp2_with fail
    go_ret
    exact ⟨ret_int he.out.symm, rfl⟩
  · have he : Hid (n % m = Int.tmod n m) := by
      unfold Hid
      have := hr.out
      split at this
      · omega
      · rw [Int.natAbs_of_nonneg (by omega)] at this
        have h5 := Int.emod_lt_of_pos n (show 0 < m by omega)
        omega
    go_enter Try.func19, Try.ntmps19
    go_wp2_with fail
    go_ret
    exact ⟨ret_int he.out.symm, rfl⟩
theorem mod_to (n m r : Int) (w : World) (h1 : 1 ≤ m) (h2 : m ≤ 1000) (h3 : -9223372036854775808 ≤ n) (h4 : n ≤ 9223372036854775807) (hr : n % m = r) : Calls Try.prog 19 #[.int .i64 n, .int .i64 m] w fun e w' => e = .returned (.int .i64 r) ∧ w = w' := by
  subst hr; exact mod_any n m w h1 h2 h3 h4
theorem heap_last (w : World) (o : Obj) (b : Nat) (hb : b = w.heap.size) : (w.alloc o).drew.heap[b]? = some o := by
  subst hb
  show (w.heap.push o)[w.heap.size]? = _
  simp
/-- what Right leaves: a new list of five numbers that are right -/
def RightPost (w : World) (e' : Ending) (w' : World) : Prop := ∃ (g : Nat) (k e ka ea c : Int), Pl.Good k e ka ea c ∧ e' = .returned (.slice (some ⟨g, 0, none⟩) 5 5) ∧ w.heap.size ≤ g ∧ g < w'.heap.size ∧ Below w.heap.size w w' ∧
  w'.heap[g]? = some (.cells #[.int .i64 k, .int .i64 e, .int .i64 ka, .int .i64 ea, .int .i64 c] 3 (0, 0))
theorem right_any (K E A B C D X : Int) (w : World) (hK : -9223372036854775808 ≤ K ∧ K ≤ 9223372036854775807) (hE : -9223372036854775808 ≤ E ∧ E ≤ 9223372036854775807) (hA : -9223372036854775808 ≤ A ∧ A ≤ 9223372036854775807) (hB : -9223372036854775808 ≤ B ∧ B ≤ 9223372036854775807) (hC : -9223372036854775808 ≤ C ∧ C ≤ 9223372036854775807) :
    Calls Try.prog 17 #[.agg #[.int .i64 K, .int .i64 E, .int .i64 A, .int .i64 B, .int .i64 C, .int .i64 D, .int .i64 X]] w (RightPost w) := by
  obtain ⟨a, ha⟩ := Int.eq_ofNat_of_zero_le (Int.emod_nonneg A (show (4 : Int) ≠ 0 by decide))
  obtain ⟨b, hb⟩ := Int.eq_ofNat_of_zero_le (Int.emod_nonneg B (show (4 : Int) ≠ 0 by decide))
  obtain ⟨c, hc⟩ := Int.eq_ofNat_of_zero_le (Int.emod_nonneg C (show (7 : Int) ≠ 0 by decide))
  have a3 : a ≤ 3 := by omega
  have b3 : b ≤ 3 := by omega
  have c6 : c ≤ 6 := by omega
  have hc' := Lib.hid hc
  have ha' := Lib.hid ha
  have hb' := Lib.hid hb
  clear hc ha hb
  obtain ⟨ka, hk2⟩ : ∃ x, (2 : Int) ^ a = x := ⟨_, rfl⟩
  obtain ⟨ea, he2⟩ : ∃ x, (2 : Int) ^ b = x := ⟨_, rfl⟩
  obtain ⟨cp, hc2⟩ : ∃ x, (16 : Int) * 2 ^ c = x := ⟨_, rfl⟩
  have s1 : Hid (wrap64 (2 ^ a) = ka) := (shl_small a (by omega)).1.trans hk2
  have s2 : Hid (wrap64 (2 ^ b) = ea) := (shl_small b (by omega)).1.trans he2
  have s4 : Hid (IntKind.i64.wrap (16 * 2 ^ min c 64) = cp) := (shl_cap c c6).trans hc2
  have hcap : Hid (pwF cp 16 1024 = true) := by have := cap_small c c6; rw [hc2] at this; exact this
  have hka : Hid (ka = 1 ∨ ka = 2 ∨ ka = 4 ∨ ka = 8) := by
    unfold Hid; rw [← hk2]
    rcases (by omega : a = 0 ∨ a = 1 ∨ a = 2 ∨ a = 3) with rfl | rfl | rfl | rfl <;> decide
  have hea : Hid (ea = 1 ∨ ea = 2 ∨ ea = 4 ∨ ea = 8) := by
    unfold Hid; rw [← he2]
    rcases (by omega : b = 0 ∨ b = 1 ∨ b = 2 ∨ b = 3) with rfl | rfl | rfl | rfl <;> decide
  have s5 : Hid (IntKind.i64.wrap (16 * 2 ^ c) = cp) := by have := s4.out; rw [Nat.min_eq_left (by omega)] at this; exact this
  clear hk2 he2 hc2
  obtain ⟨q1, hq1⟩ : ∃ q, Hid (128 / ka = q) := ⟨_, rfl⟩
  obtain ⟨q2, hq2⟩ : ∃ q, Hid (128 / ea = q) := ⟨_, rfl⟩
  have z1 : ¬ ka = 0 := by have := hka.out; omega
  have z2 : ¬ ea = 0 := by have := hea.out; omega
  have t1 : Hid (IntKind.i64.wrap (Int.tdiv 128 ka) = q1) := by unfold Hid; rw [← hq1.out]; rcases hka.out with h | h | h | h <;> (rw [h]; decide)
  have t2 : Hid (IntKind.i64.wrap (Int.tdiv 128 ea) = q2) := by unfold Hid; rw [← hq2.out]; rcases hea.out with h | h | h | h <;> (rw [h]; decide)
  have r1 : 16 ≤ q1 ∧ q1 ≤ 128 := by rw [← hq1.out]; rcases hka.out with h | h | h | h <;> (rw [h]; decide)
  have r2 : 16 ≤ q2 ∧ q2 ≤ 128 := by rw [← hq2.out]; rcases hea.out with h | h | h | h <;> (rw [h]; decide)
  obtain ⟨r11, r12⟩ := r1
  obtain ⟨r21, r22⟩ := r2
  have t3 : Hid (IntKind.i64.wrap (q2 + 1) = q2 + 1) := IntWalk.i64_in _ (by omega)
  obtain ⟨kq, hkq⟩ : ∃ q, Hid (K % q1 = q) := ⟨_, rfl⟩
  obtain ⟨eq, heq⟩ : ∃ q, Hid (E % (q2 + 1) = q) := ⟨_, rfl⟩
  have k1 : 0 ≤ kq := by rw [← hkq.out]; exact Int.emod_nonneg _ (by omega)
  have k2 : kq < q1 := by rw [← hkq.out]; exact Int.emod_lt_of_pos _ (by omega)
  have e1 : 0 ≤ eq := by rw [← heq.out]; exact Int.emod_nonneg _ (by omega)
  have e2 : eq < q2 + 1 := by rw [← heq.out]; exact Int.emod_lt_of_pos _ (by omega)
  have t4 : Hid (IntKind.i64.wrap (1 + kq) = 1 + kq) := IntWalk.i64_in _ (by omega)
  have hgood : Hid (Pl.Good (ka * (1 + kq)) (ea * eq) ka ea cp) := good_of ka ea _ _ cp kq eq hka.out hea.out rfl k1 (by rw [hq1.out]; exact k2) rfl e1 (by rw [hq2.out]; exact e2) hcap.out
  have t5 : Hid (IntKind.i64.wrap (ka * (1 + kq)) = ka * (1 + kq)) := by have := hgood.out.k1; have := hgood.out.k2; exact IntWalk.i64_in _ (by omega)
  have t6 : Hid (IntKind.i64.wrap (ea * eq) = ea * eq) := by have := hgood.out.e1; have := hgood.out.e2; exact IntWalk.i64_in _ (by omega)
  have l1 : 1 ≤ q1 := by omega
  have l2 : q1 ≤ 1000 := by omega
  have l3 : 1 ≤ q2 + 1 := by omega
  have l4 : q2 + 1 ≤ 1000 := by omega
  have y1 : 1 ≤ ka := by have := hka.out; omega
  have y2 : 1 ≤ ea := by have := hea.out; omega
  replace s1 := s1.out
  replace s2 := s2.out
  replace s4 := s4.out
  replace t1 := t1.out
  replace t2 := t2.out
  replace t3 := t3.out
  replace t4 := t4.out
  replace t5 := t5.out
  replace t6 := t6.out
  go_enter Try.func17, Try.ntmps17
  go_wp2_with (go_at_call 19; (first | with_reducible refine (mod_to A 4 a _ (by decide) (by decide) hA.1 hA.2 ha'.out).mono ?_ | with_reducible refine (mod_to B 4 b _ (by decide) (by decide) hB.1 hB.2 hb'.out).mono ?_); rintro e w' ⟨rfl, rfl⟩)
  go_region_held3 (fun w' => w'.cell? ⟨w.heap.size, 0, none⟩ = some (.int .i64 K) ∧ w'.cell? ⟨w.heap.size, 1, none⟩ = some (.int .i64 E) ∧ w'.cell? ⟨w.heap.size, 4, none⟩ = some (.int .i64 C)) (go_keep)
    ((first | (go_at_call 19; (first | with_reducible refine (mod_to K q1 kq _ l1 l2 hK.1 hK.2 hkq.out).mono ?_ | with_reducible refine (mod_to E (q2 + 1) eq _ l3 l4 hE.1 hE.2 heq.out).mono ?_ | with_reducible refine (mod_to C 7 c _ (by decide) (by decide) hC.1 hC.2 hc'.out).mono ?_); rintro e w' ⟨rfl, rfl⟩)))
  clear s1 s2 s4 t1 t2 t3 t4 t5 t6
  go_wp2_with fail
  go_ret
  exact ⟨w.heap.size + 1, _, _, ka, ea, cp, hgood.out, rfl, by omega, by simp, (((Below.refl _ _).alloc (Nat.le_refl _) _).alloc (by simp) _).drew, by rw [s5.out]; exact heap_last _ _ _ (by simp)⟩
end Go.Proofs.Ytlfppmdehkhjiaa
