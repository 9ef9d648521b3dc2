/- What is proved here: the walk of the law LayoutTight. The numbers are ints. -/
import Derived.Test.YtlfppmdehkhjiaaLRight
namespace Go.Proofs.Ytlfppmdehkhjiaa
set_option linter.unusedVariables false
set_option linter.unusedSimpArgs false
open Go.RowKit Pl
theorem five_cells {w : World} {g t : Nat} {a b c d e : Value} (h : w.heap[g]? = some (.cells #[a, b, c, d, e] t (0, 0))) :
    w.cell? ⟨g, 0, none⟩ = some a ∧ w.cell? ⟨g, 1, none⟩ = some b ∧ w.cell? ⟨g, 2, none⟩ = some c ∧ w.cell? ⟨g, 3, none⟩ = some d ∧ w.cell? ⟨g, 4, none⟩ = some e ∧ (∀ i, w.frozen? ⟨g, i, none⟩ = false) := by
  refine ⟨?_, ?_, ?_, ?_, ?_, fun i => ?_⟩ <;> simp [World.cell?, World.frozen?, h]
set_option maxRecDepth 100000 in
set_option maxHeartbeats 1000000 in
theorem tight_all (K E A B C D X : Int) (w : World) (hK : -9223372036854775808 ≤ K ∧ K ≤ 9223372036854775807) (hE : -9223372036854775808 ≤ E ∧ E ≤ 9223372036854775807) (hA : -9223372036854775808 ≤ A ∧ A ≤ 9223372036854775807) (hB : -9223372036854775808 ≤ B ∧ B ≤ 9223372036854775807) (hC : -9223372036854775808 ≤ C ∧ C ≤ 9223372036854775807) :
    Calls Try.prog 4 #[.agg #[.int .i64 K, .int .i64 E, .int .i64 A, .int .i64 B, .int .i64 C, .int .i64 D, .int .i64 X]] w fun e' w' => e' = .returned (.bool true) ∧ Below w.heap.size w w' := by
  go_enter Try.func4, Try.ntmps4
  go_wp2_with fail
  refine (right_any K E A B C D X _ hK hE hA hB hC).mono ?_
  rintro e' w1 ⟨g, k, e, ka, ea, c, hgood, rfl, hg1, hg2, hb1, hblk⟩
  obtain ⟨q0, q1, q2, q3, q4, hfz⟩ := five_cells hblk
  obtain ⟨eo, bo, sl, gr, L⟩ := last_of hgood
  have hpe := Lib.hid (perr_zero.2 hgood)
  have hpd := Lib.hid L.parsed
  have L' := Lib.hid L
  replace hblk := Lib.hid hblk
  have gk2 := hgood.k2
  have ge1 := hgood.e1
  have gk1 := hgood.k1
  clear L hgood
  go_wp2_with fail
  refine (parse_to g 0 5 k e ka ea c _ _ _ hpd.out hpe.out hg2 q0 q1 q2 q3 q4).mono ?_
  rintro e' w2 ⟨rfl, hb2⟩
  obtain ⟨hc2, hf2⟩ := bcell hb2
  have hB := Below.then ((Below.refl w.heap.size w).alloc (Nat.le_refl _) _) (Below.then hb1 hb2)
  go_wp2_with fail
  have hg3 : g < w2.heap.size := by have := hb2.size; omega
  obtain ⟨_, l1, l2, l3, l4, l5, l6, l7, l8, l9, l10, l11, l12⟩ := L'.out
  have l6' : Int.tmod bo 8 = 0 := by rw [Int.tmod_eq_emod_of_nonneg (by omega)]; exact l6
  have e1 : Hid (IntKind.i64.wrap (bo - eo) = bo - eo) := IntWalk.i64_in _ (by omega)
  have e2 : Hid (IntKind.i64.wrap (bo - eo - e) = bo - eo - e) := IntWalk.i64_in _ (by omega)
  have d1 : Hid (decide (eo - k < 0) = false) := by unfold Hid; simp; omega
  have d2 : Hid (decide (ea ≤ eo - k) = false) := by unfold Hid; simp; omega
  have d3 : Hid (decide (bo - eo - e < 0) = false) := by unfold Hid; simp; omega
  have d4 : Hid (decide (7 < bo - eo - e) = false) := by unfold Hid; simp; omega
  have d5 : ¬ ea = 0 := by omega
  have d6 : Hid ((bo + 8 == bo + 8) = true) := by unfold Hid; simp
  have p7 : Hid (sl = bo + 8) := l7
  have p8 : Hid (gr = 8 * sl + 8) := l8
  have p3 : Hid (Int.tmod eo ea = 0) := l3
  have p6 : Hid (Int.tmod bo 8 = 0) := l6'
  have p6b : Hid (bo % 8 = 0) := l6
  have z1 : k ≤ eo := l1
  have z2 : sl ≤ 278 := by omega
  have z3 : 0 ≤ sl := by omega
  have z4 : 0 ≤ bo := by omega
  clear l1 l2 l3 l4 l5 l6 l6' l7 l8 L'
  go_quiet (fail)
  go_wp2_with fail
  replace e1 := e1.out
  replace e2 := e2.out
  go_quiet (fail)
  go_wp2_with fail
  replace d1 := d1.out
  replace d2 := d2.out
  replace d3 := d3.out
  replace d4 := d4.out
  replace p3 := p3.out
  replace p6 := p6.out
  replace p6b := p6b.out
  go_quiet (fail)
  go_wp2_with fail
  go_quiet (fail)
  clear e1 e2 d1 d2 d3 d4 p3 p6
  go_wp2_with fail
  go_ret
  refine ⟨ret_bool ?_, by repeat (first | exact hB | refine below_drewN ?_ _ | refine Below.alloc ?_ hB.size _)⟩
  have r7 := p7.out
  have r8 := p8.out
  simp
  omega
end Go.Proofs.Ytlfppmdehkhjiaa
