/- What is proved here: the walk of the law LayoutApart. The numbers are ints. -/
import Derived.Test.YtlfppmdehkhjiaaLSlot
namespace Go.Proofs.Ytlfppmdehkhjiaa
set_option linter.unusedVariables false
set_option linter.unusedSimpArgs false
open Go.RowKit Pl Ps
/-- the layout lies in block lb, the marks in block gb, nothing old has turned -/
structure LA (w0 : World) (gb : Nat) (O : List Bool) (lb : Nat) (cs : Array Value) (w : World) : Prop where
  b : Below w0.heap.size w0 w
  o : Blk w gb (bls O) 4
  l : Blk w lb cs 24
  hg : w0.heap.size ≤ gb
  ne : lb ≠ gb
theorem LA.mark {w0 w w' : World} {gb lb : Nat} {O O' : List Bool} {cs : Array Value} (h : LA w0 gb O lb cs w) (ho : Blk w' gb (bls O') 4) (ht : Turns [gb] w w') : LA w0 gb O' lb cs w' :=
  ⟨Turns.below h.b ht (by simp; exact h.hg) h.b.size, ho, h.l.turn ht (by simpa using h.ne), h.hg, h.ne⟩
theorem la_mark {w0 w : World} {gb lb : Nat} {O : List Bool} {cs : Array Value} (hS : LA w0 gb O lb cs w) (N0 : Nat) (hN0 : O.length = N0) (off n c : Nat) (I N : Int) (hI : I = off) (hN : N = n) (hf : FreeFrom O off) (hfit : off + n ≤ N0) (hl : N0 ≤ 1000000) :
    Calls Try.prog 20 #[.slice (some ⟨gb, 0, none⟩) N0 c, .int .i64 I, .int .i64 N] w fun e w' => e = .returned (.bool true) ∧ ∃ O' : List Bool, O'.length = N0 ∧ FreeFrom O' (off + n) ∧ LA w0 gb O' lb cs w' := by
  subst hN0
  exact (mark_in O gb off n c I N hI hN w hS.o hf hfit hl).mono fun _ _ ⟨he, ⟨O', h1, h2, h3⟩, ht⟩ => ⟨he, O', h1, h2, hS.mark h3 ht⟩
set_option maxRecDepth 100000 in
set_option maxHeartbeats 2000000 in
theorem apart_all (K E A B C D X : Int) (w : World) (hK : -9223372036854775808 ≤ K ∧ K ≤ 9223372036854775807) (hE : -9223372036854775808 ≤ E ∧ E ≤ 9223372036854775807) (hA : -9223372036854775808 ≤ A ∧ A ≤ 9223372036854775807) (hB : -9223372036854775808 ≤ B ∧ B ≤ 9223372036854775807) (hC : -9223372036854775808 ≤ C ∧ C ≤ 9223372036854775807) :
    Calls Try.prog 6 #[.agg #[.int .i64 K, .int .i64 E, .int .i64 A, .int .i64 B, .int .i64 C, .int .i64 D, .int .i64 X]] w fun e' w' => e' = .returned (.bool true) ∧ Below w.heap.size w w' := by
  go_enter Try.func6, Try.ntmps6
  go_wp2_with fail
  refine (right_any K E A B C D X _ hK hE hA hB hC).mono ?_
  rintro e' w1 ⟨g, k, e, ka, ea, c, hgood, rfl, hg1, hg2, hb1, hblk⟩
  obtain ⟨q0, q1, q2, q3, q4, hfz⟩ := five_cells hblk
  obtain ⟨eo, bo, sl, gr, L⟩ := last_of hgood
  have hpe := Lib.hid (perr_zero.2 hgood)
  have hpd := Lib.hid L.parsed
  have hv := Lib.hid (L.valid hgood)
  have L' := Lib.hid L
  replace hblk := Lib.hid hblk
  have gk2 := hgood.k2
  have ge1 := hgood.e1
  have gk1 := hgood.k1
  clear L hgood
  go_wp2_with fail
  refine (parse_to g 0 5 k e ka ea c _ _ _ hpd.out hpe.out hg2 q0 q1 q2 q3 q4).mono ?_
  rintro e' w2 ⟨rfl, hb2⟩
  obtain ⟨hc2, hf2⟩ := bcell hb2
  have hB := Below.then ((Below.refl w.heap.size w).alloc (Nat.le_refl _) _) (Below.then hb1 hb2)
  have hg3 : g < w2.heap.size := by have := hb2.size; omega
  have z2 : sl ≤ 278 := by have := L'.out.slv; have := L'.out.boT; omega
  have z3 : 16 ≤ sl := by have := L'.out.slv; have := L'.out.bo1; have := L'.out.eo1; have := L'.out.bo3; omega
  have z5 : 0 ≤ eo := by have := L'.out.eo1; omega
  have z6 : eo ≤ 135 := L'.out.eoT
  have z7 : 0 ≤ bo := by have := L'.out.bo1; omega
  have z8 : bo ≤ 270 := L'.out.boT
  have hgr : Hid (gr = 8 * sl + 8) := L'.out.grv
  have hX : Box w w2.heap.size k e ka ea c eo bo sl gr (w2.alloc (.cells #[.int .i64 k, .int .i64 e, .int .i64 ka, .int .i64 ea, .int .i64 c, .int .i64 eo, .int .i64 bo, .int .i64 sl, .int .i64 gr] 24)) :=
    ⟨hB.alloc hB.size _, by go_simp, by go_simp, by go_simp, by go_simp, by go_simp, by go_simp, by go_simp, by go_simp, by go_simp⟩
  have hgood := perr_zero.1 hpe.out
  have y1 := L'.out.eo1
  have y2 := L'.out.bo1
  have y3 := L'.out.slv
  have y4 := L'.out.grv
  have gl1 : 1 ≤ gr := by omega
  have gl2 : gr ≤ 4096 := by omega
  obtain ⟨k, rfl⟩ := Int.eq_ofNat_of_zero_le (by omega : 0 ≤ k)
  obtain ⟨e, rfl⟩ := Int.eq_ofNat_of_zero_le (by omega : 0 ≤ e)
  obtain ⟨eo, rfl⟩ := Int.eq_ofNat_of_zero_le (by omega : 0 ≤ eo)
  obtain ⟨bo, rfl⟩ := Int.eq_ofNat_of_zero_le (by omega : 0 ≤ bo)
  obtain ⟨sl, rfl⟩ := Int.eq_ofNat_of_zero_le (by omega : 0 ≤ sl)
  obtain ⟨gr, rfl⟩ := Int.eq_ofNat_of_zero_le (by omega : 0 ≤ gr)
  have y5 : gr = 8 * sl + 8 := by omega
  clear y1 y2 y3 y4 hgr z2 z3 z5 z6 z7 z8
  have y6 : sl ≤ 511 := by omega
  replace y5 := Lib.hid y5
  replace hgood := Lib.hid hgood
  have e1 : decide ((gr : Int) < 1) = false := by simp; omega
  have e2 : decide (4096 < (gr : Int)) = false := by simp; omega
  have e3 : ((gr : Int) % 8 != 0) = false := by have := y5.out; simp; omega
  have e4 : (ka != ka) = false := by simp
  have e5 : (ea != ea) = false := by simp
  have e6 : ((k : Int) != k) = false := by simp
  have e7 : ((e : Int) != e) = false := by simp
  obtain ⟨lb, hlb⟩ : ∃ b, Hid (b = w2.heap.size) := ⟨_, rfl⟩
  have hLb := Lib.hid (Blk.new w2 #[.int .i64 k, .int .i64 e, .int .i64 ka, .int .i64 ea, .int .i64 c, .int .i64 eo, .int .i64 bo, .int .i64 sl, .int .i64 gr] 24)
  obtain ⟨qb, u0, u1, u2, u3, u4, u5, u6, u7, u8⟩ := id hX
  replace hX := Lib.hid hX
  replace hB := Lib.hid hB
  go_wp2_with fail
  go_quiet (fail)
  go_wp2_with (at_make; refine wpList_make_bools rfl _ _ rfl gr gr rfl rfl (by omega) (by omega) ?_)
  have hLA : LA w (w2.heap.size + 1) (List.replicate gr false) w2.heap.size #[.int .i64 k, .int .i64 e, .int .i64 ka, .int .i64 ea, .int .i64 c, .int .i64 eo, .int .i64 bo, .int .i64 sl, .int .i64 gr] (((w2.alloc (.cells #[.int .i64 k, .int .i64 e, .int .i64 ka, .int .i64 ea, .int .i64 c, .int .i64 eo, .int .i64 bo, .int .i64 sl, .int .i64 gr] 24)).drewN nq).alloc (.cells (bls (List.replicate gr false)) 4)) :=
    ⟨(below_drewN (hB.out.alloc hB.out.size _) nq).alloc (by have := hB.out.size; simp; omega) _, by simpa using Blk.new ((w2.alloc (.cells #[.int .i64 k, .int .i64 e, .int .i64 ka, .int .i64 ea, .int .i64 c, .int .i64 eo, .int .i64 bo, .int .i64 sl, .int .i64 gr] 24)).drewN nq) (bls (List.replicate gr false)) 4, (hLb.out.drewN nq).alloc _, by have := hB.out.size; omega, by omega⟩
  refine (la_mark hLA gr (by simp) 0 8 gr _ _ rfl rfl (fun j h1 h2 => by rw [List.length_replicate] at h2; rw [List.getElem?_replicate, if_pos h2]) (by have := y5.out; omega) (by omega)).mono ?_
  rintro e' w4 ⟨rfl, O, hO, hf, hS⟩
  replace hO := Lib.hid hO
  replace hf := Lib.hid hf
  replace hS := Lib.hid hS
  clear hLA hLb hX hB u0 u1 u2 u3 u4 u5 u6 u7 u8 qb
  go_wp2_with fail
  go_loopw [7, 8] (fun t i wr => ∃ j : Nat, j ≤ 8 ∧ i = .int .i64 j ∧ t = .bool true ∧ ∃ O : List Bool, O.length = gr ∧ FreeFrom O (8 + j * sl) ∧ LA w (w2.heap.size + 1) O w2.heap.size #[.int .i64 k, .int .i64 e, .int .i64 ka, .int .i64 ea, .int .i64 c, .int .i64 eo, .int .i64 bo, .int .i64 sl, .int .i64 gr] wr) (fun _ i _ => (8 - intOf i).toNat)
  case atStart => exact ⟨0, by omega, rfl, rfl, O, hO.out, by simpa using hf.out, hS.out⟩
  case round =>
    obtain ⟨j, hj, rfl, rfl, O, hO, hf, hS⟩ := hrel
    have cl := hS.l.cell
    replace hO := Lib.hid hO
    replace hf := Lib.hid hf
    replace hS := Lib.hid hS
    by_cases hlt : j < 8
    · obtain ⟨x, hx⟩ : ∃ x : Nat, Hid (x = 8 + j * sl) := ⟨_, rfl⟩
      rw [← hx.out] at hf
      go_wp2_with fail
      refine (slot_in k e eo bo sl x gr ka ea c gr hgood.out L'.out j hlt (by rw [hx.out]; simp) O hO.out rfl _ _ _ hS.out.o hf.out).mono ?_
      rintro e' w5 ⟨rfl, ⟨O2, hO2, hf2, ho2⟩, ht2⟩
      have hS2 := Lib.hid (hS.out.mark ho2 ht2)
      have hx2 : Hid (x + sl = 8 + (j + 1) * sl) := by unfold Hid; rw [hx.out, Nat.add_mul]; omega
      replace hO2 := Lib.hid hO2
      replace hf2 := Lib.hid hf2
      replace ho2 := Lib.hid ho2
      replace ht2 := Lib.hid ht2
      go_wp2_with fail
      go_roundw
      case rel => exact ⟨j + 1, by omega, by go_num, rfl, O2, hO2.out, by rw [← hx2.out]; exact hf2.out, hS2.out⟩
      case measure => simp [intOf]; omega
    · go_wp2_with fail
      go_ret
      exact ⟨rfl, hS.out.b⟩
end Go.Proofs.Ytlfppmdehkhjiaa
