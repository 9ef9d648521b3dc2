/- What is proved here: the walk of the law LayoutPlaces. Conditions: asks that lie in memory. -/
import Derived.Test.YtlfppmdehkhjiaaRFixed
namespace Go.Proofs.Ytlfppmdehkhjiaa
set_option linter.unusedVariables false
set_option linter.unusedSimpArgs false
open Go.RowKit Pl
/-- a row of asks: a layout and a number each -/
def AsksAt (w : World) (A : Option Addr) (asks : List (LV × Int)) : Prop :=
  ∀ i l n, asks[i]? = some (l, n) → ∃ g o, A = some ⟨g, o, none⟩ ∧ w.cell? ⟨g, o + i * 10, none⟩ = some (.int .i64 l.k) ∧ w.cell? ⟨g, o + i * 10 + 1, none⟩ = some (.int .i64 l.e) ∧ w.cell? ⟨g, o + i * 10 + 2, none⟩ = some (.int .i64 l.ka) ∧ w.cell? ⟨g, o + i * 10 + 3, none⟩ = some (.int .i64 l.ea) ∧ w.cell? ⟨g, o + i * 10 + 4, none⟩ = some (.int .i64 l.c) ∧ w.cell? ⟨g, o + i * 10 + 5, none⟩ = some (.int .i64 l.eo) ∧ w.cell? ⟨g, o + i * 10 + 6, none⟩ = some (.int .i64 l.bo) ∧ w.cell? ⟨g, o + i * 10 + 7, none⟩ = some (.int .i64 l.sl) ∧ w.cell? ⟨g, o + i * 10 + 8, none⟩ = some (.int .i64 l.gr) ∧ w.cell? ⟨g, o + i * 10 + 9, none⟩ = some (.int .i64 n)
theorem later {w w1 : World} (hb : Below w.heap.size w w1) {g o : Nat} {v : Value} (h : w.cell? ⟨g, o, none⟩ = some v) : w1.cell? ⟨g, o, none⟩ = some v :=
  (hb.cell (p := ⟨g, o, none⟩) (World.block_lt_of_cell? w _ h)).trans h
set_option maxHeartbeats 4000000 in
set_option maxRecDepth 100000 in
theorem places_all (A : Option Addr) (cc : Nat) (asks : List (LV × Int)) (w : World) (ha : AsksAt w A asks) (hl : asks.length ≤ 9223372036854775807) : Calls Try.prog 7 #[.slice A asks.length cc] w fun e' w' => e' = .returned (.bool true) ∧ Below w.heap.size w w' := by
  have hge : Hid (groupsF ⟨5, 4, 1, 4, 64, 8, 16, 24, 200⟩ 16 = 400) := ex_groups
  go_enter Try.func7, Try.ntmps7
  go_wp2_with fail
  go_loopw [3] (fun i wr => ∃ j : Nat, j ≤ asks.length ∧ i = .int .i64 j ∧ Below w.heap.size w wr) (fun i _ => (asks.length - (intOf i).toNat))
  case atStart => exact ⟨0, by omega, rfl, Below.refl _ _⟩
  case round =>
    obtain ⟨j, hj, rfl, hB⟩ := hrel
    by_cases hlt : j < asks.length
    · obtain ⟨⟨l, n⟩, hs⟩ : ∃ s, Hid (asks[j]? = some s) := ⟨_, List.getElem?_eq_getElem hlt⟩
      obtain ⟨g, o, rfl, y0, y1, y2, y3, y4, y5, y6, y7, y8, y9⟩ := ha j l n hs.out
      obtain ⟨k, e, ka, ea, c, eo, bo, sl, gr⟩ := l
      replace y0 := later hB y0
      replace y1 := later hB y1
      replace y2 := later hB y2
      replace y3 := later hB y3
      replace y4 := later hB y4
      replace y5 := later hB y5
      replace y6 := later hB y6
      replace y7 := later hB y7
      replace y8 := later hB y8
      replace y9 := later hB y9
      simp only at y0 y1 y2 y3 y4 y5 y6 y7 y8 y9
      have hglt : g < wr.heap.size := World.block_lt_of_cell? wr _ y0
      obtain ⟨vb, hvb⟩ : ∃ b, Hid (LV.validB ⟨k, e, ka, ea, c, eo, bo, sl, gr⟩ = b) := ⟨_, rfl⟩
      obtain ⟨r1, hr1⟩ : ∃ x, Hid (placeF ⟨k, e, ka, ea, c, eo, bo, sl, gr⟩ n 0 = x) := ⟨_, rfl⟩
      obtain ⟨r2, hr2⟩ : ∃ x, Hid (placeF ⟨k, e, ka, ea, c, eo, bo, sl, gr⟩ n eo = x) := ⟨_, rfl⟩
      obtain ⟨r3, hr3⟩ : ∃ x, Hid (placeF ⟨k, e, ka, ea, c, eo, bo, sl, gr⟩ n bo = x) := ⟨_, rfl⟩
      obtain ⟨r4, hr4⟩ : ∃ x, Hid (groupsF ⟨k, e, ka, ea, c, eo, bo, sl, gr⟩ n = x) := ⟨_, rfl⟩
      have hX : Box w wr.heap.size k e ka ea c eo bo sl gr (wr.alloc (.cells #[.int .i64 k, .int .i64 e, .int .i64 ka, .int .i64 ea, .int .i64 c, .int .i64 eo, .int .i64 bo, .int .i64 sl, .int .i64 gr] 24)) :=
        ⟨hB.alloc hB.size _, by go_simp, by go_simp, by go_simp, by go_simp, by go_simp, by go_simp, by go_simp, by go_simp, by go_simp⟩
      replace hB := Lib.hid hB
      have hbb : (vb != vb) = false := by simp
      have hb1 : (r1 != r1) = false := by simp
      have hb2 : (r2 != r2) = false := by simp
      have hb3 : (r3 != r3) = false := by simp
      have hb4 : (r4 != r4) = false := by simp
      obtain ⟨qb, q0, q1, q2, q3, q4, q5, q6, q7, q8⟩ := id hX
      go_wp2_with fail
      go_cut [26] (fun v wc => v = .bool false ∧ Box w wr.heap.size k e ka ea c eo bo sl gr wc)
      case first =>
        go_region_held3 (fun w' => Below w.heap.size w w' ∧ w'.cell? ⟨wr.heap.size, 0, none⟩ = some (.int .i64 k) ∧ w'.cell? ⟨wr.heap.size, 1, none⟩ = some (.int .i64 e) ∧ w'.cell? ⟨wr.heap.size, 2, none⟩ = some (.int .i64 ka) ∧ w'.cell? ⟨wr.heap.size, 3, none⟩ = some (.int .i64 ea) ∧ w'.cell? ⟨wr.heap.size, 4, none⟩ = some (.int .i64 c) ∧ w'.cell? ⟨wr.heap.size, 5, none⟩ = some (.int .i64 eo) ∧ w'.cell? ⟨wr.heap.size, 6, none⟩ = some (.int .i64 bo) ∧ w'.cell? ⟨wr.heap.size, 7, none⟩ = some (.int .i64 sl) ∧ w'.cell? ⟨wr.heap.size, 8, none⟩ = some (.int .i64 gr)) (first | exact ⟨hX.below, hX.c0, hX.c1, hX.c2, hX.c3, hX.c4, hX.c5, hX.c6, hX.c7, hX.c8⟩ | exact ⟨hX.below.drew, hX.c0, hX.c1, hX.c2, hX.c3, hX.c4, hX.c5, hX.c6, hX.c7, hX.c8⟩ | exact ⟨below_drewN hX.below _, hX.c0, hX.c1, hX.c2, hX.c3, hX.c4, hX.c5, hX.c6, hX.c7, hX.c8⟩ | exact ⟨(below_drewN hX.below _).drew, hX.c0, hX.c1, hX.c2, hX.c3, hX.c4, hX.c5, hX.c6, hX.c7, hX.c8⟩ | go_keep) ((first | (go_at_call 18; (first | with_reducible refine (keeps (valid_is k e ka ea c eo bo sl gr _ _ hvb.out) (fun w' hb => Box.keep (by first | exact hX | exact hX.drew1 | exact hX.drew _) w' hb)).mono ?_); rintro e' w' ⟨rfl, hX⟩; obtain ⟨qb, q0, q1, q2, q3, q4, q5, q6, q7, q8⟩ := id hX) | (go_at_call 22; (first | with_reducible refine (keeps (rvalid_is k e ka ea c eo bo sl gr _ _ hvb.out) (fun w' hb => Box.keep (by first | exact hX | exact hX.drew1 | exact hX.drew _) w' hb)).mono ?_); rintro e' w' ⟨rfl, hX⟩; obtain ⟨qb, q0, q1, q2, q3, q4, q5, q6, q7, q8⟩ := id hX)))
        all_goals
          go_wp2_with fail
          go_meet
          case rel => exact ⟨rfl, by first | exact hX | exact hX.drew1 | exact hX.drew _⟩
      case rest =>
        obtain ⟨rfl, hX⟩ := hcut
        obtain ⟨qb, q0, q1, q2, q3, q4, q5, q6, q7, q8⟩ := id hX
        go_wp2_with fail
        go_cut [51] (fun v wc => v = .bool false ∧ Box w wr.heap.size k e ka ea c eo bo sl gr wc)
        case first =>
          go_region_held3 (fun w' => Below w.heap.size w w' ∧ w'.cell? ⟨wr.heap.size, 0, none⟩ = some (.int .i64 k) ∧ w'.cell? ⟨wr.heap.size, 1, none⟩ = some (.int .i64 e) ∧ w'.cell? ⟨wr.heap.size, 2, none⟩ = some (.int .i64 ka) ∧ w'.cell? ⟨wr.heap.size, 3, none⟩ = some (.int .i64 ea) ∧ w'.cell? ⟨wr.heap.size, 4, none⟩ = some (.int .i64 c) ∧ w'.cell? ⟨wr.heap.size, 5, none⟩ = some (.int .i64 eo) ∧ w'.cell? ⟨wr.heap.size, 6, none⟩ = some (.int .i64 bo) ∧ w'.cell? ⟨wr.heap.size, 7, none⟩ = some (.int .i64 sl) ∧ w'.cell? ⟨wr.heap.size, 8, none⟩ = some (.int .i64 gr)) (first | exact ⟨hX.below, hX.c0, hX.c1, hX.c2, hX.c3, hX.c4, hX.c5, hX.c6, hX.c7, hX.c8⟩ | exact ⟨hX.below.drew, hX.c0, hX.c1, hX.c2, hX.c3, hX.c4, hX.c5, hX.c6, hX.c7, hX.c8⟩ | exact ⟨below_drewN hX.below _, hX.c0, hX.c1, hX.c2, hX.c3, hX.c4, hX.c5, hX.c6, hX.c7, hX.c8⟩ | exact ⟨(below_drewN hX.below _).drew, hX.c0, hX.c1, hX.c2, hX.c3, hX.c4, hX.c5, hX.c6, hX.c7, hX.c8⟩ | go_keep) ((first | (go_at_call 23; (first | with_reducible refine (keeps (keyAt_to k e ka ea c eo bo sl gr n _ _ hr1.out) (fun w' hb => Box.keep (by first | exact hX | exact hX.drew1 | exact hX.drew _) w' hb)).mono ?_); rintro e' w' ⟨rfl, hX⟩; obtain ⟨qb, q0, q1, q2, q3, q4, q5, q6, q7, q8⟩ := id hX) | (go_at_call 24; (first | with_reducible refine (keeps (rkeyAt_to k e ka ea c eo bo sl gr n _ _ hr1.out) (fun w' hb => Box.keep (by first | exact hX | exact hX.drew1 | exact hX.drew _) w' hb)).mono ?_); rintro e' w' ⟨rfl, hX⟩; obtain ⟨qb, q0, q1, q2, q3, q4, q5, q6, q7, q8⟩ := id hX) | (go_at_call 25; (first | with_reducible refine (keeps (elemAt_to k e ka ea c eo bo sl gr n _ _ hr2.out) (fun w' hb => Box.keep (by first | exact hX | exact hX.drew1 | exact hX.drew _) w' hb)).mono ?_); rintro e' w' ⟨rfl, hX⟩; obtain ⟨qb, q0, q1, q2, q3, q4, q5, q6, q7, q8⟩ := id hX) | (go_at_call 26; (first | with_reducible refine (keeps (relemAt_to k e ka ea c eo bo sl gr n _ _ hr2.out) (fun w' hb => Box.keep (by first | exact hX | exact hX.drew1 | exact hX.drew _) w' hb)).mono ?_); rintro e' w' ⟨rfl, hX⟩; obtain ⟨qb, q0, q1, q2, q3, q4, q5, q6, q7, q8⟩ := id hX) | (go_at_call 27; (first | with_reducible refine (keeps (birthAt_to k e ka ea c eo bo sl gr n _ _ hr3.out) (fun w' hb => Box.keep (by first | exact hX | exact hX.drew1 | exact hX.drew _) w' hb)).mono ?_); rintro e' w' ⟨rfl, hX⟩; obtain ⟨qb, q0, q1, q2, q3, q4, q5, q6, q7, q8⟩ := id hX) | (go_at_call 28; (first | with_reducible refine (keeps (rbirthAt_to k e ka ea c eo bo sl gr n _ _ hr3.out) (fun w' hb => Box.keep (by first | exact hX | exact hX.drew1 | exact hX.drew _) w' hb)).mono ?_); rintro e' w' ⟨rfl, hX⟩; obtain ⟨qb, q0, q1, q2, q3, q4, q5, q6, q7, q8⟩ := id hX)))
          all_goals
            go_wp2_with fail
            go_meet
            case rel => exact ⟨rfl, by first | exact hX | exact hX.drew1 | exact hX.drew _⟩
        case rest =>
          obtain ⟨rfl, hX⟩ := hcut
          obtain ⟨qb, q0, q1, q2, q3, q4, q5, q6, q7, q8⟩ := id hX
          go_wp2_with fail
          go_cut [58] (fun v wc => v = .bool false ∧ Box w wr.heap.size k e ka ea c eo bo sl gr wc)
          case first =>
            go_region_held3 (fun w' => Below w.heap.size w w' ∧ w'.cell? ⟨wr.heap.size, 0, none⟩ = some (.int .i64 k) ∧ w'.cell? ⟨wr.heap.size, 1, none⟩ = some (.int .i64 e) ∧ w'.cell? ⟨wr.heap.size, 2, none⟩ = some (.int .i64 ka) ∧ w'.cell? ⟨wr.heap.size, 3, none⟩ = some (.int .i64 ea) ∧ w'.cell? ⟨wr.heap.size, 4, none⟩ = some (.int .i64 c) ∧ w'.cell? ⟨wr.heap.size, 5, none⟩ = some (.int .i64 eo) ∧ w'.cell? ⟨wr.heap.size, 6, none⟩ = some (.int .i64 bo) ∧ w'.cell? ⟨wr.heap.size, 7, none⟩ = some (.int .i64 sl) ∧ w'.cell? ⟨wr.heap.size, 8, none⟩ = some (.int .i64 gr)) (first | exact ⟨hX.below, hX.c0, hX.c1, hX.c2, hX.c3, hX.c4, hX.c5, hX.c6, hX.c7, hX.c8⟩ | exact ⟨hX.below.drew, hX.c0, hX.c1, hX.c2, hX.c3, hX.c4, hX.c5, hX.c6, hX.c7, hX.c8⟩ | exact ⟨below_drewN hX.below _, hX.c0, hX.c1, hX.c2, hX.c3, hX.c4, hX.c5, hX.c6, hX.c7, hX.c8⟩ | exact ⟨(below_drewN hX.below _).drew, hX.c0, hX.c1, hX.c2, hX.c3, hX.c4, hX.c5, hX.c6, hX.c7, hX.c8⟩ | go_keep) ((first | (go_at_call 29; (first | with_reducible refine (keeps (groups_to k e ka ea c eo bo sl gr n _ _ hr4.out) (fun w' hb => Box.keep (by first | exact hX | exact hX.drew1 | exact hX.drew _) w' hb)).mono ?_); rintro e' w' ⟨rfl, hX⟩; obtain ⟨qb, q0, q1, q2, q3, q4, q5, q6, q7, q8⟩ := id hX) | (go_at_call 30; (first | with_reducible refine (keeps (rgroups_to k e ka ea c eo bo sl gr n _ _ hr4.out) (fun w' hb => Box.keep (by first | exact hX | exact hX.drew1 | exact hX.drew _) w' hb)).mono ?_); rintro e' w' ⟨rfl, hX⟩; obtain ⟨qb, q0, q1, q2, q3, q4, q5, q6, q7, q8⟩ := id hX)))
            all_goals
              go_wp2_with fail
              go_meet
              case rel => exact ⟨rfl, by first | exact hX | exact hX.drew1 | exact hX.drew _⟩
          case rest =>
            obtain ⟨rfl, hX⟩ := hcut
            go_wp2_with fail
            go_roundw
            case rel => exact ⟨j + 1, by omega, by go_num, hX.below⟩
            case measure => simp [intOf]; omega
    · replace hB := Lib.hid hB
      go_wp2_with fail
      refine (fixed_any _).mono ?_
      rintro e' w1 ⟨rfl, hb1⟩
      replace hB := Lib.hid (Below.then hB.out hb1)
      clear hb1
      go_wp2_with fail
      refine (example_any _).mono ?_
      rintro e' w2 ⟨rfl, hb1⟩
      replace hB := Lib.hid (Below.then hB.out hb1)
      clear hb1
      go_wp2_with fail
      refine (groups_to 5 4 1 4 64 8 16 24 200 16 _ _ hge.out).mono ?_
      rintro e' w3 ⟨rfl, hb1⟩
      replace hB := Lib.hid (Below.then hB.out hb1)
      clear hb1
      go_wp2_with fail
      go_ret
      exact ⟨rfl, hB.out⟩
end Go.Proofs.Ytlfppmdehkhjiaa
