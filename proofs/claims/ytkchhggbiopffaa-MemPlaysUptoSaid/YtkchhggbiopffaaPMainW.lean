/- What is proved here: the walk of the law MemPlays. Conditions: a script of bulk at most 1048576 that lies in memory. -/
import Derived.Test.YtkchhggbiopffaaPMain
namespace Go.Proofs.Ytkchhggbiopffaa
set_option linter.unusedVariables false
set_option linter.unusedSimpArgs false
open Go.RowKit Pm
theorem ends_side {w0 w : World} {mv rv : Value} {foot : List Nat} {N : Nat} (h : SideAt w0 w mv rv foot N) (hN : N ≤ 100000000000) : Calls Try.prog 32 #[mv, rv] w fun e w' => e = .returned (.bool true) ∧ Below w.heap.size w w' := by
  rcases h with ⟨rfl, rfl, _⟩ | ⟨p, q, r, L, n, V, A, rfl, rfl, _, hP, hl, _⟩
  · exact ends_nil _ w
  · exact ends_any hP (by omega)
theorem SideAt.nil {w0 w : World} {mv rv : Value} {foot : List Nat} {N : Nat} (h : SideAt w0 w mv rv foot N) : ∃ b, ((b = true ∧ mv = .pointer none) ∨ (b = false ∧ ∃ p, mv = .pointer (some ⟨p, 0, none⟩))) ∧ ((b = true ∧ rv = .pointer none) ∨ (b = false ∧ ∃ p, rv = .pointer (some ⟨p, 0, none⟩))) := by
  rcases h with ⟨rfl, rfl, _⟩ | ⟨p, q, r, L, n, V, A, rfl, rfl, _⟩
  · exact ⟨true, Or.inl ⟨rfl, rfl⟩, Or.inl ⟨rfl, rfl⟩⟩
  · exact ⟨false, Or.inr ⟨rfl, _, rfl⟩, Or.inr ⟨rfl, _, rfl⟩⟩
theorem guard_ptr (mv : Value) (b : Bool) (h : (b = true ∧ mv = .pointer none) ∨ (b = false ∧ ∃ p, mv = .pointer (some ⟨p, 0, none⟩))) (t : TypeId) (x y : Operand) (w : World) : (eqGuard .eql t x y mv (.pointer none)).run Try.prog w = .ok () w := by
  rcases h with ⟨rfl, rfl⟩ | ⟨rfl, a, rfl⟩
  · rfl
  · rfl
set_option maxHeartbeats 4000000 in
set_option maxRecDepth 100000 in
theorem memPlays_all (first second : Int) (A : Option Addr) (cc : Nat) (os : List OpV) (m : Nat) (w : World) (hn : os.length = m) (ha : OpsAt w A os) (hm : m ≤ 1048576) :
    Calls Try.prog 12 #[.int .i64 first, .int .i64 second, .slice A m cc] w fun e w' => e = .returned (.bool true) ∧ Below w.heap.size w w' := by
  go_enter Try.func12, Try.ntmps12
  go_wp2_with fail
  refine (new_made first _).mono ?_
  rintro e w1 hM1
  obtain ⟨mv1, rfl, -, -⟩ := id hM1
  replace hM1 := Lib.hid hM1
  go_wp2_with fail
  refine (rnew_made first _).mono ?_
  rintro e w2 hR1
  obtain ⟨rv1, rfl, -, -⟩ := id hR1
  replace hR1 := Lib.hid hR1
  go_wp2_with fail
  refine (new_made second _).mono ?_
  rintro e w3 hM2
  obtain ⟨mv2, rfl, -, -⟩ := id hM2
  replace hM2 := Lib.hid hM2
  go_wp2_with fail
  refine (rnew_made second _).mono ?_
  rintro e w4 hR2
  obtain ⟨rv2, rfl, -, -⟩ := id hR2
  obtain ⟨f1, hs1, _, hB2, _⟩ := made_side (Below.refl w.heap.size w) hM1.out hR1.out
  obtain ⟨f2, hs2, hf2, hB4, hb24⟩ := made_side hB2 hM2.out hR2
  have hd : Hid (∀ x, x ∈ f1 → ¬ x ∈ f2) := fun x hx hx2 => by have := hs1.lt x hx; have := hf2 x hx2; omega
  have hs1' := hs1.keep hb24
  obtain ⟨b1, hn1, hn2⟩ := hs1'.nil
  obtain ⟨b2, hn3, hn4⟩ := hs2.nil
  have p1 := ptr_eq_mem mv1 b1 hn1
  have p2 := ptr_eq_ref rv1 b1 hn2
  have p3 := ptr_eq_mem mv2 b2 hn3
  have p4 := ptr_eq_ref rv2 b2 hn4
  have g1 := guard_ptr mv1 b1 hn1
  have g2 := guard_ptr rv1 b1 hn2
  have g3 := guard_ptr mv2 b2 hn3
  have g4 := guard_ptr rv2 b2 hn4
  replace hs1 := Lib.hid hs1'
  replace hs2 := Lib.hid hs2
  replace hB4 := Lib.hid hB4
  clear hs1' hM1 hM2 hR1 hR2 hn1 hn2 hn3 hn4 hf2 hB2 hb24
  go_wp2_with fail
  clear p1 p2 p3 p4 g1 g2 g3 g4
  go_loopw [61] (fun iv wr => ∃ (j : Nat) (f1 f2 : List Nat), j ≤ m ∧ iv = .int .i64 j ∧ Hid (Below w.heap.size w wr) ∧ Hid (SideAt w wr mv1 rv1 f1 j) ∧ Hid (SideAt w wr mv2 rv2 f2 j) ∧ Hid (∀ x, x ∈ f1 → ¬ x ∈ f2)) (fun iv _ => (m - intOf iv).toNat)
  case atStart => exact ⟨0, f1, f2, by omega, rfl, hB4.out, hs1.out, hs2.out, hd.out⟩
  case round =>
    clear hs1 hs2 hd hB4
    obtain ⟨j, f1, f2, hj, rfl, hB, hs1, hs2, hd⟩ := hrel
    by_cases hlt : j < m
    · obtain ⟨op, hop⟩ : ∃ o, Hid (os[j]? = some o) := ⟨_, List.getElem?_eq_getElem (by rw [hn]; exact hlt)⟩
      obtain ⟨hok, g, o, rfl, c0, c1, c2, c3, c4, c5, c6⟩ := ha j op hop.out
      obtain ⟨kd, mm, a, b, nn, v, A0, ss, k9⟩ := op
      simp only at c0 c1 c2 c3 c4 c5 c6
      have lift : ∀ {i : Nat} {x : Value}, w.cell? ⟨g, i, none⟩ = some x → wr.cell? ⟨g, i, none⟩ = some x := fun {i x} hc => (hB.out.cell (p := ⟨g, i, none⟩) (World.block_lt_of_cell? w _ hc)).trans hc
      replace c0 := lift c0
      replace c1 := lift c1
      replace c2 := lift c2
      replace c3 := lift c3
      replace c4 := lift c4
      replace c5 := lift c5
      replace c6 := lift c6
      clear lift
      replace hok := Lib.hid hok
      have hB1 := Lib.hid (hB.out.alloc hB.out.size (.cells #[.int .i64 kd, .int .i64 mm, .int .i64 a, .int .i64 b, .int .i64 nn, .int .u64 v, .slice A0 ss.length k9] 59))
      have hbn : Below wr.heap.size wr (wr.alloc (.cells #[.int .i64 kd, .int .i64 mm, .int .i64 a, .int .i64 b, .int .i64 nn, .int .u64 v, .slice A0 ss.length k9] 59)) := (Below.refl _ _).alloc (Nat.le_refl _) _
      have hO := Lib.hid (Blk.new wr #[.int .i64 kd, .int .i64 mm, .int .i64 a, .int .i64 b, .int .i64 nn, .int .u64 v, .slice A0 ss.length k9] 59)
      have hs1p := hs1
      replace hs1 := Lib.hid (hs1.out.keep hbn)
      replace hs2 := Lib.hid (hs2.out.keep hbn)
      clear hbn
      go_upto_region 10 with (fail)
      clear c0 c1 c2 c3 c4 c5 c6
      obtain ⟨ob, hob⟩ : ∃ ob, Hid (ob = wr.heap.size) := ⟨_, rfl⟩
      rw [← hob.out] at hO
      rw [← hob.out]
      have hnb1 : Hid (∀ x, x ∈ f1 → x ≠ ob) := fun x hx => by have := hs1p.out.lt x hx; have := hob.out; omega
      have hoblt : Hid (w.heap.size ≤ ob) := by unfold Hid; rw [hob.out]; exact hB.out.size
      generalize World.alloc wr _ = wz at hO hB1 hs1 hs2 ⊢
      have o0 : wz.cell? ⟨ob, 0, none⟩ = some (.int .i64 kd) := hO.out.cell 0
      have o1 : wz.cell? ⟨ob, 1, none⟩ = some (.int .i64 mm) := hO.out.cell 1
      have o2 : wz.cell? ⟨ob, 2, none⟩ = some (.int .i64 a) := hO.out.cell 2
      have o3 : wz.cell? ⟨ob, 3, none⟩ = some (.int .i64 b) := hO.out.cell 3
      have o4 : wz.cell? ⟨ob, 4, none⟩ = some (.int .i64 nn) := hO.out.cell 4
      have o5 : wz.cell? ⟨ob, 5, none⟩ = some (.int .u64 v) := hO.out.cell 5
      have o6 : wz.cell? ⟨ob, 6, none⟩ = some (.slice A0 ss.length k9) := hO.out.cell 6
      by_cases m0 : mm = 0
      · as_aux_lemma =>
        subst m0
        rcases hs1.out with ⟨rfl, rfl, rfl⟩ | ⟨p, q, r, L, n, V, AA, rfl, rfl, rfl, hP, hl, hold⟩
        · go_wp2_with fail
          go_roundw
          case rel => exact ⟨j + 1, _, _, by omega, by go_num, hB1.out, hs1.out.more (by omega), hs2.out.more (by omega), hd.out⟩
          case measure => simp [intOf]; omega
        · have hpl := plays_any hP kd 0 a b nn v A0 k9 ss ss.length hok.out.hv rfl (fun i s hi => by
            obtain ⟨g', o', e', hc'⟩ := hok.out.strs i s hi
            exact ⟨g', o', e', (hB1.out.cell (p := ⟨g', o' + i, none⟩) (World.block_lt_of_cell? w _ hc')).trans hc'⟩) hok.out.sum hok.out.len hok.out.each (by omega) hok.out.ho (fun x e hne => by
            have hx : x.block < w.heap.size := by
              obtain ⟨s, hs⟩ := List.exists_mem_of_ne_nil _ hne
              obtain ⟨i, hi, rfl⟩ := List.mem_iff_getElem.1 hs
              obtain ⟨g', o', e', hc'⟩ := hok.out.strs i _ (List.getElem?_eq_getElem hi)
              rw [e] at e'
              obtain rfl := Option.some.inj e'
              have h9 := World.block_lt_of_cell? w _ hc'
              exact h9
            have h1 := hold p (by simp)
            have h2 := hold q (by simp)
            have h3 := hold r (by simp)
            refine ⟨by omega, by omega, by omega, fun e5 => ?_, by have := hB1.out.size; omega⟩
            have := hold x.block (by simp [e5])
            omega)
          unfold opv at hpl
          replace hpl := Lib.hid hpl
          replace hP := Lib.hid hP
          replace hold := Lib.hid hold
          go_wp2_with fail
          refine hpl.out.mono ?_
          rintro e w5 hpd
          obtain ⟨rfl, hB5, f9, hs9, hin, ht⟩ := side_step hB1.out hP.out hl hold.out hpd
          have hsz := hB1.out.size
          have hob9 : ob < wz.heap.size := hO.out.lt
          have h2' := Lib.hid (hs2.out.turn ht (fun x hx hx2 => hd.out x hx2 hx))
          have hd9 : Hid (∀ x, x ∈ f9 → ¬ x ∈ f2) := fun x hx hx2 => by
            rcases hin x hx with h1 | h1
            · exact hd.out x h1 hx2
            · have := hs2.out.lt x hx2; omega
          replace hB5 := Lib.hid hB5
          replace hs9 := Lib.hid hs9
          clear hpd
          have hnob : Hid (¬ ob ∈ p :: q :: r :: V.ownBlock.toList) := fun hx => hnb1.out ob hx rfl
          have o1' : w5.cell? ⟨ob, 1, none⟩ = some (.int .i64 0) := turn_cell ht (hnob.out) o1
          go_wp2_with fail
          go_roundw
          case rel => exact ⟨j + 1, f9, f2, by omega, by go_num, hB5.out, hs9.out, h2'.out.more (by omega), hd9.out⟩
          case measure => simp [intOf]; omega
      by_cases m1 : mm = 1
      · as_aux_lemma =>
        subst m1
        rcases hs2.out with ⟨rfl, rfl, rfl⟩ | ⟨p, q, r, L, n, V, AA, rfl, rfl, rfl, hP, hl, hold⟩
        · go_wp2_with fail
          go_roundw
          case rel => exact ⟨j + 1, _, _, by omega, by go_num, hB1.out, hs1.out.more (by omega), hs2.out.more (by omega), hd.out⟩
          case measure => simp [intOf]; omega
        · have hpl := plays_any hP kd 1 a b nn v A0 k9 ss ss.length hok.out.hv rfl (fun i s hi => by
            obtain ⟨g', o', e', hc'⟩ := hok.out.strs i s hi
            exact ⟨g', o', e', (hB1.out.cell (p := ⟨g', o' + i, none⟩) (World.block_lt_of_cell? w _ hc')).trans hc'⟩) hok.out.sum hok.out.len hok.out.each (by omega) hok.out.ho (fun x e hne => by
            have hx : x.block < w.heap.size := by
              obtain ⟨s, hs⟩ := List.exists_mem_of_ne_nil _ hne
              obtain ⟨i, hi, rfl⟩ := List.mem_iff_getElem.1 hs
              obtain ⟨g', o', e', hc'⟩ := hok.out.strs i _ (List.getElem?_eq_getElem hi)
              rw [e] at e'
              obtain rfl := Option.some.inj e'
              have h9 := World.block_lt_of_cell? w _ hc'
              exact h9
            have h1 := hold p (by simp)
            have h2 := hold q (by simp)
            have h3 := hold r (by simp)
            refine ⟨by omega, by omega, by omega, fun e5 => ?_, by have := hB1.out.size; omega⟩
            have := hold x.block (by simp [e5])
            omega)
          unfold opv at hpl
          replace hpl := Lib.hid hpl
          replace hP := Lib.hid hP
          replace hold := Lib.hid hold
          go_wp2_with fail
          refine hpl.out.mono ?_
          rintro e w5 hpd
          obtain ⟨rfl, hB5, f9, hs9, hin, ht⟩ := side_step hB1.out hP.out hl hold.out hpd
          have hsz := hB1.out.size
          have hob9 : ob < wz.heap.size := hO.out.lt
          have h2' := Lib.hid (hs1.out.turn ht (fun x hx hx2 => hd.out x hx hx2))
          have hd9 : Hid (∀ x, x ∈ f1 → ¬ x ∈ f9) := fun x hx2 hx => by
            rcases hin x hx with h1 | h1
            · exact hd.out x hx2 h1
            · have := hs1.out.lt x hx2; omega
          replace hB5 := Lib.hid hB5
          replace hs9 := Lib.hid hs9
          clear hpd
          go_wp2_with fail
          go_roundw
          case rel => exact ⟨j + 1, f1, f9, by omega, by go_num, hB5.out, h2'.out.more (by omega), hs9.out, hd9.out⟩
          case measure => simp [intOf]; omega
      · as_aux_lemma =>
        have d0 : (mm == 0) = false := by simp [m0]
        have d1 : (mm == 1) = false := by simp [m1]
        go_wp2_with fail
        go_roundw
        case rel => exact ⟨j + 1, f1, f2, by omega, by go_num, hB1.out, hs1.out.more (by omega), hs2.out.more (by omega), hd.out⟩
        case measure => simp [intOf]; omega
    · obtain rfl : j = m := by omega
      have e1 := Lib.hid (ends_side hs1.out (by omega))
      go_wp2_with fail
      refine e1.out.mono ?_
      rintro e w5 ⟨rfl, hb5⟩
      have hB5 := Lib.hid (Below.then hB.out hb5)
      have e2 := Lib.hid (ends_side (hs2.out.keep hb5) (by omega))
      go_wp2_with fail
      refine e2.out.mono ?_
      rintro e w6 ⟨rfl, hb6⟩
      have hB6 := Lib.hid (Below.then hB5.out hb6)
      go_wp2_with fail
      go_ret
      exact ⟨rfl, hB6.out⟩
end Go.Proofs.Ytkchhggbiopffaa
