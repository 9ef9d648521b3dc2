/- What is proved here: the walk of the law DirPlaces. Conditions: numbers of their kinds. -/
import Derived.Test.YtpbalilnemjeeaaDPlacesO
import Derived.Deep.RegionHeld3
namespace Go.Proofs.Ytpbalilnemjeeaa
set_option linter.unusedVariables false
set_option linter.unusedSimpArgs false
open Go.RowKit Pm Pa Pl Pd
set_option maxHeartbeats 20000000 in
set_option maxRecDepth 100000 in
theorem places_in (w : World) (A : Option Addr) (cap n : Nat) (zs : List Int) (I D Tb K : Int) (hTb : isI Tb) (hn : zs.length = n) (hz : IntsIn w A zs) (hA : A = none → n = 0 ∧ cap = 0) (hlen : n ≤ 17592186044414) (hrg : ∀ z ∈ zs, isI z) (d : Nat) (hd6 : d ≤ 6) (hnd : n = 2 ^ d) (i s : Nat) (hi : i < n) (hI : I = i) (hs : (d : Int) = D + s) (hD0 : 0 ≤ D) : Calls Try.prog 15 #[.slice A n cap, .int .i64 I, .int .i64 D, .int .i64 Tb, .int .i64 K] w fun e w' => e = .returned (.bool true) ∧ Below w.heap.size w w' := by
  have hi2 : i < 2 ^ d := by rw [← hnd]; exact hi
  have hsd : s ≤ 6 := by omega
  obtain ⟨F, hF⟩ : ∃ F : Nat, Hid (F = i / 2 ^ s * 2 ^ s) := ⟨_, rfl⟩
  obtain ⟨N, hN⟩ : ∃ N : Nat, Hid (N = 2 ^ s) := ⟨_, rfl⟩
  have hrn := run_in hi2 (show s ≤ d by omega)
  rw [← hF.out, ← hN.out, ← hnd] at hrn
  replace hs := Lib.hid hs
  subst hI
  go_enter Try.func15, Try.ntmps15
  replace hnd := Lib.hid hnd
  replace hn := Lib.hid hn
  replace hrg := Lib.hid hrg
  replace hz := Lib.hid hz
  replace hA := Lib.hid hA
  replace hTb := Lib.hid hTb
  go_upto_region 2 with (first
    | (go_at_call 53; refine (made_yes w A cap n zs hn.out hz.out hA.out hlen hrg.out d hd6 hnd.out).mono ?_; rintro e w1 ⟨p, x, L, rfl, h1, hD⟩; replace h1 := Lib.hid h1; replace hD := Lib.hid hD; unfold madeV dirV)
    | fail)
  obtain ⟨c, hc⟩ : ∃ c, Hid (c = clsN (8 * (n : Int))) := ⟨_, rfl⟩
  rw [← hc.out] at h1 hD
  have b6 := Blk.new w1 #[.pointer (some ⟨p, 0, none⟩), .int .i64 16, .int .i64 (d : Int)] 92
  have hS := h1.out.alloc (.cells #[.pointer (some ⟨p, 0, none⟩), .int .i64 16, .int .i64 (d : Int)] 92)
  have hg6 : ¬ w1.heap.size ∈ x.all p := fun hk => Nat.lt_irrefl _ (h1.out.ar.lt _ hk)
  generalize World.alloc w1 _ = w2 at b6 hS ⊢
  obtain ⟨g6, hge⟩ : ∃ g, Hid (g = w1.heap.size) := ⟨_, rfl⟩
  rw [← hge.out] at b6 hg6 ⊢
  have hV : Hid (Dv w g6 p d w2) := ⟨hS.below, b6⟩
  obtain ⟨c0, c1, c2⟩ := hV.out.cells
  replace hS := Lib.hid hS
  replace hg6 := Lib.hid hg6
  clear b6
  have hrun := fun w => dir_run w p 16 d hd6 (i : Int) D i s hi2 rfl hs.out hD0
  simp only [← hF.out] at hrun
  simp only [← hN.out] at hrun
  replace hrun := Lib.hid hrun
  replace hi2 := Lib.hid hi2
  go_upto_region 8 with (first
    | (go_at_call 56; refine (hrun.out _).mono ?_; rintro r w3 ⟨rfl, hb⟩; replace hS := Lib.hid (hS.out.keep hb); replace hV := Lib.hid (hV.out.keep hb); clear c0 c1 c2; obtain ⟨c0, c1, c2⟩ := hV.out.cells; clear hb)
    | (go_at_call 57; refine (dir_place hS.out.ar hD.out i s hi2.out _ D Tb rfl hs.out hD0 hTb.out).mono ?_; rw [← hF.out, ← hN.out]; rintro r w4 ⟨rfl, L4, hA4, hD4, t4⟩; replace hS := Lib.hid (hS.out.turned t4 hA4 (fun k hk => .inl hk)); replace hV : Hid (Dv w g6 p d w4) := ⟨hS.out.below, hV.out.blk.turn t4 hg6.out⟩; clear c0 c1 c2; obtain ⟨c0, c1, c2⟩ := hV.out.cells; replace hD := Lib.hid hD4; clear hA4 hD4 t4)
    | fail)
  clear hrun
  have hkway : K < 0 ∨ (¬ K < 0 ∧ (n : Int) ≤ K) ∨ (¬ K < 0 ∧ ¬ (n : Int) ≤ K ∧ ∃ k : Nat, K = k ∧ k < n) := by
    by_cases h1 : K < 0
    · exact .inl h1
    · by_cases h2 : (n : Int) ≤ K
      · exact .inr (.inl ⟨h1, h2⟩)
      · exact .inr (.inr ⟨h1, h2, K.toNat, by omega, by omega⟩)
  rcases hkway with q0 | ⟨q0, q1⟩ | ⟨q0, q1, k, hKk, hkn⟩
  iterate 2
    · go_wp2_with (first
        | (go_at_call 52; refine (entry_out2 hS.out.ar hD.out K (by rw [← hnd.out]; omega)).mono ?_; rintro r w6 ⟨rfl, h6⟩; replace hV := Lib.hid (hV.out.keep h6))
        | fail)
      go_ret
      exact ⟨rfl, hV.out.below⟩
  · subst hKk
    have k0 : (0 : Int) ≤ k := by omega
    have k1 : (k : Int) < n := by omega
    have i0 : ¬ (i : Int) < 0 := by omega
    have i1 : ¬ (n : Int) ≤ i := by omega
    have e0 : ¬ D < 0 := by omega
    have e1 : ¬ (d : Int) < D := by have := hs.out; omega
    obtain ⟨z, hzk⟩ : ∃ z, zs[k]? = some z := ⟨_, List.getElem?_eq_getElem (by rw [hn.out]; exact hkn)⟩
    have hpg := putN_get zs F N Tb k
    rw [hn.out, hzk] at hpg
    replace hzk := Lib.hid hzk
    obtain ⟨e', he'⟩ : ∃ e', Hid (e' = if F ≤ k ∧ k < F + N ∧ k < n then Tb else z) := ⟨_, rfl⟩
    have hpg2 : (putN zs F N Tb)[k]? = some e' := by
      rw [hpg, he'.out]
      split <;> rfl
    replace hpg2 := Lib.hid hpg2
    clear hpg
    go_upto_region 15 with (first
      | (go_at_call 52; refine (entry_in2 hS.out.ar hD.out k e' hpg2.out _ rfl).mono ?_; rintro r w6 ⟨rfl, h6⟩; replace hV := Lib.hid (hV.out.keep h6); clear c0 c1 c2; obtain ⟨c0, c1, c2⟩ := hV.out.cells; clear h6)
      | (go_at_call 51; refine (dir_depth _ _ _ _ ⟨_, rfl⟩ ⟨_, rfl⟩ ⟨_, rfl⟩).mono ?_; rintro r w5 ⟨rfl, hb5⟩; replace hV := Lib.hid (hV.out.keep hb5); clear c0 c1 c2; obtain ⟨c0, c1, c2⟩ := hV.out.cells; clear hb5)
      | fail)
    clear hpg2 hD hS hi2 hrn
    have hs7 : s = 0 ∨ s = 1 ∨ s = 2 ∨ s = 3 ∨ s = 4 ∨ s = 5 ∨ s = 6 := by omega
    rcases hs7 with rfl | rfl | rfl | rfl | rfl | rfl | rfl
    · obtain rfl : N = 1 := hN.out
      have hF2 : F = i / 1 * 1 := hF.out
      have hsub : (d : Int) - D = 0 := by have := hs.out; omega
      have hsw : IntKind.i64.wrap 0 = 0 := rfl
      have hkw : k < F ∨ (F ≤ k ∧ k < F + 1) ∨ F + 1 ≤ k := by omega
      have hkw2 : Hid (k < F ∧ e' = z ∧ ¬ k / 1 = i / 1) ∨ Hid ((F ≤ k ∧ k < F + 1) ∧ e' = Tb ∧ k / 1 = i / 1) ∨ Hid (F + 1 ≤ k ∧ e' = z ∧ ¬ k / 1 = i / 1) := by
        rcases hkw with f | ⟨f, f'⟩ | f
        · exact .inl ⟨f, by rw [he'.out, if_neg (by omega)], by omega⟩
        · exact .inr (.inl ⟨⟨f, f'⟩, by rw [he'.out, if_pos (by omega)], by omega⟩)
        · exact .inr (.inr ⟨f, by rw [he'.out, if_neg (by omega)], by omega⟩)
      clear hkw hF2 he'
      rcases hkw2 with hk | hk | hk
      · obtain ⟨hk1, rfl, hk3⟩ := hk.out
        clear hk
        have hq : ((k : Int) == (i : Int)) = false := by rw [beq_eq_false_iff_ne]; omega
        have f0 : ¬ (F : Int) ≤ k := by omega
        clear hk3
        go_region_held3 (fun W => W.cell? ⟨g6, 0, none⟩ = some (.pointer (some ⟨p, 0, none⟩)) ∧ W.cell? ⟨g6, 1, none⟩ = some (.int .i64 16) ∧ W.cell? ⟨g6, 2, none⟩ = some (.int .i64 (d : Int))) (first | exact ⟨c0, c1, c2⟩ | assumption) ((first
          | (go_at_call 51; refine (dir_depth _ _ _ _ ⟨_, rfl⟩ ⟨_, rfl⟩ ⟨_, rfl⟩).mono ?_; rintro r w5 ⟨rfl, hb5⟩; have hV := Lib.hid (Dv.keep (by first | exact hV.out | exact hV.out.drew | assumption) hb5); obtain ⟨c0, c1, c2⟩ := hV.out.cells; clear hb5)))
        all_goals obtain ⟨gg, oo, hAe, hcl⟩ := ints_below hz.out hV.out.below k _ hzk.out
        all_goals subst hAe
        all_goals go_wp2_with (first
          | (go_at_call 51; refine (dir_depth _ _ _ _ ⟨_, rfl⟩ ⟨_, rfl⟩ ⟨_, rfl⟩).mono ?_; rintro r w5 ⟨rfl, hb5⟩; replace hV := Lib.hid (hV.out.keep hb5); clear hcl; obtain ⟨gg2, oo2, hAe, hcl⟩ := ints_below hz.out hV.out.below k _ hzk.out; injection hAe with hAe; injection hAe with a1 a2; subst a1 a2)
          | fail)
        all_goals go_ret
        all_goals exact ⟨rfl, hV.out.below⟩
      · obtain ⟨hk1, rfl, hk3⟩ := hk.out
        clear hk
        have hq : ((k : Int) == (i : Int)) = true := by rw [beq_iff_eq]; omega
        obtain ⟨f1, f2⟩ := hk1
        have f0 : (F : Int) ≤ k := by omega
        have f3 : (k : Int) < (F : Int) + 1 := by omega
        clear hk3
        go_region_held3 (fun W => W.cell? ⟨g6, 0, none⟩ = some (.pointer (some ⟨p, 0, none⟩)) ∧ W.cell? ⟨g6, 1, none⟩ = some (.int .i64 16) ∧ W.cell? ⟨g6, 2, none⟩ = some (.int .i64 (d : Int))) (first | exact ⟨c0, c1, c2⟩ | assumption) ((first
          | (go_at_call 51; refine (dir_depth _ _ _ _ ⟨_, rfl⟩ ⟨_, rfl⟩ ⟨_, rfl⟩).mono ?_; rintro r w5 ⟨rfl, hb5⟩; have hV := Lib.hid (Dv.keep (by first | exact hV.out | exact hV.out.drew | assumption) hb5); obtain ⟨c0, c1, c2⟩ := hV.out.cells; clear hb5)))
        all_goals obtain ⟨gg, oo, hAe, hcl⟩ := ints_below hz.out hV.out.below k _ hzk.out
        all_goals subst hAe
        all_goals go_wp2_with (first
          | (go_at_call 51; refine (dir_depth _ _ _ _ ⟨_, rfl⟩ ⟨_, rfl⟩ ⟨_, rfl⟩).mono ?_; rintro r w5 ⟨rfl, hb5⟩; replace hV := Lib.hid (hV.out.keep hb5); clear hcl; obtain ⟨gg2, oo2, hAe, hcl⟩ := ints_below hz.out hV.out.below k _ hzk.out; injection hAe with hAe; injection hAe with a1 a2; subst a1 a2)
          | fail)
        all_goals go_ret
        all_goals exact ⟨rfl, hV.out.below⟩
      · obtain ⟨hk1, rfl, hk3⟩ := hk.out
        clear hk
        have hq : ((k : Int) == (i : Int)) = false := by rw [beq_eq_false_iff_ne]; omega
        have f0 : (F : Int) ≤ k := by omega
        have f3 : ¬ (k : Int) < (F : Int) + 1 := by omega
        clear hk3
        go_region_held3 (fun W => W.cell? ⟨g6, 0, none⟩ = some (.pointer (some ⟨p, 0, none⟩)) ∧ W.cell? ⟨g6, 1, none⟩ = some (.int .i64 16) ∧ W.cell? ⟨g6, 2, none⟩ = some (.int .i64 (d : Int))) (first | exact ⟨c0, c1, c2⟩ | assumption) ((first
          | (go_at_call 51; refine (dir_depth _ _ _ _ ⟨_, rfl⟩ ⟨_, rfl⟩ ⟨_, rfl⟩).mono ?_; rintro r w5 ⟨rfl, hb5⟩; have hV := Lib.hid (Dv.keep (by first | exact hV.out | exact hV.out.drew | assumption) hb5); obtain ⟨c0, c1, c2⟩ := hV.out.cells; clear hb5)))
        all_goals obtain ⟨gg, oo, hAe, hcl⟩ := ints_below hz.out hV.out.below k _ hzk.out
        all_goals subst hAe
        all_goals go_wp2_with (first
          | (go_at_call 51; refine (dir_depth _ _ _ _ ⟨_, rfl⟩ ⟨_, rfl⟩ ⟨_, rfl⟩).mono ?_; rintro r w5 ⟨rfl, hb5⟩; replace hV := Lib.hid (hV.out.keep hb5); clear hcl; obtain ⟨gg2, oo2, hAe, hcl⟩ := ints_below hz.out hV.out.below k _ hzk.out; injection hAe with hAe; injection hAe with a1 a2; subst a1 a2)
          | fail)
        all_goals go_ret
        all_goals exact ⟨rfl, hV.out.below⟩
    · obtain rfl : N = 2 := hN.out
      have hF2 : F = i / 2 * 2 := hF.out
      have hsub : (d : Int) - D = 1 := by have := hs.out; omega
      have hsw : IntKind.i64.wrap 1 = 1 := rfl
      have hkw : k < F ∨ (F ≤ k ∧ k < F + 2) ∨ F + 2 ≤ k := by omega
      have hkw2 : Hid (k < F ∧ e' = z ∧ ¬ k / 2 = i / 2) ∨ Hid ((F ≤ k ∧ k < F + 2) ∧ e' = Tb ∧ k / 2 = i / 2) ∨ Hid (F + 2 ≤ k ∧ e' = z ∧ ¬ k / 2 = i / 2) := by
        rcases hkw with f | ⟨f, f'⟩ | f
        · exact .inl ⟨f, by rw [he'.out, if_neg (by omega)], by omega⟩
        · exact .inr (.inl ⟨⟨f, f'⟩, by rw [he'.out, if_pos (by omega)], by omega⟩)
        · exact .inr (.inr ⟨f, by rw [he'.out, if_neg (by omega)], by omega⟩)
      clear hkw hF2 he'
      rcases hkw2 with hk | hk | hk
      · obtain ⟨hk1, rfl, hk3⟩ := hk.out
        clear hk
        have hq : ((k : Int) / 2 == (i : Int) / 2) = false := by rw [beq_eq_false_iff_ne]; omega
        have f0 : ¬ (F : Int) ≤ k := by omega
        clear hk3
        go_region_held3 (fun W => W.cell? ⟨g6, 0, none⟩ = some (.pointer (some ⟨p, 0, none⟩)) ∧ W.cell? ⟨g6, 1, none⟩ = some (.int .i64 16) ∧ W.cell? ⟨g6, 2, none⟩ = some (.int .i64 (d : Int))) (first | exact ⟨c0, c1, c2⟩ | assumption) ((first
          | (go_at_call 51; refine (dir_depth _ _ _ _ ⟨_, rfl⟩ ⟨_, rfl⟩ ⟨_, rfl⟩).mono ?_; rintro r w5 ⟨rfl, hb5⟩; have hV := Lib.hid (Dv.keep (by first | exact hV.out | exact hV.out.drew | assumption) hb5); obtain ⟨c0, c1, c2⟩ := hV.out.cells; clear hb5)))
        all_goals obtain ⟨gg, oo, hAe, hcl⟩ := ints_below hz.out hV.out.below k _ hzk.out
        all_goals subst hAe
        all_goals go_wp2_with (first
          | (go_at_call 51; refine (dir_depth _ _ _ _ ⟨_, rfl⟩ ⟨_, rfl⟩ ⟨_, rfl⟩).mono ?_; rintro r w5 ⟨rfl, hb5⟩; replace hV := Lib.hid (hV.out.keep hb5); clear hcl; obtain ⟨gg2, oo2, hAe, hcl⟩ := ints_below hz.out hV.out.below k _ hzk.out; injection hAe with hAe; injection hAe with a1 a2; subst a1 a2)
          | fail)
        all_goals go_ret
        all_goals exact ⟨rfl, hV.out.below⟩
      · obtain ⟨hk1, rfl, hk3⟩ := hk.out
        clear hk
        have hq : ((k : Int) / 2 == (i : Int) / 2) = true := by rw [beq_iff_eq]; omega
        obtain ⟨f1, f2⟩ := hk1
        have f0 : (F : Int) ≤ k := by omega
        have f3 : (k : Int) < (F : Int) + 2 := by omega
        clear hk3
        go_region_held3 (fun W => W.cell? ⟨g6, 0, none⟩ = some (.pointer (some ⟨p, 0, none⟩)) ∧ W.cell? ⟨g6, 1, none⟩ = some (.int .i64 16) ∧ W.cell? ⟨g6, 2, none⟩ = some (.int .i64 (d : Int))) (first | exact ⟨c0, c1, c2⟩ | assumption) ((first
          | (go_at_call 51; refine (dir_depth _ _ _ _ ⟨_, rfl⟩ ⟨_, rfl⟩ ⟨_, rfl⟩).mono ?_; rintro r w5 ⟨rfl, hb5⟩; have hV := Lib.hid (Dv.keep (by first | exact hV.out | exact hV.out.drew | assumption) hb5); obtain ⟨c0, c1, c2⟩ := hV.out.cells; clear hb5)))
        all_goals obtain ⟨gg, oo, hAe, hcl⟩ := ints_below hz.out hV.out.below k _ hzk.out
        all_goals subst hAe
        all_goals go_wp2_with (first
          | (go_at_call 51; refine (dir_depth _ _ _ _ ⟨_, rfl⟩ ⟨_, rfl⟩ ⟨_, rfl⟩).mono ?_; rintro r w5 ⟨rfl, hb5⟩; replace hV := Lib.hid (hV.out.keep hb5); clear hcl; obtain ⟨gg2, oo2, hAe, hcl⟩ := ints_below hz.out hV.out.below k _ hzk.out; injection hAe with hAe; injection hAe with a1 a2; subst a1 a2)
          | fail)
        all_goals go_ret
        all_goals exact ⟨rfl, hV.out.below⟩
      · obtain ⟨hk1, rfl, hk3⟩ := hk.out
        clear hk
        have hq : ((k : Int) / 2 == (i : Int) / 2) = false := by rw [beq_eq_false_iff_ne]; omega
        have f0 : (F : Int) ≤ k := by omega
        have f3 : ¬ (k : Int) < (F : Int) + 2 := by omega
        clear hk3
        go_region_held3 (fun W => W.cell? ⟨g6, 0, none⟩ = some (.pointer (some ⟨p, 0, none⟩)) ∧ W.cell? ⟨g6, 1, none⟩ = some (.int .i64 16) ∧ W.cell? ⟨g6, 2, none⟩ = some (.int .i64 (d : Int))) (first | exact ⟨c0, c1, c2⟩ | assumption) ((first
          | (go_at_call 51; refine (dir_depth _ _ _ _ ⟨_, rfl⟩ ⟨_, rfl⟩ ⟨_, rfl⟩).mono ?_; rintro r w5 ⟨rfl, hb5⟩; have hV := Lib.hid (Dv.keep (by first | exact hV.out | exact hV.out.drew | assumption) hb5); obtain ⟨c0, c1, c2⟩ := hV.out.cells; clear hb5)))
        all_goals obtain ⟨gg, oo, hAe, hcl⟩ := ints_below hz.out hV.out.below k _ hzk.out
        all_goals subst hAe
        all_goals go_wp2_with (first
          | (go_at_call 51; refine (dir_depth _ _ _ _ ⟨_, rfl⟩ ⟨_, rfl⟩ ⟨_, rfl⟩).mono ?_; rintro r w5 ⟨rfl, hb5⟩; replace hV := Lib.hid (hV.out.keep hb5); clear hcl; obtain ⟨gg2, oo2, hAe, hcl⟩ := ints_below hz.out hV.out.below k _ hzk.out; injection hAe with hAe; injection hAe with a1 a2; subst a1 a2)
          | fail)
        all_goals go_ret
        all_goals exact ⟨rfl, hV.out.below⟩
    · obtain rfl : N = 4 := hN.out
      have hF2 : F = i / 4 * 4 := hF.out
      have hsub : (d : Int) - D = 2 := by have := hs.out; omega
      have hsw : IntKind.i64.wrap 2 = 2 := rfl
      have hkw : k < F ∨ (F ≤ k ∧ k < F + 4) ∨ F + 4 ≤ k := by omega
      have hkw2 : Hid (k < F ∧ e' = z ∧ ¬ k / 4 = i / 4) ∨ Hid ((F ≤ k ∧ k < F + 4) ∧ e' = Tb ∧ k / 4 = i / 4) ∨ Hid (F + 4 ≤ k ∧ e' = z ∧ ¬ k / 4 = i / 4) := by
        rcases hkw with f | ⟨f, f'⟩ | f
        · exact .inl ⟨f, by rw [he'.out, if_neg (by omega)], by omega⟩
        · exact .inr (.inl ⟨⟨f, f'⟩, by rw [he'.out, if_pos (by omega)], by omega⟩)
        · exact .inr (.inr ⟨f, by rw [he'.out, if_neg (by omega)], by omega⟩)
      clear hkw hF2 he'
      rcases hkw2 with hk | hk | hk
      · obtain ⟨hk1, rfl, hk3⟩ := hk.out
        clear hk
        have hq : ((k : Int) / 4 == (i : Int) / 4) = false := by rw [beq_eq_false_iff_ne]; omega
        have f0 : ¬ (F : Int) ≤ k := by omega
        clear hk3
        go_region_held3 (fun W => W.cell? ⟨g6, 0, none⟩ = some (.pointer (some ⟨p, 0, none⟩)) ∧ W.cell? ⟨g6, 1, none⟩ = some (.int .i64 16) ∧ W.cell? ⟨g6, 2, none⟩ = some (.int .i64 (d : Int))) (first | exact ⟨c0, c1, c2⟩ | assumption) ((first
          | (go_at_call 51; refine (dir_depth _ _ _ _ ⟨_, rfl⟩ ⟨_, rfl⟩ ⟨_, rfl⟩).mono ?_; rintro r w5 ⟨rfl, hb5⟩; have hV := Lib.hid (Dv.keep (by first | exact hV.out | exact hV.out.drew | assumption) hb5); obtain ⟨c0, c1, c2⟩ := hV.out.cells; clear hb5)))
        all_goals obtain ⟨gg, oo, hAe, hcl⟩ := ints_below hz.out hV.out.below k _ hzk.out
        all_goals subst hAe
        all_goals go_wp2_with (first
          | (go_at_call 51; refine (dir_depth _ _ _ _ ⟨_, rfl⟩ ⟨_, rfl⟩ ⟨_, rfl⟩).mono ?_; rintro r w5 ⟨rfl, hb5⟩; replace hV := Lib.hid (hV.out.keep hb5); clear hcl; obtain ⟨gg2, oo2, hAe, hcl⟩ := ints_below hz.out hV.out.below k _ hzk.out; injection hAe with hAe; injection hAe with a1 a2; subst a1 a2)
          | fail)
        all_goals go_ret
        all_goals exact ⟨rfl, hV.out.below⟩
      · obtain ⟨hk1, rfl, hk3⟩ := hk.out
        clear hk
        have hq : ((k : Int) / 4 == (i : Int) / 4) = true := by rw [beq_iff_eq]; omega
        obtain ⟨f1, f2⟩ := hk1
        have f0 : (F : Int) ≤ k := by omega
        have f3 : (k : Int) < (F : Int) + 4 := by omega
        clear hk3
        go_region_held3 (fun W => W.cell? ⟨g6, 0, none⟩ = some (.pointer (some ⟨p, 0, none⟩)) ∧ W.cell? ⟨g6, 1, none⟩ = some (.int .i64 16) ∧ W.cell? ⟨g6, 2, none⟩ = some (.int .i64 (d : Int))) (first | exact ⟨c0, c1, c2⟩ | assumption) ((first
          | (go_at_call 51; refine (dir_depth _ _ _ _ ⟨_, rfl⟩ ⟨_, rfl⟩ ⟨_, rfl⟩).mono ?_; rintro r w5 ⟨rfl, hb5⟩; have hV := Lib.hid (Dv.keep (by first | exact hV.out | exact hV.out.drew | assumption) hb5); obtain ⟨c0, c1, c2⟩ := hV.out.cells; clear hb5)))
        all_goals obtain ⟨gg, oo, hAe, hcl⟩ := ints_below hz.out hV.out.below k _ hzk.out
        all_goals subst hAe
        all_goals go_wp2_with (first
          | (go_at_call 51; refine (dir_depth _ _ _ _ ⟨_, rfl⟩ ⟨_, rfl⟩ ⟨_, rfl⟩).mono ?_; rintro r w5 ⟨rfl, hb5⟩; replace hV := Lib.hid (hV.out.keep hb5); clear hcl; obtain ⟨gg2, oo2, hAe, hcl⟩ := ints_below hz.out hV.out.below k _ hzk.out; injection hAe with hAe; injection hAe with a1 a2; subst a1 a2)
          | fail)
        all_goals go_ret
        all_goals exact ⟨rfl, hV.out.below⟩
      · obtain ⟨hk1, rfl, hk3⟩ := hk.out
        clear hk
        have hq : ((k : Int) / 4 == (i : Int) / 4) = false := by rw [beq_eq_false_iff_ne]; omega
        have f0 : (F : Int) ≤ k := by omega
        have f3 : ¬ (k : Int) < (F : Int) + 4 := by omega
        clear hk3
        go_region_held3 (fun W => W.cell? ⟨g6, 0, none⟩ = some (.pointer (some ⟨p, 0, none⟩)) ∧ W.cell? ⟨g6, 1, none⟩ = some (.int .i64 16) ∧ W.cell? ⟨g6, 2, none⟩ = some (.int .i64 (d : Int))) (first | exact ⟨c0, c1, c2⟩ | assumption) ((first
          | (go_at_call 51; refine (dir_depth _ _ _ _ ⟨_, rfl⟩ ⟨_, rfl⟩ ⟨_, rfl⟩).mono ?_; rintro r w5 ⟨rfl, hb5⟩; have hV := Lib.hid (Dv.keep (by first | exact hV.out | exact hV.out.drew | assumption) hb5); obtain ⟨c0, c1, c2⟩ := hV.out.cells; clear hb5)))
        all_goals obtain ⟨gg, oo, hAe, hcl⟩ := ints_below hz.out hV.out.below k _ hzk.out
        all_goals subst hAe
        all_goals go_wp2_with (first
          | (go_at_call 51; refine (dir_depth _ _ _ _ ⟨_, rfl⟩ ⟨_, rfl⟩ ⟨_, rfl⟩).mono ?_; rintro r w5 ⟨rfl, hb5⟩; replace hV := Lib.hid (hV.out.keep hb5); clear hcl; obtain ⟨gg2, oo2, hAe, hcl⟩ := ints_below hz.out hV.out.below k _ hzk.out; injection hAe with hAe; injection hAe with a1 a2; subst a1 a2)
          | fail)
        all_goals go_ret
        all_goals exact ⟨rfl, hV.out.below⟩
    · obtain rfl : N = 8 := hN.out
      have hF2 : F = i / 8 * 8 := hF.out
      have hsub : (d : Int) - D = 3 := by have := hs.out; omega
      have hsw : IntKind.i64.wrap 3 = 3 := rfl
      have hkw : k < F ∨ (F ≤ k ∧ k < F + 8) ∨ F + 8 ≤ k := by omega
      have hkw2 : Hid (k < F ∧ e' = z ∧ ¬ k / 8 = i / 8) ∨ Hid ((F ≤ k ∧ k < F + 8) ∧ e' = Tb ∧ k / 8 = i / 8) ∨ Hid (F + 8 ≤ k ∧ e' = z ∧ ¬ k / 8 = i / 8) := by
        rcases hkw with f | ⟨f, f'⟩ | f
        · exact .inl ⟨f, by rw [he'.out, if_neg (by omega)], by omega⟩
        · exact .inr (.inl ⟨⟨f, f'⟩, by rw [he'.out, if_pos (by omega)], by omega⟩)
        · exact .inr (.inr ⟨f, by rw [he'.out, if_neg (by omega)], by omega⟩)
      clear hkw hF2 he'
      rcases hkw2 with hk | hk | hk
      · obtain ⟨hk1, rfl, hk3⟩ := hk.out
        clear hk
        have hq : ((k : Int) / 8 == (i : Int) / 8) = false := by rw [beq_eq_false_iff_ne]; omega
        have f0 : ¬ (F : Int) ≤ k := by omega
        clear hk3
        go_region_held3 (fun W => W.cell? ⟨g6, 0, none⟩ = some (.pointer (some ⟨p, 0, none⟩)) ∧ W.cell? ⟨g6, 1, none⟩ = some (.int .i64 16) ∧ W.cell? ⟨g6, 2, none⟩ = some (.int .i64 (d : Int))) (first | exact ⟨c0, c1, c2⟩ | assumption) ((first
          | (go_at_call 51; refine (dir_depth _ _ _ _ ⟨_, rfl⟩ ⟨_, rfl⟩ ⟨_, rfl⟩).mono ?_; rintro r w5 ⟨rfl, hb5⟩; have hV := Lib.hid (Dv.keep (by first | exact hV.out | exact hV.out.drew | assumption) hb5); obtain ⟨c0, c1, c2⟩ := hV.out.cells; clear hb5)))
        all_goals obtain ⟨gg, oo, hAe, hcl⟩ := ints_below hz.out hV.out.below k _ hzk.out
        all_goals subst hAe
        all_goals go_wp2_with (first
          | (go_at_call 51; refine (dir_depth _ _ _ _ ⟨_, rfl⟩ ⟨_, rfl⟩ ⟨_, rfl⟩).mono ?_; rintro r w5 ⟨rfl, hb5⟩; replace hV := Lib.hid (hV.out.keep hb5); clear hcl; obtain ⟨gg2, oo2, hAe, hcl⟩ := ints_below hz.out hV.out.below k _ hzk.out; injection hAe with hAe; injection hAe with a1 a2; subst a1 a2)
          | fail)
        all_goals go_ret
        all_goals exact ⟨rfl, hV.out.below⟩
      · obtain ⟨hk1, rfl, hk3⟩ := hk.out
        clear hk
        have hq : ((k : Int) / 8 == (i : Int) / 8) = true := by rw [beq_iff_eq]; omega
        obtain ⟨f1, f2⟩ := hk1
        have f0 : (F : Int) ≤ k := by omega
        have f3 : (k : Int) < (F : Int) + 8 := by omega
        clear hk3
        go_region_held3 (fun W => W.cell? ⟨g6, 0, none⟩ = some (.pointer (some ⟨p, 0, none⟩)) ∧ W.cell? ⟨g6, 1, none⟩ = some (.int .i64 16) ∧ W.cell? ⟨g6, 2, none⟩ = some (.int .i64 (d : Int))) (first | exact ⟨c0, c1, c2⟩ | assumption) ((first
          | (go_at_call 51; refine (dir_depth _ _ _ _ ⟨_, rfl⟩ ⟨_, rfl⟩ ⟨_, rfl⟩).mono ?_; rintro r w5 ⟨rfl, hb5⟩; have hV := Lib.hid (Dv.keep (by first | exact hV.out | exact hV.out.drew | assumption) hb5); obtain ⟨c0, c1, c2⟩ := hV.out.cells; clear hb5)))
        all_goals obtain ⟨gg, oo, hAe, hcl⟩ := ints_below hz.out hV.out.below k _ hzk.out
        all_goals subst hAe
        all_goals go_wp2_with (first
          | (go_at_call 51; refine (dir_depth _ _ _ _ ⟨_, rfl⟩ ⟨_, rfl⟩ ⟨_, rfl⟩).mono ?_; rintro r w5 ⟨rfl, hb5⟩; replace hV := Lib.hid (hV.out.keep hb5); clear hcl; obtain ⟨gg2, oo2, hAe, hcl⟩ := ints_below hz.out hV.out.below k _ hzk.out; injection hAe with hAe; injection hAe with a1 a2; subst a1 a2)
          | fail)
        all_goals go_ret
        all_goals exact ⟨rfl, hV.out.below⟩
      · obtain ⟨hk1, rfl, hk3⟩ := hk.out
        clear hk
        have hq : ((k : Int) / 8 == (i : Int) / 8) = false := by rw [beq_eq_false_iff_ne]; omega
        have f0 : (F : Int) ≤ k := by omega
        have f3 : ¬ (k : Int) < (F : Int) + 8 := by omega
        clear hk3
        go_region_held3 (fun W => W.cell? ⟨g6, 0, none⟩ = some (.pointer (some ⟨p, 0, none⟩)) ∧ W.cell? ⟨g6, 1, none⟩ = some (.int .i64 16) ∧ W.cell? ⟨g6, 2, none⟩ = some (.int .i64 (d : Int))) (first | exact ⟨c0, c1, c2⟩ | assumption) ((first
          | (go_at_call 51; refine (dir_depth _ _ _ _ ⟨_, rfl⟩ ⟨_, rfl⟩ ⟨_, rfl⟩).mono ?_; rintro r w5 ⟨rfl, hb5⟩; have hV := Lib.hid (Dv.keep (by first | exact hV.out | exact hV.out.drew | assumption) hb5); obtain ⟨c0, c1, c2⟩ := hV.out.cells; clear hb5)))
        all_goals obtain ⟨gg, oo, hAe, hcl⟩ := ints_below hz.out hV.out.below k _ hzk.out
        all_goals subst hAe
        all_goals go_wp2_with (first
          | (go_at_call 51; refine (dir_depth _ _ _ _ ⟨_, rfl⟩ ⟨_, rfl⟩ ⟨_, rfl⟩).mono ?_; rintro r w5 ⟨rfl, hb5⟩; replace hV := Lib.hid (hV.out.keep hb5); clear hcl; obtain ⟨gg2, oo2, hAe, hcl⟩ := ints_below hz.out hV.out.below k _ hzk.out; injection hAe with hAe; injection hAe with a1 a2; subst a1 a2)
          | fail)
        all_goals go_ret
        all_goals exact ⟨rfl, hV.out.below⟩
    · obtain rfl : N = 16 := hN.out
      have hF2 : F = i / 16 * 16 := hF.out
      have hsub : (d : Int) - D = 4 := by have := hs.out; omega
      have hsw : IntKind.i64.wrap 4 = 4 := rfl
      have hkw : k < F ∨ (F ≤ k ∧ k < F + 16) ∨ F + 16 ≤ k := by omega
      have hkw2 : Hid (k < F ∧ e' = z ∧ ¬ k / 16 = i / 16) ∨ Hid ((F ≤ k ∧ k < F + 16) ∧ e' = Tb ∧ k / 16 = i / 16) ∨ Hid (F + 16 ≤ k ∧ e' = z ∧ ¬ k / 16 = i / 16) := by
        rcases hkw with f | ⟨f, f'⟩ | f
        · exact .inl ⟨f, by rw [he'.out, if_neg (by omega)], by omega⟩
        · exact .inr (.inl ⟨⟨f, f'⟩, by rw [he'.out, if_pos (by omega)], by omega⟩)
        · exact .inr (.inr ⟨f, by rw [he'.out, if_neg (by omega)], by omega⟩)
      clear hkw hF2 he'
      rcases hkw2 with hk | hk | hk
      · obtain ⟨hk1, rfl, hk3⟩ := hk.out
        clear hk
        have hq : ((k : Int) / 16 == (i : Int) / 16) = false := by rw [beq_eq_false_iff_ne]; omega
        have f0 : ¬ (F : Int) ≤ k := by omega
        clear hk3
        go_region_held3 (fun W => W.cell? ⟨g6, 0, none⟩ = some (.pointer (some ⟨p, 0, none⟩)) ∧ W.cell? ⟨g6, 1, none⟩ = some (.int .i64 16) ∧ W.cell? ⟨g6, 2, none⟩ = some (.int .i64 (d : Int))) (first | exact ⟨c0, c1, c2⟩ | assumption) ((first
          | (go_at_call 51; refine (dir_depth _ _ _ _ ⟨_, rfl⟩ ⟨_, rfl⟩ ⟨_, rfl⟩).mono ?_; rintro r w5 ⟨rfl, hb5⟩; have hV := Lib.hid (Dv.keep (by first | exact hV.out | exact hV.out.drew | assumption) hb5); obtain ⟨c0, c1, c2⟩ := hV.out.cells; clear hb5)))
        all_goals obtain ⟨gg, oo, hAe, hcl⟩ := ints_below hz.out hV.out.below k _ hzk.out
        all_goals subst hAe
        all_goals go_wp2_with (first
          | (go_at_call 51; refine (dir_depth _ _ _ _ ⟨_, rfl⟩ ⟨_, rfl⟩ ⟨_, rfl⟩).mono ?_; rintro r w5 ⟨rfl, hb5⟩; replace hV := Lib.hid (hV.out.keep hb5); clear hcl; obtain ⟨gg2, oo2, hAe, hcl⟩ := ints_below hz.out hV.out.below k _ hzk.out; injection hAe with hAe; injection hAe with a1 a2; subst a1 a2)
          | fail)
        all_goals go_ret
        all_goals exact ⟨rfl, hV.out.below⟩
      · obtain ⟨hk1, rfl, hk3⟩ := hk.out
        clear hk
        have hq : ((k : Int) / 16 == (i : Int) / 16) = true := by rw [beq_iff_eq]; omega
        obtain ⟨f1, f2⟩ := hk1
        have f0 : (F : Int) ≤ k := by omega
        have f3 : (k : Int) < (F : Int) + 16 := by omega
        clear hk3
        go_region_held3 (fun W => W.cell? ⟨g6, 0, none⟩ = some (.pointer (some ⟨p, 0, none⟩)) ∧ W.cell? ⟨g6, 1, none⟩ = some (.int .i64 16) ∧ W.cell? ⟨g6, 2, none⟩ = some (.int .i64 (d : Int))) (first | exact ⟨c0, c1, c2⟩ | assumption) ((first
          | (go_at_call 51; refine (dir_depth _ _ _ _ ⟨_, rfl⟩ ⟨_, rfl⟩ ⟨_, rfl⟩).mono ?_; rintro r w5 ⟨rfl, hb5⟩; have hV := Lib.hid (Dv.keep (by first | exact hV.out | exact hV.out.drew | assumption) hb5); obtain ⟨c0, c1, c2⟩ := hV.out.cells; clear hb5)))
        all_goals obtain ⟨gg, oo, hAe, hcl⟩ := ints_below hz.out hV.out.below k _ hzk.out
        all_goals subst hAe
        all_goals go_wp2_with (first
          | (go_at_call 51; refine (dir_depth _ _ _ _ ⟨_, rfl⟩ ⟨_, rfl⟩ ⟨_, rfl⟩).mono ?_; rintro r w5 ⟨rfl, hb5⟩; replace hV := Lib.hid (hV.out.keep hb5); clear hcl; obtain ⟨gg2, oo2, hAe, hcl⟩ := ints_below hz.out hV.out.below k _ hzk.out; injection hAe with hAe; injection hAe with a1 a2; subst a1 a2)
          | fail)
        all_goals go_ret
        all_goals exact ⟨rfl, hV.out.below⟩
      · obtain ⟨hk1, rfl, hk3⟩ := hk.out
        clear hk
        have hq : ((k : Int) / 16 == (i : Int) / 16) = false := by rw [beq_eq_false_iff_ne]; omega
        have f0 : (F : Int) ≤ k := by omega
        have f3 : ¬ (k : Int) < (F : Int) + 16 := by omega
        clear hk3
        go_region_held3 (fun W => W.cell? ⟨g6, 0, none⟩ = some (.pointer (some ⟨p, 0, none⟩)) ∧ W.cell? ⟨g6, 1, none⟩ = some (.int .i64 16) ∧ W.cell? ⟨g6, 2, none⟩ = some (.int .i64 (d : Int))) (first | exact ⟨c0, c1, c2⟩ | assumption) ((first
          | (go_at_call 51; refine (dir_depth _ _ _ _ ⟨_, rfl⟩ ⟨_, rfl⟩ ⟨_, rfl⟩).mono ?_; rintro r w5 ⟨rfl, hb5⟩; have hV := Lib.hid (Dv.keep (by first | exact hV.out | exact hV.out.drew | assumption) hb5); obtain ⟨c0, c1, c2⟩ := hV.out.cells; clear hb5)))
        all_goals obtain ⟨gg, oo, hAe, hcl⟩ := ints_below hz.out hV.out.below k _ hzk.out
        all_goals subst hAe
        all_goals go_wp2_with (first
          | (go_at_call 51; refine (dir_depth _ _ _ _ ⟨_, rfl⟩ ⟨_, rfl⟩ ⟨_, rfl⟩).mono ?_; rintro r w5 ⟨rfl, hb5⟩; replace hV := Lib.hid (hV.out.keep hb5); clear hcl; obtain ⟨gg2, oo2, hAe, hcl⟩ := ints_below hz.out hV.out.below k _ hzk.out; injection hAe with hAe; injection hAe with a1 a2; subst a1 a2)
          | fail)
        all_goals go_ret
        all_goals exact ⟨rfl, hV.out.below⟩
    · obtain rfl : N = 32 := hN.out
      have hF2 : F = i / 32 * 32 := hF.out
      have hsub : (d : Int) - D = 5 := by have := hs.out; omega
      have hsw : IntKind.i64.wrap 5 = 5 := rfl
      have hkw : k < F ∨ (F ≤ k ∧ k < F + 32) ∨ F + 32 ≤ k := by omega
      have hkw2 : Hid (k < F ∧ e' = z ∧ ¬ k / 32 = i / 32) ∨ Hid ((F ≤ k ∧ k < F + 32) ∧ e' = Tb ∧ k / 32 = i / 32) ∨ Hid (F + 32 ≤ k ∧ e' = z ∧ ¬ k / 32 = i / 32) := by
        rcases hkw with f | ⟨f, f'⟩ | f
        · exact .inl ⟨f, by rw [he'.out, if_neg (by omega)], by omega⟩
        · exact .inr (.inl ⟨⟨f, f'⟩, by rw [he'.out, if_pos (by omega)], by omega⟩)
        · exact .inr (.inr ⟨f, by rw [he'.out, if_neg (by omega)], by omega⟩)
      clear hkw hF2 he'
      rcases hkw2 with hk | hk | hk
      · obtain ⟨hk1, rfl, hk3⟩ := hk.out
        clear hk
        have hq : ((k : Int) / 32 == (i : Int) / 32) = false := by rw [beq_eq_false_iff_ne]; omega
        have f0 : ¬ (F : Int) ≤ k := by omega
        clear hk3
        go_region_held3 (fun W => W.cell? ⟨g6, 0, none⟩ = some (.pointer (some ⟨p, 0, none⟩)) ∧ W.cell? ⟨g6, 1, none⟩ = some (.int .i64 16) ∧ W.cell? ⟨g6, 2, none⟩ = some (.int .i64 (d : Int))) (first | exact ⟨c0, c1, c2⟩ | assumption) ((first
          | (go_at_call 51; refine (dir_depth _ _ _ _ ⟨_, rfl⟩ ⟨_, rfl⟩ ⟨_, rfl⟩).mono ?_; rintro r w5 ⟨rfl, hb5⟩; have hV := Lib.hid (Dv.keep (by first | exact hV.out | exact hV.out.drew | assumption) hb5); obtain ⟨c0, c1, c2⟩ := hV.out.cells; clear hb5)))
        all_goals obtain ⟨gg, oo, hAe, hcl⟩ := ints_below hz.out hV.out.below k _ hzk.out
        all_goals subst hAe
        all_goals go_wp2_with (first
          | (go_at_call 51; refine (dir_depth _ _ _ _ ⟨_, rfl⟩ ⟨_, rfl⟩ ⟨_, rfl⟩).mono ?_; rintro r w5 ⟨rfl, hb5⟩; replace hV := Lib.hid (hV.out.keep hb5); clear hcl; obtain ⟨gg2, oo2, hAe, hcl⟩ := ints_below hz.out hV.out.below k _ hzk.out; injection hAe with hAe; injection hAe with a1 a2; subst a1 a2)
          | fail)
        all_goals go_ret
        all_goals exact ⟨rfl, hV.out.below⟩
      · obtain ⟨hk1, rfl, hk3⟩ := hk.out
        clear hk
        have hq : ((k : Int) / 32 == (i : Int) / 32) = true := by rw [beq_iff_eq]; omega
        obtain ⟨f1, f2⟩ := hk1
        have f0 : (F : Int) ≤ k := by omega
        have f3 : (k : Int) < (F : Int) + 32 := by omega
        clear hk3
        go_region_held3 (fun W => W.cell? ⟨g6, 0, none⟩ = some (.pointer (some ⟨p, 0, none⟩)) ∧ W.cell? ⟨g6, 1, none⟩ = some (.int .i64 16) ∧ W.cell? ⟨g6, 2, none⟩ = some (.int .i64 (d : Int))) (first | exact ⟨c0, c1, c2⟩ | assumption) ((first
          | (go_at_call 51; refine (dir_depth _ _ _ _ ⟨_, rfl⟩ ⟨_, rfl⟩ ⟨_, rfl⟩).mono ?_; rintro r w5 ⟨rfl, hb5⟩; have hV := Lib.hid (Dv.keep (by first | exact hV.out | exact hV.out.drew | assumption) hb5); obtain ⟨c0, c1, c2⟩ := hV.out.cells; clear hb5)))
        all_goals obtain ⟨gg, oo, hAe, hcl⟩ := ints_below hz.out hV.out.below k _ hzk.out
        all_goals subst hAe
        all_goals go_wp2_with (first
          | (go_at_call 51; refine (dir_depth _ _ _ _ ⟨_, rfl⟩ ⟨_, rfl⟩ ⟨_, rfl⟩).mono ?_; rintro r w5 ⟨rfl, hb5⟩; replace hV := Lib.hid (hV.out.keep hb5); clear hcl; obtain ⟨gg2, oo2, hAe, hcl⟩ := ints_below hz.out hV.out.below k _ hzk.out; injection hAe with hAe; injection hAe with a1 a2; subst a1 a2)
          | fail)
        all_goals go_ret
        all_goals exact ⟨rfl, hV.out.below⟩
      · obtain ⟨hk1, rfl, hk3⟩ := hk.out
        clear hk
        have hq : ((k : Int) / 32 == (i : Int) / 32) = false := by rw [beq_eq_false_iff_ne]; omega
        have f0 : (F : Int) ≤ k := by omega
        have f3 : ¬ (k : Int) < (F : Int) + 32 := by omega
        clear hk3
        go_region_held3 (fun W => W.cell? ⟨g6, 0, none⟩ = some (.pointer (some ⟨p, 0, none⟩)) ∧ W.cell? ⟨g6, 1, none⟩ = some (.int .i64 16) ∧ W.cell? ⟨g6, 2, none⟩ = some (.int .i64 (d : Int))) (first | exact ⟨c0, c1, c2⟩ | assumption) ((first
          | (go_at_call 51; refine (dir_depth _ _ _ _ ⟨_, rfl⟩ ⟨_, rfl⟩ ⟨_, rfl⟩).mono ?_; rintro r w5 ⟨rfl, hb5⟩; have hV := Lib.hid (Dv.keep (by first | exact hV.out | exact hV.out.drew | assumption) hb5); obtain ⟨c0, c1, c2⟩ := hV.out.cells; clear hb5)))
        all_goals obtain ⟨gg, oo, hAe, hcl⟩ := ints_below hz.out hV.out.below k _ hzk.out
        all_goals subst hAe
        all_goals go_wp2_with (first
          | (go_at_call 51; refine (dir_depth _ _ _ _ ⟨_, rfl⟩ ⟨_, rfl⟩ ⟨_, rfl⟩).mono ?_; rintro r w5 ⟨rfl, hb5⟩; replace hV := Lib.hid (hV.out.keep hb5); clear hcl; obtain ⟨gg2, oo2, hAe, hcl⟩ := ints_below hz.out hV.out.below k _ hzk.out; injection hAe with hAe; injection hAe with a1 a2; subst a1 a2)
          | fail)
        all_goals go_ret
        all_goals exact ⟨rfl, hV.out.below⟩
    · obtain rfl : N = 64 := hN.out
      have hF2 : F = i / 64 * 64 := hF.out
      have hsub : (d : Int) - D = 6 := by have := hs.out; omega
      have hsw : IntKind.i64.wrap 6 = 6 := rfl
      have hkw : k < F ∨ (F ≤ k ∧ k < F + 64) ∨ F + 64 ≤ k := by omega
      have hkw2 : Hid (k < F ∧ e' = z ∧ ¬ k / 64 = i / 64) ∨ Hid ((F ≤ k ∧ k < F + 64) ∧ e' = Tb ∧ k / 64 = i / 64) ∨ Hid (F + 64 ≤ k ∧ e' = z ∧ ¬ k / 64 = i / 64) := by
        rcases hkw with f | ⟨f, f'⟩ | f
        · exact .inl ⟨f, by rw [he'.out, if_neg (by omega)], by omega⟩
        · exact .inr (.inl ⟨⟨f, f'⟩, by rw [he'.out, if_pos (by omega)], by omega⟩)
        · exact .inr (.inr ⟨f, by rw [he'.out, if_neg (by omega)], by omega⟩)
      clear hkw hF2 he'
      rcases hkw2 with hk | hk | hk
      · obtain ⟨hk1, rfl, hk3⟩ := hk.out
        clear hk
        have hq : ((k : Int) / 64 == (i : Int) / 64) = false := by rw [beq_eq_false_iff_ne]; omega
        have f0 : ¬ (F : Int) ≤ k := by omega
        clear hk3
        go_region_held3 (fun W => W.cell? ⟨g6, 0, none⟩ = some (.pointer (some ⟨p, 0, none⟩)) ∧ W.cell? ⟨g6, 1, none⟩ = some (.int .i64 16) ∧ W.cell? ⟨g6, 2, none⟩ = some (.int .i64 (d : Int))) (first | exact ⟨c0, c1, c2⟩ | assumption) ((first
          | (go_at_call 51; refine (dir_depth _ _ _ _ ⟨_, rfl⟩ ⟨_, rfl⟩ ⟨_, rfl⟩).mono ?_; rintro r w5 ⟨rfl, hb5⟩; have hV := Lib.hid (Dv.keep (by first | exact hV.out | exact hV.out.drew | assumption) hb5); obtain ⟨c0, c1, c2⟩ := hV.out.cells; clear hb5)))
        all_goals obtain ⟨gg, oo, hAe, hcl⟩ := ints_below hz.out hV.out.below k _ hzk.out
        all_goals subst hAe
        all_goals go_wp2_with (first
          | (go_at_call 51; refine (dir_depth _ _ _ _ ⟨_, rfl⟩ ⟨_, rfl⟩ ⟨_, rfl⟩).mono ?_; rintro r w5 ⟨rfl, hb5⟩; replace hV := Lib.hid (hV.out.keep hb5); clear hcl; obtain ⟨gg2, oo2, hAe, hcl⟩ := ints_below hz.out hV.out.below k _ hzk.out; injection hAe with hAe; injection hAe with a1 a2; subst a1 a2)
          | fail)
        all_goals go_ret
        all_goals exact ⟨rfl, hV.out.below⟩
      · obtain ⟨hk1, rfl, hk3⟩ := hk.out
        clear hk
        have hq : ((k : Int) / 64 == (i : Int) / 64) = true := by rw [beq_iff_eq]; omega
        obtain ⟨f1, f2⟩ := hk1
        have f0 : (F : Int) ≤ k := by omega
        have f3 : (k : Int) < (F : Int) + 64 := by omega
        clear hk3
        go_region_held3 (fun W => W.cell? ⟨g6, 0, none⟩ = some (.pointer (some ⟨p, 0, none⟩)) ∧ W.cell? ⟨g6, 1, none⟩ = some (.int .i64 16) ∧ W.cell? ⟨g6, 2, none⟩ = some (.int .i64 (d : Int))) (first | exact ⟨c0, c1, c2⟩ | assumption) ((first
          | (go_at_call 51; refine (dir_depth _ _ _ _ ⟨_, rfl⟩ ⟨_, rfl⟩ ⟨_, rfl⟩).mono ?_; rintro r w5 ⟨rfl, hb5⟩; have hV := Lib.hid (Dv.keep (by first | exact hV.out | exact hV.out.drew | assumption) hb5); obtain ⟨c0, c1, c2⟩ := hV.out.cells; clear hb5)))
        all_goals obtain ⟨gg, oo, hAe, hcl⟩ := ints_below hz.out hV.out.below k _ hzk.out
        all_goals subst hAe
        all_goals go_wp2_with (first
          | (go_at_call 51; refine (dir_depth _ _ _ _ ⟨_, rfl⟩ ⟨_, rfl⟩ ⟨_, rfl⟩).mono ?_; rintro r w5 ⟨rfl, hb5⟩; replace hV := Lib.hid (hV.out.keep hb5); clear hcl; obtain ⟨gg2, oo2, hAe, hcl⟩ := ints_below hz.out hV.out.below k _ hzk.out; injection hAe with hAe; injection hAe with a1 a2; subst a1 a2)
          | fail)
        all_goals go_ret
        all_goals exact ⟨rfl, hV.out.below⟩
      · obtain ⟨hk1, rfl, hk3⟩ := hk.out
        clear hk
        have hq : ((k : Int) / 64 == (i : Int) / 64) = false := by rw [beq_eq_false_iff_ne]; omega
        have f0 : (F : Int) ≤ k := by omega
        have f3 : ¬ (k : Int) < (F : Int) + 64 := by omega
        clear hk3
        go_region_held3 (fun W => W.cell? ⟨g6, 0, none⟩ = some (.pointer (some ⟨p, 0, none⟩)) ∧ W.cell? ⟨g6, 1, none⟩ = some (.int .i64 16) ∧ W.cell? ⟨g6, 2, none⟩ = some (.int .i64 (d : Int))) (first | exact ⟨c0, c1, c2⟩ | assumption) ((first
          | (go_at_call 51; refine (dir_depth _ _ _ _ ⟨_, rfl⟩ ⟨_, rfl⟩ ⟨_, rfl⟩).mono ?_; rintro r w5 ⟨rfl, hb5⟩; have hV := Lib.hid (Dv.keep (by first | exact hV.out | exact hV.out.drew | assumption) hb5); obtain ⟨c0, c1, c2⟩ := hV.out.cells; clear hb5)))
        all_goals obtain ⟨gg, oo, hAe, hcl⟩ := ints_below hz.out hV.out.below k _ hzk.out
        all_goals subst hAe
        all_goals go_wp2_with (first
          | (go_at_call 51; refine (dir_depth _ _ _ _ ⟨_, rfl⟩ ⟨_, rfl⟩ ⟨_, rfl⟩).mono ?_; rintro r w5 ⟨rfl, hb5⟩; replace hV := Lib.hid (hV.out.keep hb5); clear hcl; obtain ⟨gg2, oo2, hAe, hcl⟩ := ints_below hz.out hV.out.below k _ hzk.out; injection hAe with hAe; injection hAe with a1 a2; subst a1 a2)
          | fail)
        all_goals go_ret
        all_goals exact ⟨rfl, hV.out.below⟩
theorem places_all (w : World) (A : Option Addr) (cap : Nat) (zs : List Int) (I D Tb K : Int) (hTb : isI Tb) (hz : IntsIn w A zs) (hA : A = none → zs.length = 0 ∧ cap = 0) (hlen : zs.length ≤ 17592186044414) (hrg : ∀ z ∈ zs, isI z) : Calls Try.prog 15 #[.slice A zs.length cap, .int .i64 I, .int .i64 D, .int .i64 Tb, .int .i64 K] w fun e w' => e = .returned (.bool true) ∧ Below w.heap.size w w' := by
  by_cases hp : isPow zs.length
  · obtain ⟨d, h1, h2⟩ := hp
    by_cases hout : I < 0 ∨ (zs.length : Int) ≤ I ∨ D < 0 ∨ (d : Int) < D
    · exact places_out w A cap _ zs I D Tb K hTb rfl hz hA hlen hrg d h1 h2 hout
    · exact places_in w A cap _ zs I D Tb K hTb rfl hz hA hlen hrg d h1 h2 I.toNat ((d : Int) - D).toNat (by omega) (by omega) (by omega) (by omega)
  · exact places_bad w A cap _ zs I D Tb K hTb rfl hz hA hlen hrg hp
end Go.Proofs.Ytpbalilnemjeeaa
