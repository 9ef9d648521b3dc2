/- What is proved here: the walk of the law DirRefused. Conditions: numbers of their kinds. -/
import Derived.Test.YtpbalilnemjeeaaDWidNo
import Derived.Test.YtpbalilnemjeeaaDMade
namespace Go.Proofs.Ytpbalilnemjeeaa
set_option linter.unusedVariables false
set_option linter.unusedSimpArgs false
open Go.RowKit Pm Pa Pl Pd
theorem wid_parts (c1 c2 : Nat) : freeP (takeP [(c1, true)] c2) ((16 : Nat) : Int) = [(c1, false), (c2, true)] := by
  simp [takeP, freeP, deadP]
theorem wid_live (c1 c2 : Nat) : liveSum (freeP (takeP [(c1, true)] c2) ((16 : Nat) : Int)) = c2 := by
  rw [wid_parts]; simp [liveSum]
theorem one_size (c1 : Nat) : sizeFrom 16 [(c1, true)] ((16 : Nat) : Int) = some c1 := by simp [sizeFrom]
theorem one_live (c1 : Nat) : liveSum [(c1, true)] = c1 := by simp [liveSum]
set_option maxHeartbeats 8000000 in
set_option maxRecDepth 100000 in
theorem refused_bad (w : World) (A : Option Addr) (cap n : Nat) (zs : List Int) (sp i : Int) (hn : zs.length = n) (hz : IntsIn w A zs) (hA : A = none → n = 0 ∧ cap = 0) (hlen : n ≤ 17592186044414) (hrg : ∀ z ∈ zs, isI z) (hp : ¬ isPow n) : Calls Try.prog 16 #[.slice A n cap, .int .i64 sp, .int .i64 i] w fun e w' => e = .returned (.bool true) ∧ Below w.heap.size w w' := by
  go_enter Try.func16, Try.ntmps16
  go_wp2_with (first
    | (go_at_call 49; refine (depthOf_no _ _ n rfl hp).mono ?_; rintro e w4 ⟨rfl, rfl⟩)
    | fail)
  go_ret
  exact ⟨rfl, Below.refl _ _⟩
set_option maxHeartbeats 8000000 in
set_option maxRecDepth 100000 in
theorem refused_six (w : World) (A : Option Addr) (cap n : Nat) (zs : List Int) (sp i : Int) (hn : zs.length = n) (hz : IntsIn w A zs) (hA : A = none → n = 0 ∧ cap = 0) (hlen : n ≤ 17592186044414) (hrg : ∀ z ∈ zs, isI z) (hnd : n = 2 ^ 6) : Calls Try.prog 16 #[.slice A n cap, .int .i64 sp, .int .i64 i] w fun e w' => e = .returned (.bool true) ∧ Below w.heap.size w w' := by
  go_enter Try.func16, Try.ntmps16
  replace hnd := Lib.hid hnd
  go_wp2_with (first
    | (go_at_call 49; refine (depthOf_yes _ _ n 6 rfl (by decide) hnd.out).mono ?_; rintro e w4 ⟨rfl, rfl⟩)
    | fail)
  go_ret
  exact ⟨rfl, Below.refl _ _⟩
set_option maxHeartbeats 8000000 in
set_option maxRecDepth 100000 in
theorem refused_low (w : World) (A : Option Addr) (cap n : Nat) (zs : List Int) (sp i : Int) (hn : zs.length = n) (hz : IntsIn w A zs) (hA : A = none → n = 0 ∧ cap = 0) (hlen : n ≤ 17592186044414) (hrg : ∀ z ∈ zs, isI z) (d : Nat) (hd5 : d ≤ 5) (hnd : n = 2 ^ d) (S : Nat) (hS : S ≤ 4096) (hS0 : S = 0) (hsp : sp < 0) : Calls Try.prog 16 #[.slice A n cap, .int .i64 sp, .int .i64 i] w fun e w' => e = .returned (.bool true) ∧ Below w.heap.size w w' := by
  have hn1 : 1 ≤ n := by rw [hnd]; exact Nat.one_le_two_pow
  have hn32 : n ≤ 32 := by rw [hnd]; exact Nat.pow_le_pow_right (by decide) hd5
  obtain ⟨c1, hc1⟩ : ∃ c, Hid (clsN (8 * (n : Int)) = c) := ⟨_, rfl⟩
  obtain ⟨c2, hc2⟩ : ∃ c, Hid (clsN (16 * (n : Int)) = c) := ⟨_, rfl⟩
  have hc2' : Hid (clsN (8 * ((2 ^ (d + 1) : Nat) : Int)) = c2) := by
    rw [← hc2.out, hnd, Nat.pow_succ]
    congr 1
    push_cast
    omega
  have hb1 := (clsN_is (n := 8 * (n : Int)) (by omega)).2
  have hb2 := (clsN_is (n := 16 * (n : Int)) (by omega)).2
  rw [hc1.out] at hb1
  rw [hc2.out] at hb2
  have q1 : ¬ (d : Int) < 0 := by omega
  have q2 : ((d : Int) == 6) = false := by rw [beq_eq_false_iff_ne]; omega
  have q3 : ¬ (c1 : Int) < 8 := by omega
  have q4 : ¬ (c2 : Int) < 16 := by omega
  have hF : Hid (Held (c1 + S) [(c1, true)]) := by
    have h9 := (Held.nil (c1 + S)).take c1 (by rw [← hc1.out]; exact clsN_class (by omega)) (by simp only [liveSum]; omega)
    exact h9
  have hT0 : Hid (takeAt [] c1 = 16) := rfl
  have hP0 : Hid (takeP [] c1 = [(c1, true)]) := rfl
  replace hnd := Lib.hid hnd
  replace hn := Lib.hid hn
  replace hrg := Lib.hid hrg
  replace hz := Lib.hid hz
  replace hA := Lib.hid hA
  have f0 : ¬ (c2 : Int) ≤ 0 := by omega
  have hSc : S < c2 := by omega
  replace hS0 := Lib.hid hS0
  go_enter Try.func16, Try.ntmps16
  go_upto_region 9 with (first
    | (go_at_call 49; refine (depthOf_yes _ _ n d rfl (by omega) hnd.out).mono ?_; rintro e w4 ⟨rfl, rfl⟩)
    | (go_at_call 50; (first | with_reducible refine (class_is (8 * (n : Int)) c1 _ (by omega) hc1.out).mono ?_ | with_reducible refine (class_is (16 * (n : Int)) c2 _ (by omega) hc2.out).mono ?_); rintro e w4 ⟨rfl, rfl⟩)
    | (go_at_call 19; go_loud (refine (as_new (c1 + S) _ (by omega) _ (by first | (push_cast; omega) | (have := hS0.out; push_cast; omega))).mono ?_; rintro e w1 ⟨p, x, L0, rfl, h1⟩; have hz1 := Lib.hid (ints_below hz.out h1.below); replace h1 := Lib.hid h1))
    | fail)
  go_upto_region 11 with (first
    | fail)
  go_upto_region 12 with (first
    | ((with_reducible show wpList _ _ _ (⟨some 68, _, _, _, _, _⟩ :: _) _ _); refine wpList_list_of rfl (.tmp 66) (.tmp 67) rfl rfl A n cap zs rfl hn.out hz1.out hA.out hlen ?_; intro A2 cap2 w2 hi2 hb2 ha2 hB2; have h2 := Lib.hid (h1.out.keep hB2); replace hb2 := Lib.hid hb2; replace ha2 := Lib.hid ha2; replace hi2 := Lib.hid hi2)
    | (go_at_call 48; go_loud (refine (as_dir h2.out (Held.nil _) zs A2 cap2 hi2.out (list_out h1.out hb2.out) hrg.out d (by omega) n hn.out hnd.out c1 hc1.out (by simp only [liveSum]; omega)).mono ?_; rintro e w3 ⟨x3, L3, rfl, h3, hD⟩; rw [hT0.out] at hD ⊢; rw [hP0.out] at h3 hD; replace h3 := Lib.hid h3; replace hD := Lib.hid hD; unfold dirV))
    | fail)
  have b9 := Blk.new w3 #[.pointer (some ⟨p, 0, none⟩), .int .i64 ((16 : Nat) : Int), .int .i64 (d : Int)] 92
  have n9 : ¬ w3.heap.size ∈ x3.all p := fun hk => Nat.lt_irrefl _ (h3.out.ar.lt _ hk)
  have h4 := h3.out.alloc (.cells #[.pointer (some ⟨p, 0, none⟩), .int .i64 ((16 : Nat) : Int), .int .i64 (d : Int)] 92)
  rw [show ((16 : Nat) : Int) = 16 from rfl] at b9 h4
  generalize World.alloc w3 _ = wa at b9 h4 ⊢
  obtain ⟨g9, hg9⟩ : ∃ g, Hid (g = w3.heap.size) := ⟨_, rfl⟩
  rw [← hg9.out] at b9 n9 ⊢
  have o9 := Lib.hid (⟨b9, n9⟩ : Out wa p x3 g9 _ _)
  have k0 := b9.cell 0
  have k1 := b9.cell 1
  have k2 := b9.cell 2
  replace h4 := Lib.hid h4
  clear b9
  go_upto_region 15 with (first
    | (go_at_call 34; refine (as_live h4.out c1 (by rw [one_live])).mono ?_; rintro e w5 ⟨rfl, rfl⟩)
    | (go_at_call 58; go_loud (refine (dir_widen_no h4.out.ar hF.out hD.out hd5 c1 (one_size c1) c2 hc2'.out (by rw [one_live]; omega)).mono ?_; rintro r w5 ⟨rfl, hA5, hT5⟩; have h5 := Lib.hid (h4.out.turned hT5 hA5 (fun k hk => .inl hk)); have o5 := Lib.hid (o9.out.move hT5 (fun k hk => .inl hk))))
    | fail)
  have h6 := Lib.hid (h5.out.alloc (.cells #[.pointer none, .int .i64 0, .int .i64 0] 92))
  have o6 := Lib.hid (o5.out.keep ((Below.refl w5.heap.size w5).alloc (Nat.le_refl _) (.cells #[.pointer none, .int .i64 0, .int .i64 0] 92)))
  generalize World.alloc w5 _ = w6 at h6 o6 ⊢
  clear k0 k1 k2 o9 o5 h4 h5 hT5 hA5
  have m0 := o6.out.b.cell 0
  have m1 := o6.out.b.cell 1
  have m2 := o6.out.b.cell 2
  go_upto_region 17 with fail
  have hway : i < 0 ∨ (¬ i < 0 ∧ (n : Int) ≤ i) ∨ (¬ i < 0 ∧ ¬ (n : Int) ≤ i ∧ ∃ k : Nat, i = k ∧ k < n) := by
    by_cases h1 : i < 0
    · exact .inl h1
    · by_cases h2 : (n : Int) ≤ i
      · exact .inr (.inl ⟨h1, h2⟩)
      · exact .inr (.inr ⟨h1, h2, i.toNat, by omega, by omega⟩)
  rcases hway with i0 | ⟨i0, i1⟩ | ⟨i0, i1, k, hik, hkn⟩
  iterate 2
    · obtain ⟨z, hzk⟩ : ∃ z, zs[0]? = some z := ⟨_, List.getElem?_eq_getElem (by rw [hn.out]; omega)⟩
      replace hzk := Lib.hid hzk
      have n0 : (0 : Int) < n := by omega
      go_wp2_with (first
        | (go_at_call 52; go_loud (refine (entry_in h6.out hD.out (0) z hzk.out _ (by first | rfl | (push_cast; rfl))).mono ?_; rintro r w7 ⟨rfl, h7⟩; replace h7 := Lib.hid h7; obtain ⟨gg, oo, hAe, hcl⟩ := ints_below hz.out h7.out.below 0 z hzk.out; subst hAe; rw [Nat.add_zero] at hcl))
        | (go_at_call 34; refine (as_live h7.out c1 (by rw [one_live])).mono ?_; rintro e w8 ⟨rfl, rfl⟩)
        | fail)
      go_ret
      exact ⟨rfl, h7.out.below⟩
  · subst hik
    obtain ⟨z, hzk⟩ : ∃ z, zs[k]? = some z := ⟨_, List.getElem?_eq_getElem (by rw [hn.out]; exact hkn)⟩
    replace hzk := Lib.hid hzk
    have j0 : (0 : Int) ≤ k := by omega
    have j1 : (k : Int) < n := by omega
    go_wp2_with (first
      | (go_at_call 52; go_loud (refine (entry_in h6.out hD.out (k) z hzk.out _ (by first | rfl | (push_cast; rfl))).mono ?_; rintro r w7 ⟨rfl, h7⟩; replace h7 := Lib.hid h7; obtain ⟨gg, oo, hAe, hcl⟩ := ints_below hz.out h7.out.below k z hzk.out; subst hAe))
      | (go_at_call 34; refine (as_live h7.out c1 (by rw [one_live])).mono ?_; rintro e w8 ⟨rfl, rfl⟩)
      | fail)
    go_ret
    exact ⟨rfl, h7.out.below⟩
set_option maxHeartbeats 8000000 in
set_option maxRecDepth 100000 in
theorem refused_high (w : World) (A : Option Addr) (cap n : Nat) (zs : List Int) (sp i : Int) (hn : zs.length = n) (hz : IntsIn w A zs) (hA : A = none → n = 0 ∧ cap = 0) (hlen : n ≤ 17592186044414) (hrg : ∀ z ∈ zs, isI z) (d : Nat) (hd5 : d ≤ 5) (hnd : n = 2 ^ d) (S : Nat) (hS : S ≤ 4096) (hS0 : S = 0) (hsp0 : ¬ sp < 0) (hsp : 4096 < sp) : Calls Try.prog 16 #[.slice A n cap, .int .i64 sp, .int .i64 i] w fun e w' => e = .returned (.bool true) ∧ Below w.heap.size w w' := by
  have hn1 : 1 ≤ n := by rw [hnd]; exact Nat.one_le_two_pow
  have hn32 : n ≤ 32 := by rw [hnd]; exact Nat.pow_le_pow_right (by decide) hd5
  obtain ⟨c1, hc1⟩ : ∃ c, Hid (clsN (8 * (n : Int)) = c) := ⟨_, rfl⟩
  obtain ⟨c2, hc2⟩ : ∃ c, Hid (clsN (16 * (n : Int)) = c) := ⟨_, rfl⟩
  have hc2' : Hid (clsN (8 * ((2 ^ (d + 1) : Nat) : Int)) = c2) := by
    rw [← hc2.out, hnd, Nat.pow_succ]
    congr 1
    push_cast
    omega
  have hb1 := (clsN_is (n := 8 * (n : Int)) (by omega)).2
  have hb2 := (clsN_is (n := 16 * (n : Int)) (by omega)).2
  rw [hc1.out] at hb1
  rw [hc2.out] at hb2
  have q1 : ¬ (d : Int) < 0 := by omega
  have q2 : ((d : Int) == 6) = false := by rw [beq_eq_false_iff_ne]; omega
  have q3 : ¬ (c1 : Int) < 8 := by omega
  have q4 : ¬ (c2 : Int) < 16 := by omega
  have hF : Hid (Held (c1 + S) [(c1, true)]) := by
    have h9 := (Held.nil (c1 + S)).take c1 (by rw [← hc1.out]; exact clsN_class (by omega)) (by simp only [liveSum]; omega)
    exact h9
  have hT0 : Hid (takeAt [] c1 = 16) := rfl
  have hP0 : Hid (takeP [] c1 = [(c1, true)]) := rfl
  replace hnd := Lib.hid hnd
  replace hn := Lib.hid hn
  replace hrg := Lib.hid hrg
  replace hz := Lib.hid hz
  replace hA := Lib.hid hA
  have f0 : ¬ (c2 : Int) ≤ 0 := by omega
  have hSc : S < c2 := by omega
  replace hS0 := Lib.hid hS0
  go_enter Try.func16, Try.ntmps16
  go_upto_region 9 with (first
    | (go_at_call 49; refine (depthOf_yes _ _ n d rfl (by omega) hnd.out).mono ?_; rintro e w4 ⟨rfl, rfl⟩)
    | (go_at_call 50; (first | with_reducible refine (class_is (8 * (n : Int)) c1 _ (by omega) hc1.out).mono ?_ | with_reducible refine (class_is (16 * (n : Int)) c2 _ (by omega) hc2.out).mono ?_); rintro e w4 ⟨rfl, rfl⟩)
    | (go_at_call 19; go_loud (refine (as_new (c1 + S) _ (by omega) _ (by first | (push_cast; omega) | (have := hS0.out; push_cast; omega))).mono ?_; rintro e w1 ⟨p, x, L0, rfl, h1⟩; have hz1 := Lib.hid (ints_below hz.out h1.below); replace h1 := Lib.hid h1))
    | fail)
  go_upto_region 11 with (first
    | fail)
  go_upto_region 12 with (first
    | ((with_reducible show wpList _ _ _ (⟨some 68, _, _, _, _, _⟩ :: _) _ _); refine wpList_list_of rfl (.tmp 66) (.tmp 67) rfl rfl A n cap zs rfl hn.out hz1.out hA.out hlen ?_; intro A2 cap2 w2 hi2 hb2 ha2 hB2; have h2 := Lib.hid (h1.out.keep hB2); replace hb2 := Lib.hid hb2; replace ha2 := Lib.hid ha2; replace hi2 := Lib.hid hi2)
    | (go_at_call 48; go_loud (refine (as_dir h2.out (Held.nil _) zs A2 cap2 hi2.out (list_out h1.out hb2.out) hrg.out d (by omega) n hn.out hnd.out c1 hc1.out (by simp only [liveSum]; omega)).mono ?_; rintro e w3 ⟨x3, L3, rfl, h3, hD⟩; rw [hT0.out] at hD ⊢; rw [hP0.out] at h3 hD; replace h3 := Lib.hid h3; replace hD := Lib.hid hD; unfold dirV))
    | fail)
  have b9 := Blk.new w3 #[.pointer (some ⟨p, 0, none⟩), .int .i64 ((16 : Nat) : Int), .int .i64 (d : Int)] 92
  have n9 : ¬ w3.heap.size ∈ x3.all p := fun hk => Nat.lt_irrefl _ (h3.out.ar.lt _ hk)
  have h4 := h3.out.alloc (.cells #[.pointer (some ⟨p, 0, none⟩), .int .i64 ((16 : Nat) : Int), .int .i64 (d : Int)] 92)
  rw [show ((16 : Nat) : Int) = 16 from rfl] at b9 h4
  generalize World.alloc w3 _ = wa at b9 h4 ⊢
  obtain ⟨g9, hg9⟩ : ∃ g, Hid (g = w3.heap.size) := ⟨_, rfl⟩
  rw [← hg9.out] at b9 n9 ⊢
  have o9 := Lib.hid (⟨b9, n9⟩ : Out wa p x3 g9 _ _)
  have k0 := b9.cell 0
  have k1 := b9.cell 1
  have k2 := b9.cell 2
  replace h4 := Lib.hid h4
  clear b9
  go_upto_region 15 with (first
    | (go_at_call 34; refine (as_live h4.out c1 (by rw [one_live])).mono ?_; rintro e w5 ⟨rfl, rfl⟩)
    | (go_at_call 58; go_loud (refine (dir_widen_no h4.out.ar hF.out hD.out hd5 c1 (one_size c1) c2 hc2'.out (by rw [one_live]; omega)).mono ?_; rintro r w5 ⟨rfl, hA5, hT5⟩; have h5 := Lib.hid (h4.out.turned hT5 hA5 (fun k hk => .inl hk)); have o5 := Lib.hid (o9.out.move hT5 (fun k hk => .inl hk))))
    | fail)
  have h6 := Lib.hid (h5.out.alloc (.cells #[.pointer none, .int .i64 0, .int .i64 0] 92))
  have o6 := Lib.hid (o5.out.keep ((Below.refl w5.heap.size w5).alloc (Nat.le_refl _) (.cells #[.pointer none, .int .i64 0, .int .i64 0] 92)))
  generalize World.alloc w5 _ = w6 at h6 o6 ⊢
  clear k0 k1 k2 o9 o5 h4 h5 hT5 hA5
  have m0 := o6.out.b.cell 0
  have m1 := o6.out.b.cell 1
  have m2 := o6.out.b.cell 2
  go_upto_region 17 with fail
  have hway : i < 0 ∨ (¬ i < 0 ∧ (n : Int) ≤ i) ∨ (¬ i < 0 ∧ ¬ (n : Int) ≤ i ∧ ∃ k : Nat, i = k ∧ k < n) := by
    by_cases h1 : i < 0
    · exact .inl h1
    · by_cases h2 : (n : Int) ≤ i
      · exact .inr (.inl ⟨h1, h2⟩)
      · exact .inr (.inr ⟨h1, h2, i.toNat, by omega, by omega⟩)
  rcases hway with i0 | ⟨i0, i1⟩ | ⟨i0, i1, k, hik, hkn⟩
  iterate 2
    · obtain ⟨z, hzk⟩ : ∃ z, zs[0]? = some z := ⟨_, List.getElem?_eq_getElem (by rw [hn.out]; omega)⟩
      replace hzk := Lib.hid hzk
      have n0 : (0 : Int) < n := by omega
      go_wp2_with (first
        | (go_at_call 52; go_loud (refine (entry_in h6.out hD.out (0) z hzk.out _ (by first | rfl | (push_cast; rfl))).mono ?_; rintro r w7 ⟨rfl, h7⟩; replace h7 := Lib.hid h7; obtain ⟨gg, oo, hAe, hcl⟩ := ints_below hz.out h7.out.below 0 z hzk.out; subst hAe; rw [Nat.add_zero] at hcl))
        | (go_at_call 34; refine (as_live h7.out c1 (by rw [one_live])).mono ?_; rintro e w8 ⟨rfl, rfl⟩)
        | fail)
      go_ret
      exact ⟨rfl, h7.out.below⟩
  · subst hik
    obtain ⟨z, hzk⟩ : ∃ z, zs[k]? = some z := ⟨_, List.getElem?_eq_getElem (by rw [hn.out]; exact hkn)⟩
    replace hzk := Lib.hid hzk
    have j0 : (0 : Int) ≤ k := by omega
    have j1 : (k : Int) < n := by omega
    go_wp2_with (first
      | (go_at_call 52; go_loud (refine (entry_in h6.out hD.out (k) z hzk.out _ (by first | rfl | (push_cast; rfl))).mono ?_; rintro r w7 ⟨rfl, h7⟩; replace h7 := Lib.hid h7; obtain ⟨gg, oo, hAe, hcl⟩ := ints_below hz.out h7.out.below k z hzk.out; subst hAe))
      | (go_at_call 34; refine (as_live h7.out c1 (by rw [one_live])).mono ?_; rintro e w8 ⟨rfl, rfl⟩)
      | fail)
    go_ret
    exact ⟨rfl, h7.out.below⟩
set_option maxHeartbeats 8000000 in
set_option maxRecDepth 100000 in
theorem refused_no (w : World) (A : Option Addr) (cap n : Nat) (zs : List Int) (sp i : Int) (hn : zs.length = n) (hz : IntsIn w A zs) (hA : A = none → n = 0 ∧ cap = 0) (hlen : n ≤ 17592186044414) (hrg : ∀ z ∈ zs, isI z) (d : Nat) (hd5 : d ≤ 5) (hnd : n = 2 ^ d) (S : Nat) (hS : S ≤ 4096) (hS0 : sp = S) (hr : S < clsN (16 * (n : Int))) : Calls Try.prog 16 #[.slice A n cap, .int .i64 sp, .int .i64 i] w fun e w' => e = .returned (.bool true) ∧ Below w.heap.size w w' := by
  have hn1 : 1 ≤ n := by rw [hnd]; exact Nat.one_le_two_pow
  have hn32 : n ≤ 32 := by rw [hnd]; exact Nat.pow_le_pow_right (by decide) hd5
  obtain ⟨c1, hc1⟩ : ∃ c, Hid (clsN (8 * (n : Int)) = c) := ⟨_, rfl⟩
  obtain ⟨c2, hc2⟩ : ∃ c, Hid (clsN (16 * (n : Int)) = c) := ⟨_, rfl⟩
  have hc2' : Hid (clsN (8 * ((2 ^ (d + 1) : Nat) : Int)) = c2) := by
    rw [← hc2.out, hnd, Nat.pow_succ]
    congr 1
    push_cast
    omega
  have hb1 := (clsN_is (n := 8 * (n : Int)) (by omega)).2
  have hb2 := (clsN_is (n := 16 * (n : Int)) (by omega)).2
  rw [hc1.out] at hb1
  rw [hc2.out] at hb2
  have q1 : ¬ (d : Int) < 0 := by omega
  have q2 : ((d : Int) == 6) = false := by rw [beq_eq_false_iff_ne]; omega
  have q3 : ¬ (c1 : Int) < 8 := by omega
  have q4 : ¬ (c2 : Int) < 16 := by omega
  have hF : Hid (Held (c1 + S) [(c1, true)]) := by
    have h9 := (Held.nil (c1 + S)).take c1 (by rw [← hc1.out]; exact clsN_class (by omega)) (by simp only [liveSum]; omega)
    exact h9
  have hT0 : Hid (takeAt [] c1 = 16) := rfl
  have hP0 : Hid (takeP [] c1 = [(c1, true)]) := rfl
  replace hnd := Lib.hid hnd
  replace hn := Lib.hid hn
  replace hrg := Lib.hid hrg
  replace hz := Lib.hid hz
  replace hA := Lib.hid hA
  subst hS0
  rw [hc2.out] at hr
  have p0 : ¬ (S : Int) < 0 := by omega
  have p1 : ¬ (4096 : Int) < S := by omega
  have f0 : ¬ (c2 : Int) ≤ S := by omega
  go_enter Try.func16, Try.ntmps16
  go_upto_region 9 with (first
    | (go_at_call 49; refine (depthOf_yes _ _ n d rfl (by omega) hnd.out).mono ?_; rintro e w4 ⟨rfl, rfl⟩)
    | (go_at_call 50; (first | with_reducible refine (class_is (8 * (n : Int)) c1 _ (by omega) hc1.out).mono ?_ | with_reducible refine (class_is (16 * (n : Int)) c2 _ (by omega) hc2.out).mono ?_); rintro e w4 ⟨rfl, rfl⟩)
    | (go_at_call 19; go_loud (refine (as_new (c1 + S) _ (by omega) _ (by first | (push_cast; omega) | (have := hS0.out; push_cast; omega))).mono ?_; rintro e w1 ⟨p, x, L0, rfl, h1⟩; have hz1 := Lib.hid (ints_below hz.out h1.below); replace h1 := Lib.hid h1))
    | fail)
  go_upto_region 11 with (first
    | fail)
  go_upto_region 12 with (first
    | ((with_reducible show wpList _ _ _ (⟨some 68, _, _, _, _, _⟩ :: _) _ _); refine wpList_list_of rfl (.tmp 66) (.tmp 67) rfl rfl A n cap zs rfl hn.out hz1.out hA.out hlen ?_; intro A2 cap2 w2 hi2 hb2 ha2 hB2; have h2 := Lib.hid (h1.out.keep hB2); replace hb2 := Lib.hid hb2; replace ha2 := Lib.hid ha2; replace hi2 := Lib.hid hi2)
    | (go_at_call 48; go_loud (refine (as_dir h2.out (Held.nil _) zs A2 cap2 hi2.out (list_out h1.out hb2.out) hrg.out d (by omega) n hn.out hnd.out c1 hc1.out (by simp only [liveSum]; omega)).mono ?_; rintro e w3 ⟨x3, L3, rfl, h3, hD⟩; rw [hT0.out] at hD ⊢; rw [hP0.out] at h3 hD; replace h3 := Lib.hid h3; replace hD := Lib.hid hD; unfold dirV))
    | fail)
  have b9 := Blk.new w3 #[.pointer (some ⟨p, 0, none⟩), .int .i64 ((16 : Nat) : Int), .int .i64 (d : Int)] 92
  have n9 : ¬ w3.heap.size ∈ x3.all p := fun hk => Nat.lt_irrefl _ (h3.out.ar.lt _ hk)
  have h4 := h3.out.alloc (.cells #[.pointer (some ⟨p, 0, none⟩), .int .i64 ((16 : Nat) : Int), .int .i64 (d : Int)] 92)
  rw [show ((16 : Nat) : Int) = 16 from rfl] at b9 h4
  generalize World.alloc w3 _ = wa at b9 h4 ⊢
  obtain ⟨g9, hg9⟩ : ∃ g, Hid (g = w3.heap.size) := ⟨_, rfl⟩
  rw [← hg9.out] at b9 n9 ⊢
  have o9 := Lib.hid (⟨b9, n9⟩ : Out wa p x3 g9 _ _)
  have k0 := b9.cell 0
  have k1 := b9.cell 1
  have k2 := b9.cell 2
  replace h4 := Lib.hid h4
  clear b9
  go_upto_region 15 with (first
    | (go_at_call 34; refine (as_live h4.out c1 (by rw [one_live])).mono ?_; rintro e w5 ⟨rfl, rfl⟩)
    | (go_at_call 58; go_loud (refine (dir_widen_no h4.out.ar hF.out hD.out hd5 c1 (one_size c1) c2 hc2'.out (by rw [one_live]; omega)).mono ?_; rintro r w5 ⟨rfl, hA5, hT5⟩; have h5 := Lib.hid (h4.out.turned hT5 hA5 (fun k hk => .inl hk)); have o5 := Lib.hid (o9.out.move hT5 (fun k hk => .inl hk))))
    | fail)
  have h6 := Lib.hid (h5.out.alloc (.cells #[.pointer none, .int .i64 0, .int .i64 0] 92))
  have o6 := Lib.hid (o5.out.keep ((Below.refl w5.heap.size w5).alloc (Nat.le_refl _) (.cells #[.pointer none, .int .i64 0, .int .i64 0] 92)))
  generalize World.alloc w5 _ = w6 at h6 o6 ⊢
  clear k0 k1 k2 o9 o5 h4 h5 hT5 hA5
  have m0 := o6.out.b.cell 0
  have m1 := o6.out.b.cell 1
  have m2 := o6.out.b.cell 2
  go_upto_region 17 with fail
  have hway : i < 0 ∨ (¬ i < 0 ∧ (n : Int) ≤ i) ∨ (¬ i < 0 ∧ ¬ (n : Int) ≤ i ∧ ∃ k : Nat, i = k ∧ k < n) := by
    by_cases h1 : i < 0
    · exact .inl h1
    · by_cases h2 : (n : Int) ≤ i
      · exact .inr (.inl ⟨h1, h2⟩)
      · exact .inr (.inr ⟨h1, h2, i.toNat, by omega, by omega⟩)
  rcases hway with i0 | ⟨i0, i1⟩ | ⟨i0, i1, k, hik, hkn⟩
  iterate 2
    · obtain ⟨z, hzk⟩ : ∃ z, zs[0]? = some z := ⟨_, List.getElem?_eq_getElem (by rw [hn.out]; omega)⟩
      replace hzk := Lib.hid hzk
      have n0 : (0 : Int) < n := by omega
      go_wp2_with (first
        | (go_at_call 52; go_loud (refine (entry_in h6.out hD.out (0) z hzk.out _ (by first | rfl | (push_cast; rfl))).mono ?_; rintro r w7 ⟨rfl, h7⟩; replace h7 := Lib.hid h7; obtain ⟨gg, oo, hAe, hcl⟩ := ints_below hz.out h7.out.below 0 z hzk.out; subst hAe; rw [Nat.add_zero] at hcl))
        | (go_at_call 34; refine (as_live h7.out c1 (by rw [one_live])).mono ?_; rintro e w8 ⟨rfl, rfl⟩)
        | fail)
      go_ret
      exact ⟨rfl, h7.out.below⟩
  · subst hik
    obtain ⟨z, hzk⟩ : ∃ z, zs[k]? = some z := ⟨_, List.getElem?_eq_getElem (by rw [hn.out]; exact hkn)⟩
    replace hzk := Lib.hid hzk
    have j0 : (0 : Int) ≤ k := by omega
    have j1 : (k : Int) < n := by omega
    go_wp2_with (first
      | (go_at_call 52; go_loud (refine (entry_in h6.out hD.out (k) z hzk.out _ (by first | rfl | (push_cast; rfl))).mono ?_; rintro r w7 ⟨rfl, h7⟩; replace h7 := Lib.hid h7; obtain ⟨gg, oo, hAe, hcl⟩ := ints_below hz.out h7.out.below k z hzk.out; subst hAe))
      | (go_at_call 34; refine (as_live h7.out c1 (by rw [one_live])).mono ?_; rintro e w8 ⟨rfl, rfl⟩)
      | fail)
    go_ret
    exact ⟨rfl, h7.out.below⟩
set_option maxHeartbeats 8000000 in
set_option maxRecDepth 100000 in
theorem refused_room (w : World) (A : Option Addr) (cap n : Nat) (zs : List Int) (sp i : Int) (hn : zs.length = n) (hz : IntsIn w A zs) (hA : A = none → n = 0 ∧ cap = 0) (hlen : n ≤ 17592186044414) (hrg : ∀ z ∈ zs, isI z) (d : Nat) (hd5 : d ≤ 5) (hnd : n = 2 ^ d) (S : Nat) (hS : S ≤ 4096) (hS0 : sp = S) (hr : clsN (16 * (n : Int)) ≤ S) : Calls Try.prog 16 #[.slice A n cap, .int .i64 sp, .int .i64 i] w fun e w' => e = .returned (.bool true) ∧ Below w.heap.size w w' := by
  have hn1 : 1 ≤ n := by rw [hnd]; exact Nat.one_le_two_pow
  have hn32 : n ≤ 32 := by rw [hnd]; exact Nat.pow_le_pow_right (by decide) hd5
  obtain ⟨c1, hc1⟩ : ∃ c, Hid (clsN (8 * (n : Int)) = c) := ⟨_, rfl⟩
  obtain ⟨c2, hc2⟩ : ∃ c, Hid (clsN (16 * (n : Int)) = c) := ⟨_, rfl⟩
  have hc2' : Hid (clsN (8 * ((2 ^ (d + 1) : Nat) : Int)) = c2) := by
    rw [← hc2.out, hnd, Nat.pow_succ]
    congr 1
    push_cast
    omega
  have hb1 := (clsN_is (n := 8 * (n : Int)) (by omega)).2
  have hb2 := (clsN_is (n := 16 * (n : Int)) (by omega)).2
  rw [hc1.out] at hb1
  rw [hc2.out] at hb2
  have q1 : ¬ (d : Int) < 0 := by omega
  have q2 : ((d : Int) == 6) = false := by rw [beq_eq_false_iff_ne]; omega
  have q3 : ¬ (c1 : Int) < 8 := by omega
  have q4 : ¬ (c2 : Int) < 16 := by omega
  have hF : Hid (Held (c1 + S) [(c1, true)]) := by
    have h9 := (Held.nil (c1 + S)).take c1 (by rw [← hc1.out]; exact clsN_class (by omega)) (by simp only [liveSum]; omega)
    exact h9
  have hT0 : Hid (takeAt [] c1 = 16) := rfl
  have hP0 : Hid (takeP [] c1 = [(c1, true)]) := rfl
  replace hnd := Lib.hid hnd
  replace hn := Lib.hid hn
  replace hrg := Lib.hid hrg
  replace hz := Lib.hid hz
  replace hA := Lib.hid hA
  subst hS0
  rw [hc2.out] at hr
  have p0 : ¬ (S : Int) < 0 := by omega
  have p1 : ¬ (4096 : Int) < S := by omega
  have f0 : (c2 : Int) ≤ S := by omega
  go_enter Try.func16, Try.ntmps16
  go_upto_region 9 with (first
    | (go_at_call 49; refine (depthOf_yes _ _ n d rfl (by omega) hnd.out).mono ?_; rintro e w4 ⟨rfl, rfl⟩)
    | (go_at_call 50; (first | with_reducible refine (class_is (8 * (n : Int)) c1 _ (by omega) hc1.out).mono ?_ | with_reducible refine (class_is (16 * (n : Int)) c2 _ (by omega) hc2.out).mono ?_); rintro e w4 ⟨rfl, rfl⟩)
    | (go_at_call 19; go_loud (refine (as_new (c1 + S) _ (by omega) _ (by first | (push_cast; omega) | (have := hS0.out; push_cast; omega))).mono ?_; rintro e w1 ⟨p, x, L0, rfl, h1⟩; have hz1 := Lib.hid (ints_below hz.out h1.below); replace h1 := Lib.hid h1))
    | fail)
  go_upto_region 11 with (first
    | fail)
  go_upto_region 12 with (first
    | ((with_reducible show wpList _ _ _ (⟨some 68, _, _, _, _, _⟩ :: _) _ _); refine wpList_list_of rfl (.tmp 66) (.tmp 67) rfl rfl A n cap zs rfl hn.out hz1.out hA.out hlen ?_; intro A2 cap2 w2 hi2 hb2 ha2 hB2; have h2 := Lib.hid (h1.out.keep hB2); replace hb2 := Lib.hid hb2; replace ha2 := Lib.hid ha2; replace hi2 := Lib.hid hi2)
    | (go_at_call 48; go_loud (refine (as_dir h2.out (Held.nil _) zs A2 cap2 hi2.out (list_out h1.out hb2.out) hrg.out d (by omega) n hn.out hnd.out c1 hc1.out (by simp only [liveSum]; omega)).mono ?_; rintro e w3 ⟨x3, L3, rfl, h3, hD⟩; rw [hT0.out] at hD ⊢; rw [hP0.out] at h3 hD; replace h3 := Lib.hid h3; replace hD := Lib.hid hD; unfold dirV))
    | fail)
  have b9 := Blk.new w3 #[.pointer (some ⟨p, 0, none⟩), .int .i64 ((16 : Nat) : Int), .int .i64 (d : Int)] 92
  have n9 : ¬ w3.heap.size ∈ x3.all p := fun hk => Nat.lt_irrefl _ (h3.out.ar.lt _ hk)
  have h4 := h3.out.alloc (.cells #[.pointer (some ⟨p, 0, none⟩), .int .i64 ((16 : Nat) : Int), .int .i64 (d : Int)] 92)
  rw [show ((16 : Nat) : Int) = 16 from rfl] at b9 h4
  generalize World.alloc w3 _ = wa at b9 h4 ⊢
  obtain ⟨g9, hg9⟩ : ∃ g, Hid (g = w3.heap.size) := ⟨_, rfl⟩
  rw [← hg9.out] at b9 n9 ⊢
  have o9 := Lib.hid (⟨b9, n9⟩ : Out wa p x3 g9 _ _)
  have k0 := b9.cell 0
  have k1 := b9.cell 1
  have k2 := b9.cell 2
  replace h4 := Lib.hid h4
  clear b9
  obtain ⟨TA, hTA⟩ : ∃ TA, Hid (TA = takeAt [(c1, true)] c2) := ⟨_, rfl⟩
  obtain ⟨d1, hd1⟩ : ∃ d1, Hid (d1 = d + 1) := ⟨_, rfl⟩
  go_upto_region 15 with (first
    | (go_at_call 34; refine (as_live h4.out c1 (by rw [one_live])).mono ?_; rintro e w5 ⟨rfl, rfl⟩)
    | (go_at_call 58; go_loud (refine (dir_widen h4.out.ar hF.out hD.out hd5 c1 (one_size c1) c2 hc2'.out (by rw [one_live]; omega)).mono ?_; rw [← hTA.out, ← hd1.out]; rintro r w5 ⟨rfl, x5, L5, hA5, hD5, hT5, hf5⟩; have h5 := Lib.hid (h4.out.turned hT5 hA5 hf5); replace hD5 := Lib.hid hD5; unfold dirV))
    | fail)
  have b7 := Blk.new w5 #[.pointer (some ⟨p, 0, none⟩), .int .i64 (TA : Int), .int .i64 (d1 : Int)] 92
  have h6 := Lib.hid (h5.out.alloc (.cells #[.pointer (some ⟨p, 0, none⟩), .int .i64 (TA : Int), .int .i64 (d1 : Int)] 92))
  generalize World.alloc w5 _ = w6 at b7 h6 ⊢
  obtain ⟨g7, hg7⟩ : ∃ g, Hid (g = w5.heap.size) := ⟨_, rfl⟩
  rw [← hg7.out] at b7 ⊢
  have m0 := b7.cell 0
  have m1 := b7.cell 1
  have m2 := b7.cell 2
  have hlv := Lib.hid (wid_live c1 c2)
  obtain ⟨ps5, hps5⟩ : ∃ ps5, Hid (ps5 = freeP (takeP [(c1, true)] c2) ((16 : Nat) : Int)) := ⟨_, rfl⟩
  rw [← hps5.out] at h6 hD5 hlv
  clear b7 k0 k1 k2 o9 h4 h5 hT5 hf5 hA5
  go_upto_region 17 with fail
  have hway : i < 0 ∨ (¬ i < 0 ∧ (n : Int) ≤ i) ∨ (¬ i < 0 ∧ ¬ (n : Int) ≤ i ∧ ∃ k : Nat, i = k ∧ k < n) := by
    by_cases h1 : i < 0
    · exact .inl h1
    · by_cases h2 : (n : Int) ≤ i
      · exact .inr (.inl ⟨h1, h2⟩)
      · exact .inr (.inr ⟨h1, h2, i.toNat, by omega, by omega⟩)
  rcases hway with i0 | ⟨i0, i1⟩ | ⟨i0, i1, k, hik, hkn⟩
  iterate 2
    · obtain ⟨z, hzk⟩ : ∃ z, zs[0]? = some z := ⟨_, List.getElem?_eq_getElem (by rw [hn.out]; omega)⟩
      replace hzk := Lib.hid hzk
      have n0 : (0 : Int) < n := by omega
      go_wp2_with (first
        | (go_at_call 52; go_loud (refine (entry_in h6.out hD5.out (2 * 0 + 1) z (by rw [(dbl_get zs 0).2]; exact hzk.out) _ (by first | rfl | (push_cast; rfl))).mono ?_; rintro r w7 ⟨rfl, h7⟩; replace h7 := Lib.hid h7; obtain ⟨gg, oo, hAe, hcl⟩ := ints_below hz.out h7.out.below 0 z hzk.out; subst hAe; rw [Nat.add_zero] at hcl))
        | (go_at_call 34; refine (as_live h7.out c2 (by rw [hlv.out])).mono ?_; rintro e w8 ⟨rfl, rfl⟩)
        | fail)
      go_ret
      exact ⟨rfl, h7.out.below⟩
  · subst hik
    obtain ⟨z, hzk⟩ : ∃ z, zs[k]? = some z := ⟨_, List.getElem?_eq_getElem (by rw [hn.out]; exact hkn)⟩
    replace hzk := Lib.hid hzk
    have j0 : (0 : Int) ≤ k := by omega
    have j1 : (k : Int) < n := by omega
    go_wp2_with (first
      | (go_at_call 52; go_loud (refine (entry_in h6.out hD5.out (2 * k + 1) z (by rw [(dbl_get zs k).2]; exact hzk.out) _ (by first | rfl | (push_cast; rfl))).mono ?_; rintro r w7 ⟨rfl, h7⟩; replace h7 := Lib.hid h7; obtain ⟨gg, oo, hAe, hcl⟩ := ints_below hz.out h7.out.below k z hzk.out; subst hAe))
      | (go_at_call 34; refine (as_live h7.out c2 (by rw [hlv.out])).mono ?_; rintro e w8 ⟨rfl, rfl⟩)
      | fail)
    go_ret
    exact ⟨rfl, h7.out.below⟩
theorem refused_all (w : World) (A : Option Addr) (cap : Nat) (zs : List Int) (sp i : Int) (hz : IntsIn w A zs) (hA : A = none → zs.length = 0 ∧ cap = 0) (hlen : zs.length ≤ 17592186044414) (hrg : ∀ z ∈ zs, isI z) : Calls Try.prog 16 #[.slice A zs.length cap, .int .i64 sp, .int .i64 i] w fun e w' => e = .returned (.bool true) ∧ Below w.heap.size w w' := by
  by_cases hp : isPow zs.length
  · obtain ⟨d, h1, h2⟩ := hp
    by_cases h6 : d = 6
    · exact refused_six w A cap _ zs sp i rfl hz hA hlen hrg (by rw [h2, h6])
    · by_cases s0 : sp < 0
      · exact refused_low w A cap _ zs sp i rfl hz hA hlen hrg d (by omega) h2 0 (by omega) rfl s0
      · by_cases s1 : 4096 < sp
        · exact refused_high w A cap _ zs sp i rfl hz hA hlen hrg d (by omega) h2 0 (by omega) rfl s0 s1
        · by_cases hr : clsN (16 * (zs.length : Int)) ≤ sp.toNat
          · exact refused_room w A cap _ zs sp i rfl hz hA hlen hrg d (by omega) h2 sp.toNat (by omega) (by omega) hr
          · exact refused_no w A cap _ zs sp i rfl hz hA hlen hrg d (by omega) h2 sp.toNat (by omega) (by omega) (by omega)
  · exact refused_bad w A cap _ zs sp i rfl hz hA hlen hrg hp
end Go.Proofs.Ytpbalilnemjeeaa
