/- What is proved here: the walk of the law DirMakes. Conditions: numbers of their kinds. -/
import Derived.Test.YtpbalilnemjeeaaDMakes
namespace Go.Proofs.Ytpbalilnemjeeaa
set_option linter.unusedVariables false
set_option linter.unusedSimpArgs false
open Go.RowKit Pm Pa Pl Pd
set_option maxHeartbeats 4000000 in
set_option maxRecDepth 100000 in
theorem makes_room (w : World) (limit : Int) (A : Option Addr) (cap n : Nat) (zs : List Int) (i : Int) (hn : zs.length = n) (hz : IntsIn w A zs) (hA : A = none → n = 0 ∧ cap = 0) (hlen : n ≤ 17592186044414) (hrg : ∀ z ∈ zs, isI z) (L : Nat) (hL2 : L ≤ 2097152)
    (hlim : (L : Int) = limit ∨ (L = 4096 ∧ (limit < 0 ∨ 2097152 < limit))) (hp : isPow n) (hbig : (clsN (8 * (n : Int)) : Int) ≤ L) : Calls Try.prog 12 #[.int .i64 limit, .slice A n cap, .int .i64 i] w fun e w' => e = .returned (.bool true) ∧ Below w.heap.size w w' := by
  replace hn := Lib.hid hn
  replace hrg := Lib.hid hrg
  replace hz := Lib.hid hz
  replace hA := Lib.hid hA
  obtain ⟨d, hd6, hnd⟩ := hp
  have hn1 : 1 ≤ n := by rw [hnd]; exact Nat.one_le_two_pow
  have hn64 : n ≤ 64 := by rw [hnd]; exact pow64 hd6
  obtain ⟨c, hc⟩ : ∃ c, Hid (clsN (8 * (n : Int)) = c) := ⟨_, rfl⟩
  have hc8 : 8 * n ≤ c := by have := clsN_ge' (8 * n) (by omega) (by omega); push_cast at this; rw [hc.out] at this; exact this
  have hcm : c ≤ 1048576 := by rw [← hc.out]; exact clsN_le _
  replace hnd := Lib.hid hnd
  have g0 : ¬ (d : Int) < 0 := by omega
  have g1 : ¬ (c : Int) < 8 * (n : Int) := by omega
  rw [hc.out] at hbig
  have g2 : ¬ (L : Int) < c := by omega
  have hAn : A ≠ none := fun e => by have := hA.out e; omega
  have hway : (limit < 0 ∧ L = 4096) ∨ (¬ limit < 0 ∧ 2097152 < limit ∧ L = 4096) ∨ (¬ limit < 0 ∧ ¬ 2097152 < limit ∧ (L : Int) = limit) := by omega
  clear hlim
  rcases hway with ⟨l1, l3⟩ | ⟨l1, l2, l3⟩ | ⟨l1, l2, l3⟩
  · replace l3 := Lib.hid l3
    go_enter Try.func12, Try.ntmps12
    go_upto_region 3 with (fail)
    rw [show (4096 : Int) = (L : Int) by rw [l3.out]; rfl]
    go_upto_region 6 with (first
      | (go_at_call 19; refine (as_new L _ hL2 _ rfl).mono ?_; rintro e w1 ⟨p, x, L0, rfl, h1⟩; have hz1 := Lib.hid (ints_below (hz.out) h1.below); replace h1 := Lib.hid h1)
      | fail)
    go_upto_region 7 with (first
      | ((with_reducible show wpList _ _ _ (⟨some 35, _, _, _, _, _⟩ :: _) _ _); refine wpList_list_of rfl (.tmp 33) (.tmp 34) rfl rfl A n cap zs rfl hn.out hz1.out hA.out hlen ?_; intro A2 cap2 w2 hi2 hb2 ha2 hB2; have h2 := Lib.hid (h1.out.keep hB2); replace hb2 := Lib.hid hb2; replace ha2 := Lib.hid ha2; replace hi2 := Lib.hid hi2)
      | (go_at_call 48; refine (as_dir h2.out (Held.nil L) zs A2 cap2 hi2.out (list_out h1.out hb2.out) hrg.out d hd6 n hn.out hnd.out c hc.out (by simp only [liveSum]; omega)).mono ?_; rintro e w3 ⟨x3, L3, rfl, h3, hD⟩; have hlv : (liveSum (takeP [] c) : Int) = c := (by rw [live_takeP]; simp [liveSum]); generalize takeAt [] c = off at hD ⊢; generalize takeP [] c = ps at h3 hD hlv; replace h3 := Lib.hid h3; replace hD := Lib.hid hD; replace hlv := Lib.hid hlv; unfold dirV)
      | fail)
    have hB9 := Blk.new w3 #[.pointer (some ⟨p, 0, none⟩), .int .i64 (off : Int), .int .i64 (d : Int)] 92
    have h4 := Lib.hid (h3.out.alloc (.cells #[.pointer (some ⟨p, 0, none⟩), .int .i64 (off : Int), .int .i64 (d : Int)] 92))
    generalize World.alloc w3 _ = wa at hB9 h4 ⊢
    obtain ⟨g9, hg9⟩ : ∃ g, Hid (g = w3.heap.size) := ⟨_, rfl⟩
    rw [← hg9.out] at hB9 ⊢
    have c0 := hB9.cell 0
    have c1 := hB9.cell 1
    have c2 := hB9.cell 2
    replace hB9 := Lib.hid hB9
    go_upto_region 16 with (first
      | (go_at_call 49; refine (depthOf_yes _ _ n d rfl hd6 hnd.out).mono ?_; rintro e w4 ⟨rfl, rfl⟩)
      | (go_at_call 50; refine (class_is _ c _ (by omega) hc.out).mono ?_; rintro e w4 ⟨rfl, rfl⟩)
      | (go_at_call 34; refine (as_live h4.out c hlv.out).mono ?_; rintro e w5 ⟨rfl, rfl⟩)
      | (go_at_call 51; refine (dir_depth _ _ _ _ ⟨_, rfl⟩ ⟨_, rfl⟩ ⟨_, rfl⟩).mono ?_; rintro r w5 ⟨rfl, hb5⟩; replace h4 := Lib.hid (h4.out.keep hb5); replace hB9 := Lib.hid (hB9.out.keep hb5); clear c0 c1 c2; have c0 := hB9.out.cell 0; have c1 := hB9.out.cell 1; have c2 := hB9.out.cell 2)
      | fail)
    have hway : i < 0 ∨ (¬ i < 0 ∧ (n : Int) ≤ i) ∨ (¬ i < 0 ∧ ¬ (n : Int) ≤ i ∧ ∃ k : Nat, i = k ∧ k < n) := by
      by_cases h1 : i < 0
      · exact .inl h1
      · by_cases h2 : (n : Int) ≤ i
        · exact .inr (.inl ⟨h1, h2⟩)
        · exact .inr (.inr ⟨h1, h2, i.toNat, by omega, by omega⟩)
    rcases hway with i1 | ⟨i0, i1⟩ | ⟨i0, i1, k, hik, hkn⟩
    iterate 2
      · go_wp2_with (first
          | (go_at_call 52; refine (entry_out h4.out hD.out i (by rw [← hnd.out]; omega)).mono ?_; rintro r w6 ⟨rfl, h6⟩)
          | fail)
        go_ret
        exact ⟨rfl, h6.below⟩
    · subst hik
      have k0 : (0 : Int) ≤ k := by omega
      have k1 : (k : Int) < n := by omega
      obtain ⟨z, hzk⟩ : ∃ z, zs[k]? = some z := ⟨_, List.getElem?_eq_getElem (by rw [hn.out]; exact hkn)⟩
      replace hzk := Lib.hid hzk
      go_wp2_with (first
        | (go_at_call 52; refine (entry_in h4.out hD.out k z hzk.out _ rfl).mono ?_; rintro r w6 ⟨rfl, h6⟩; obtain ⟨gg, oo, hAe, hcl⟩ := ints_below hz.out h6.below k z hzk.out; subst hAe)
        | fail)
      go_ret
      exact ⟨rfl, h6.below⟩
  · replace l3 := Lib.hid l3
    go_enter Try.func12, Try.ntmps12
    go_upto_region 3 with (fail)
    rw [show (4096 : Int) = (L : Int) by rw [l3.out]; rfl]
    go_upto_region 6 with (first
      | (go_at_call 19; refine (as_new L _ hL2 _ rfl).mono ?_; rintro e w1 ⟨p, x, L0, rfl, h1⟩; have hz1 := Lib.hid (ints_below (hz.out) h1.below); replace h1 := Lib.hid h1)
      | fail)
    go_upto_region 7 with (first
      | ((with_reducible show wpList _ _ _ (⟨some 35, _, _, _, _, _⟩ :: _) _ _); refine wpList_list_of rfl (.tmp 33) (.tmp 34) rfl rfl A n cap zs rfl hn.out hz1.out hA.out hlen ?_; intro A2 cap2 w2 hi2 hb2 ha2 hB2; have h2 := Lib.hid (h1.out.keep hB2); replace hb2 := Lib.hid hb2; replace ha2 := Lib.hid ha2; replace hi2 := Lib.hid hi2)
      | (go_at_call 48; refine (as_dir h2.out (Held.nil L) zs A2 cap2 hi2.out (list_out h1.out hb2.out) hrg.out d hd6 n hn.out hnd.out c hc.out (by simp only [liveSum]; omega)).mono ?_; rintro e w3 ⟨x3, L3, rfl, h3, hD⟩; have hlv : (liveSum (takeP [] c) : Int) = c := (by rw [live_takeP]; simp [liveSum]); generalize takeAt [] c = off at hD ⊢; generalize takeP [] c = ps at h3 hD hlv; replace h3 := Lib.hid h3; replace hD := Lib.hid hD; replace hlv := Lib.hid hlv; unfold dirV)
      | fail)
    have hB9 := Blk.new w3 #[.pointer (some ⟨p, 0, none⟩), .int .i64 (off : Int), .int .i64 (d : Int)] 92
    have h4 := Lib.hid (h3.out.alloc (.cells #[.pointer (some ⟨p, 0, none⟩), .int .i64 (off : Int), .int .i64 (d : Int)] 92))
    generalize World.alloc w3 _ = wa at hB9 h4 ⊢
    obtain ⟨g9, hg9⟩ : ∃ g, Hid (g = w3.heap.size) := ⟨_, rfl⟩
    rw [← hg9.out] at hB9 ⊢
    have c0 := hB9.cell 0
    have c1 := hB9.cell 1
    have c2 := hB9.cell 2
    replace hB9 := Lib.hid hB9
    go_upto_region 16 with (first
      | (go_at_call 49; refine (depthOf_yes _ _ n d rfl hd6 hnd.out).mono ?_; rintro e w4 ⟨rfl, rfl⟩)
      | (go_at_call 50; refine (class_is _ c _ (by omega) hc.out).mono ?_; rintro e w4 ⟨rfl, rfl⟩)
      | (go_at_call 34; refine (as_live h4.out c hlv.out).mono ?_; rintro e w5 ⟨rfl, rfl⟩)
      | (go_at_call 51; refine (dir_depth _ _ _ _ ⟨_, rfl⟩ ⟨_, rfl⟩ ⟨_, rfl⟩).mono ?_; rintro r w5 ⟨rfl, hb5⟩; replace h4 := Lib.hid (h4.out.keep hb5); replace hB9 := Lib.hid (hB9.out.keep hb5); clear c0 c1 c2; have c0 := hB9.out.cell 0; have c1 := hB9.out.cell 1; have c2 := hB9.out.cell 2)
      | fail)
    have hway : i < 0 ∨ (¬ i < 0 ∧ (n : Int) ≤ i) ∨ (¬ i < 0 ∧ ¬ (n : Int) ≤ i ∧ ∃ k : Nat, i = k ∧ k < n) := by
      by_cases h1 : i < 0
      · exact .inl h1
      · by_cases h2 : (n : Int) ≤ i
        · exact .inr (.inl ⟨h1, h2⟩)
        · exact .inr (.inr ⟨h1, h2, i.toNat, by omega, by omega⟩)
    rcases hway with i1 | ⟨i0, i1⟩ | ⟨i0, i1, k, hik, hkn⟩
    iterate 2
      · go_wp2_with (first
          | (go_at_call 52; refine (entry_out h4.out hD.out i (by rw [← hnd.out]; omega)).mono ?_; rintro r w6 ⟨rfl, h6⟩)
          | fail)
        go_ret
        exact ⟨rfl, h6.below⟩
    · subst hik
      have k0 : (0 : Int) ≤ k := by omega
      have k1 : (k : Int) < n := by omega
      obtain ⟨z, hzk⟩ : ∃ z, zs[k]? = some z := ⟨_, List.getElem?_eq_getElem (by rw [hn.out]; exact hkn)⟩
      replace hzk := Lib.hid hzk
      go_wp2_with (first
        | (go_at_call 52; refine (entry_in h4.out hD.out k z hzk.out _ rfl).mono ?_; rintro r w6 ⟨rfl, h6⟩; obtain ⟨gg, oo, hAe, hcl⟩ := ints_below hz.out h6.below k z hzk.out; subst hAe)
        | fail)
      go_ret
      exact ⟨rfl, h6.below⟩
  · obtain rfl := l3
    go_enter Try.func12, Try.ntmps12
    go_upto_region 3 with (fail)
    go_upto_region 6 with (first
      | (go_at_call 19; refine (as_new L _ hL2 _ rfl).mono ?_; rintro e w1 ⟨p, x, L0, rfl, h1⟩; have hz1 := Lib.hid (ints_below (hz.out) h1.below); replace h1 := Lib.hid h1)
      | fail)
    go_upto_region 7 with (first
      | ((with_reducible show wpList _ _ _ (⟨some 35, _, _, _, _, _⟩ :: _) _ _); refine wpList_list_of rfl (.tmp 33) (.tmp 34) rfl rfl A n cap zs rfl hn.out hz1.out hA.out hlen ?_; intro A2 cap2 w2 hi2 hb2 ha2 hB2; have h2 := Lib.hid (h1.out.keep hB2); replace hb2 := Lib.hid hb2; replace ha2 := Lib.hid ha2; replace hi2 := Lib.hid hi2)
      | (go_at_call 48; refine (as_dir h2.out (Held.nil L) zs A2 cap2 hi2.out (list_out h1.out hb2.out) hrg.out d hd6 n hn.out hnd.out c hc.out (by simp only [liveSum]; omega)).mono ?_; rintro e w3 ⟨x3, L3, rfl, h3, hD⟩; have hlv : (liveSum (takeP [] c) : Int) = c := (by rw [live_takeP]; simp [liveSum]); generalize takeAt [] c = off at hD ⊢; generalize takeP [] c = ps at h3 hD hlv; replace h3 := Lib.hid h3; replace hD := Lib.hid hD; replace hlv := Lib.hid hlv; unfold dirV)
      | fail)
    have hB9 := Blk.new w3 #[.pointer (some ⟨p, 0, none⟩), .int .i64 (off : Int), .int .i64 (d : Int)] 92
    have h4 := Lib.hid (h3.out.alloc (.cells #[.pointer (some ⟨p, 0, none⟩), .int .i64 (off : Int), .int .i64 (d : Int)] 92))
    generalize World.alloc w3 _ = wa at hB9 h4 ⊢
    obtain ⟨g9, hg9⟩ : ∃ g, Hid (g = w3.heap.size) := ⟨_, rfl⟩
    rw [← hg9.out] at hB9 ⊢
    have c0 := hB9.cell 0
    have c1 := hB9.cell 1
    have c2 := hB9.cell 2
    replace hB9 := Lib.hid hB9
    go_upto_region 16 with (first
      | (go_at_call 49; refine (depthOf_yes _ _ n d rfl hd6 hnd.out).mono ?_; rintro e w4 ⟨rfl, rfl⟩)
      | (go_at_call 50; refine (class_is _ c _ (by omega) hc.out).mono ?_; rintro e w4 ⟨rfl, rfl⟩)
      | (go_at_call 34; refine (as_live h4.out c hlv.out).mono ?_; rintro e w5 ⟨rfl, rfl⟩)
      | (go_at_call 51; refine (dir_depth _ _ _ _ ⟨_, rfl⟩ ⟨_, rfl⟩ ⟨_, rfl⟩).mono ?_; rintro r w5 ⟨rfl, hb5⟩; replace h4 := Lib.hid (h4.out.keep hb5); replace hB9 := Lib.hid (hB9.out.keep hb5); clear c0 c1 c2; have c0 := hB9.out.cell 0; have c1 := hB9.out.cell 1; have c2 := hB9.out.cell 2)
      | fail)
    have hway : i < 0 ∨ (¬ i < 0 ∧ (n : Int) ≤ i) ∨ (¬ i < 0 ∧ ¬ (n : Int) ≤ i ∧ ∃ k : Nat, i = k ∧ k < n) := by
      by_cases h1 : i < 0
      · exact .inl h1
      · by_cases h2 : (n : Int) ≤ i
        · exact .inr (.inl ⟨h1, h2⟩)
        · exact .inr (.inr ⟨h1, h2, i.toNat, by omega, by omega⟩)
    rcases hway with i1 | ⟨i0, i1⟩ | ⟨i0, i1, k, hik, hkn⟩
    iterate 2
      · go_wp2_with (first
          | (go_at_call 52; refine (entry_out h4.out hD.out i (by rw [← hnd.out]; omega)).mono ?_; rintro r w6 ⟨rfl, h6⟩)
          | fail)
        go_ret
        exact ⟨rfl, h6.below⟩
    · subst hik
      have k0 : (0 : Int) ≤ k := by omega
      have k1 : (k : Int) < n := by omega
      obtain ⟨z, hzk⟩ : ∃ z, zs[k]? = some z := ⟨_, List.getElem?_eq_getElem (by rw [hn.out]; exact hkn)⟩
      replace hzk := Lib.hid hzk
      go_wp2_with (first
        | (go_at_call 52; refine (entry_in h4.out hD.out k z hzk.out _ rfl).mono ?_; rintro r w6 ⟨rfl, h6⟩; obtain ⟨gg, oo, hAe, hcl⟩ := ints_below hz.out h6.below k z hzk.out; subst hAe)
        | fail)
      go_ret
      exact ⟨rfl, h6.below⟩
theorem makes_all (w : World) (limit : Int) (A : Option Addr) (cap : Nat) (zs : List Int) (i : Int) (hz : IntsIn w A zs) (hA : A = none → zs.length = 0 ∧ cap = 0) (hlen : zs.length ≤ 17592186044414) (hrg : ∀ z ∈ zs, isI z) : Calls Try.prog 12 #[.int .i64 limit, .slice A zs.length cap, .int .i64 i] w fun e w' => e = .returned (.bool true) ∧ Below w.heap.size w w' := by
  obtain ⟨L, hL2, hlim⟩ : ∃ L : Nat, L ≤ 2097152 ∧ ((L : Int) = limit ∨ (L = 4096 ∧ (limit < 0 ∨ 2097152 < limit))) := by
    by_cases h : limit < 0 ∨ 2097152 < limit
    · exact ⟨4096, by omega, .inr ⟨rfl, h⟩⟩
    · exact ⟨limit.toNat, by omega, .inl (by omega)⟩
  by_cases hp : isPow zs.length
  · by_cases hb : (clsN (8 * (zs.length : Int)) : Int) ≤ L
    · exact makes_room w limit A cap _ zs i rfl hz hA hlen hrg L hL2 hlim hp hb
    · exact makes_full w limit A cap _ zs i rfl hz hA hlen hrg L hL2 hlim hp (by omega)
  · exact makes_bad w limit A cap _ zs i rfl hz hA hlen hrg L hL2 hlim hp
end Go.Proofs.Ytpbalilnemjeeaa
