/- What is proved here: the walk of the law DirMakes. Conditions: numbers of their kinds. -/
import Derived.Test.YtpbalilnemjeeaaDNewAS
namespace Go.Proofs.Ytpbalilnemjeeaa
set_option linter.unusedVariables false
set_option linter.unusedSimpArgs false
open Go.RowKit Pm Pa Pl Pd
theorem as_live {w0 w : World} {p : Nat} {x : Loc} {lim : Nat} {ps : Parts} {L : List UInt8} (h : AS w0 p x lim ps L w) (V : Int) (hV : (liveSum ps : Int) = V) : Calls Try.prog 34 #[.pointer (some ⟨p, 0, none⟩)] w fun e w' => e = .returned (.int .i64 V) ∧ w = w' := by
  subst hV
  exact ar_live h.ar
theorem class_is (n : Int) (c : Nat) (w : World) (h : 1 ≤ n ∧ n ≤ 1048576) (hc : clsN n = c) : Calls Try.prog 50 #[.int .i64 n] w fun e w' => e = .returned (.int .i64 (c : Int)) ∧ w = w' := by
  subst hc
  exact class_to n w h
set_option maxHeartbeats 4000000 in
set_option maxRecDepth 100000 in
theorem makes_bad (w : World) (limit : Int) (A : Option Addr) (cap n : Nat) (zs : List Int) (i : Int) (hn : zs.length = n) (hz : IntsIn w A zs) (hA : A = none → n = 0 ∧ cap = 0) (hlen : n ≤ 17592186044414) (hrg : ∀ z ∈ zs, isI z) (L : Nat) (hL2 : L ≤ 2097152)
    (hlim : (L : Int) = limit ∨ (L = 4096 ∧ (limit < 0 ∨ 2097152 < limit))) (hp : ¬ isPow n) : Calls Try.prog 12 #[.int .i64 limit, .slice A n cap, .int .i64 i] w fun e w' => e = .returned (.bool true) ∧ Below w.heap.size w w' := by
  replace hn := Lib.hid hn
  replace hrg := Lib.hid hrg
  replace hz := Lib.hid hz
  replace hA := Lib.hid hA
  have hway : (limit < 0 ∧ L = 4096) ∨ (¬ limit < 0 ∧ 2097152 < limit ∧ L = 4096) ∨ (¬ limit < 0 ∧ ¬ 2097152 < limit ∧ (L : Int) = limit) := by omega
  clear hlim
  rcases hway with ⟨l1, l3⟩ | ⟨l1, l2, l3⟩ | ⟨l1, l2, l3⟩
  · replace l3 := Lib.hid l3
    go_enter Try.func12, Try.ntmps12
    go_upto_region 3 with (fail)
    rw [show (4096 : Int) = (L : Int) by rw [l3.out]; rfl]
    go_upto_region 6 with (first
      | (go_at_call 19; refine (as_new L _ hL2 _ rfl).mono ?_; rintro e w1 ⟨p, x, L0, rfl, h1⟩; have hz1 := Lib.hid (ints_below (hz.out) h1.below); replace h1 := Lib.hid h1)
      | fail)
    go_wp2_with (first
      | ((with_reducible show wpList _ _ _ (⟨some 35, _, _, _, _, _⟩ :: _) _ _); refine wpList_list_of rfl (.tmp 33) (.tmp 34) rfl rfl A n cap zs rfl hn.out hz1.out hA.out hlen ?_; intro A2 cap2 w2 hi2 hb2 ha2 hB2; have h2 := Lib.hid (h1.out.keep hB2); replace hb2 := Lib.hid hb2; replace ha2 := Lib.hid ha2; replace hi2 := Lib.hid hi2)
      | (go_at_call 48; refine (dir_new_bad _ _ _ _ n hp (by omega)).mono ?_; rintro e w3 ⟨rfl, hB3⟩; have h3 := Lib.hid (h2.out.keep hB3); unfold noDir)
      | (go_at_call 49; refine (depthOf_no _ _ n rfl hp).mono ?_; rintro e w4 ⟨rfl, rfl⟩)
      | (go_at_call 34; refine (as_live (by first | exact h3.out.alloc _ | exact h3.out) 0 rfl).mono ?_; rintro e w4 ⟨rfl, rfl⟩)
      | fail)
    go_ret
    exact ⟨rfl, (h3.out.alloc _).below⟩
  · replace l3 := Lib.hid l3
    go_enter Try.func12, Try.ntmps12
    go_upto_region 3 with (fail)
    rw [show (4096 : Int) = (L : Int) by rw [l3.out]; rfl]
    go_upto_region 6 with (first
      | (go_at_call 19; refine (as_new L _ hL2 _ rfl).mono ?_; rintro e w1 ⟨p, x, L0, rfl, h1⟩; have hz1 := Lib.hid (ints_below (hz.out) h1.below); replace h1 := Lib.hid h1)
      | fail)
    go_wp2_with (first
      | ((with_reducible show wpList _ _ _ (⟨some 35, _, _, _, _, _⟩ :: _) _ _); refine wpList_list_of rfl (.tmp 33) (.tmp 34) rfl rfl A n cap zs rfl hn.out hz1.out hA.out hlen ?_; intro A2 cap2 w2 hi2 hb2 ha2 hB2; have h2 := Lib.hid (h1.out.keep hB2); replace hb2 := Lib.hid hb2; replace ha2 := Lib.hid ha2; replace hi2 := Lib.hid hi2)
      | (go_at_call 48; refine (dir_new_bad _ _ _ _ n hp (by omega)).mono ?_; rintro e w3 ⟨rfl, hB3⟩; have h3 := Lib.hid (h2.out.keep hB3); unfold noDir)
      | (go_at_call 49; refine (depthOf_no _ _ n rfl hp).mono ?_; rintro e w4 ⟨rfl, rfl⟩)
      | (go_at_call 34; refine (as_live (by first | exact h3.out.alloc _ | exact h3.out) 0 rfl).mono ?_; rintro e w4 ⟨rfl, rfl⟩)
      | fail)
    go_ret
    exact ⟨rfl, (h3.out.alloc _).below⟩
  · obtain rfl := l3
    go_enter Try.func12, Try.ntmps12
    go_upto_region 3 with (fail)
    go_upto_region 6 with (first
      | (go_at_call 19; refine (as_new L _ hL2 _ rfl).mono ?_; rintro e w1 ⟨p, x, L0, rfl, h1⟩; have hz1 := Lib.hid (ints_below (hz.out) h1.below); replace h1 := Lib.hid h1)
      | fail)
    go_wp2_with (first
      | ((with_reducible show wpList _ _ _ (⟨some 35, _, _, _, _, _⟩ :: _) _ _); refine wpList_list_of rfl (.tmp 33) (.tmp 34) rfl rfl A n cap zs rfl hn.out hz1.out hA.out hlen ?_; intro A2 cap2 w2 hi2 hb2 ha2 hB2; have h2 := Lib.hid (h1.out.keep hB2); replace hb2 := Lib.hid hb2; replace ha2 := Lib.hid ha2; replace hi2 := Lib.hid hi2)
      | (go_at_call 48; refine (dir_new_bad _ _ _ _ n hp (by omega)).mono ?_; rintro e w3 ⟨rfl, hB3⟩; have h3 := Lib.hid (h2.out.keep hB3); unfold noDir)
      | (go_at_call 49; refine (depthOf_no _ _ n rfl hp).mono ?_; rintro e w4 ⟨rfl, rfl⟩)
      | (go_at_call 34; refine (as_live (by first | exact h3.out.alloc _ | exact h3.out) 0 rfl).mono ?_; rintro e w4 ⟨rfl, rfl⟩)
      | fail)
    go_ret
    exact ⟨rfl, (h3.out.alloc _).below⟩
set_option maxHeartbeats 4000000 in
set_option maxRecDepth 100000 in
theorem makes_full (w : World) (limit : Int) (A : Option Addr) (cap n : Nat) (zs : List Int) (i : Int) (hn : zs.length = n) (hz : IntsIn w A zs) (hA : A = none → n = 0 ∧ cap = 0) (hlen : n ≤ 17592186044414) (hrg : ∀ z ∈ zs, isI z) (L : Nat) (hL2 : L ≤ 2097152)
    (hlim : (L : Int) = limit ∨ (L = 4096 ∧ (limit < 0 ∨ 2097152 < limit))) (hp : isPow n) (hbig : (L : Int) < clsN (8 * (n : Int))) : Calls Try.prog 12 #[.int .i64 limit, .slice A n cap, .int .i64 i] w fun e w' => e = .returned (.bool true) ∧ Below w.heap.size w w' := by
  replace hn := Lib.hid hn
  replace hrg := Lib.hid hrg
  replace hz := Lib.hid hz
  replace hA := Lib.hid hA
  obtain ⟨d, hd6, hnd⟩ := hp
  have hn1 : 1 ≤ n := by rw [hnd]; exact Nat.one_le_two_pow
  have hn64 : n ≤ 64 := by rw [hnd]; exact pow64 hd6
  obtain ⟨c, hc⟩ : ∃ c, Hid (clsN (8 * (n : Int)) = c) := ⟨_, rfl⟩
  have hc8 : 8 * n ≤ c := by have := clsN_ge' (8 * n) (by omega) (by omega); push_cast at this; rw [hc.out] at this; exact this
  have hcm : c ≤ 1048576 := by rw [← hc.out]; exact clsN_le _
  replace hnd := Lib.hid hnd
  have g0 : ¬ (d : Int) < 0 := by omega
  have g1 : ¬ (c : Int) < 8 * (n : Int) := by omega
  rw [hc.out] at hbig
  have hway : (limit < 0 ∧ L = 4096) ∨ (¬ limit < 0 ∧ 2097152 < limit ∧ L = 4096) ∨ (¬ limit < 0 ∧ ¬ 2097152 < limit ∧ (L : Int) = limit) := by omega
  clear hlim
  rcases hway with ⟨l1, l3⟩ | ⟨l1, l2, l3⟩ | ⟨l1, l2, l3⟩
  · replace l3 := Lib.hid l3
    go_enter Try.func12, Try.ntmps12
    go_upto_region 3 with (fail)
    rw [show (4096 : Int) = (L : Int) by rw [l3.out]; rfl]
    go_upto_region 6 with (first
      | (go_at_call 19; refine (as_new L _ hL2 _ rfl).mono ?_; rintro e w1 ⟨p, x, L0, rfl, h1⟩; have hz1 := Lib.hid (ints_below (hz.out) h1.below); replace h1 := Lib.hid h1)
      | fail)
    go_wp2_with (first
      | ((with_reducible show wpList _ _ _ (⟨some 35, _, _, _, _, _⟩ :: _) _ _); refine wpList_list_of rfl (.tmp 33) (.tmp 34) rfl rfl A n cap zs rfl hn.out hz1.out hA.out hlen ?_; intro A2 cap2 w2 hi2 hb2 ha2 hB2; have h2 := Lib.hid (h1.out.keep hB2); replace hb2 := Lib.hid hb2; replace ha2 := Lib.hid ha2; replace hi2 := Lib.hid hi2)
      | (go_at_call 48; refine (dir_new_full h2.out.ar _ _ n ⟨d, hd6, hnd.out⟩ (by rw [hc.out]; simp only [liveSum]; omega)).mono ?_; rintro e w3 ⟨rfl, hB3⟩; have h3 := Lib.hid (h2.out.keep hB3); unfold noDir)
      | (go_at_call 49; refine (depthOf_yes _ _ n d rfl hd6 hnd.out).mono ?_; rintro e w4 ⟨rfl, rfl⟩)
      | (go_at_call 50; refine (class_is _ c _ (by omega) hc.out).mono ?_; rintro e w4 ⟨rfl, rfl⟩)
      | (go_at_call 34; refine (as_live (by first | exact h3.out.alloc _ | exact h3.out) 0 rfl).mono ?_; rintro e w4 ⟨rfl, rfl⟩)
      | fail)
    go_ret
    exact ⟨rfl, (h3.out.alloc _).below⟩
  · replace l3 := Lib.hid l3
    go_enter Try.func12, Try.ntmps12
    go_upto_region 3 with (fail)
    rw [show (4096 : Int) = (L : Int) by rw [l3.out]; rfl]
    go_upto_region 6 with (first
      | (go_at_call 19; refine (as_new L _ hL2 _ rfl).mono ?_; rintro e w1 ⟨p, x, L0, rfl, h1⟩; have hz1 := Lib.hid (ints_below (hz.out) h1.below); replace h1 := Lib.hid h1)
      | fail)
    go_wp2_with (first
      | ((with_reducible show wpList _ _ _ (⟨some 35, _, _, _, _, _⟩ :: _) _ _); refine wpList_list_of rfl (.tmp 33) (.tmp 34) rfl rfl A n cap zs rfl hn.out hz1.out hA.out hlen ?_; intro A2 cap2 w2 hi2 hb2 ha2 hB2; have h2 := Lib.hid (h1.out.keep hB2); replace hb2 := Lib.hid hb2; replace ha2 := Lib.hid ha2; replace hi2 := Lib.hid hi2)
      | (go_at_call 48; refine (dir_new_full h2.out.ar _ _ n ⟨d, hd6, hnd.out⟩ (by rw [hc.out]; simp only [liveSum]; omega)).mono ?_; rintro e w3 ⟨rfl, hB3⟩; have h3 := Lib.hid (h2.out.keep hB3); unfold noDir)
      | (go_at_call 49; refine (depthOf_yes _ _ n d rfl hd6 hnd.out).mono ?_; rintro e w4 ⟨rfl, rfl⟩)
      | (go_at_call 50; refine (class_is _ c _ (by omega) hc.out).mono ?_; rintro e w4 ⟨rfl, rfl⟩)
      | (go_at_call 34; refine (as_live (by first | exact h3.out.alloc _ | exact h3.out) 0 rfl).mono ?_; rintro e w4 ⟨rfl, rfl⟩)
      | fail)
    go_ret
    exact ⟨rfl, (h3.out.alloc _).below⟩
  · obtain rfl := l3
    go_enter Try.func12, Try.ntmps12
    go_upto_region 3 with (fail)
    go_upto_region 6 with (first
      | (go_at_call 19; refine (as_new L _ hL2 _ rfl).mono ?_; rintro e w1 ⟨p, x, L0, rfl, h1⟩; have hz1 := Lib.hid (ints_below (hz.out) h1.below); replace h1 := Lib.hid h1)
      | fail)
    go_wp2_with (first
      | ((with_reducible show wpList _ _ _ (⟨some 35, _, _, _, _, _⟩ :: _) _ _); refine wpList_list_of rfl (.tmp 33) (.tmp 34) rfl rfl A n cap zs rfl hn.out hz1.out hA.out hlen ?_; intro A2 cap2 w2 hi2 hb2 ha2 hB2; have h2 := Lib.hid (h1.out.keep hB2); replace hb2 := Lib.hid hb2; replace ha2 := Lib.hid ha2; replace hi2 := Lib.hid hi2)
      | (go_at_call 48; refine (dir_new_full h2.out.ar _ _ n ⟨d, hd6, hnd.out⟩ (by rw [hc.out]; simp only [liveSum]; omega)).mono ?_; rintro e w3 ⟨rfl, hB3⟩; have h3 := Lib.hid (h2.out.keep hB3); unfold noDir)
      | (go_at_call 49; refine (depthOf_yes _ _ n d rfl hd6 hnd.out).mono ?_; rintro e w4 ⟨rfl, rfl⟩)
      | (go_at_call 50; refine (class_is _ c _ (by omega) hc.out).mono ?_; rintro e w4 ⟨rfl, rfl⟩)
      | (go_at_call 34; refine (as_live (by first | exact h3.out.alloc _ | exact h3.out) 0 rfl).mono ?_; rintro e w4 ⟨rfl, rfl⟩)
      | fail)
    go_ret
    exact ⟨rfl, (h3.out.alloc _).below⟩
end Go.Proofs.Ytpbalilnemjeeaa
