/- What is proved here: Pick of a directory; the walk of the law DirPicks. Conditions: numbers of their kinds. -/
import Derived.Test.YtpbalilnemjeeaaDMade
import Derived.Test.YtpbalilnemjeeaaDTop
namespace Go.Proofs.Ytpbalilnemjeeaa
set_option linter.unusedVariables false
set_option linter.unusedSimpArgs false
open Go.RowKit Pm Pa Pl Pd
set_option maxHeartbeats 1000000 in
theorem dir_pick {w0 w : World} {p : Nat} {x : Loc} {lim : Nat} {ps : Parts} {L : List UInt8} (h : AS w0 p x lim ps L w) {off d : Nat} {es : List Int} (hD : DirAt ps L off d es) (H : Nat) (hH : H < 18446744073709551616) (t : Int) (ht : es[topN H d]? = some t) (I : Int) (hI : I = H) :
    Calls Try.prog 55 #[dirV p off d, .int .u64 I] w fun r w' => r = .returned (.tuple #[.int .i64 (topN H d : Int), .int .i64 t, .int .i64 0]) ∧ AS w0 p x lim ps L w' := by
  subst hI
  have hA := Lib.hid (h.alloc (.cells #[.pointer (some ⟨p, 0, none⟩), .int .i64 (off : Int), .int .i64 (d : Int)] 92))
  clear h
  have hdl := hD.dl
  replace hD := Lib.hid hD
  replace ht := Lib.hid ht
  unfold dirV
  go_enter Try.func55, Try.ntmps55
  go_wp2_with (first
    | (go_at_call 90; refine (top_is H d hH hdl _ _ _ rfl rfl).mono ?_; rintro r w1 ⟨rfl, rfl⟩)
    | (go_at_call 52; refine (entry_in hA.out hD.out (topN H d) t ht.out _ rfl).mono ?_; rintro r w2 ⟨rfl, hA2⟩)
    | fail)
  go_ret3
  exact ⟨rfl, hA2⟩
set_option maxHeartbeats 4000000 in
set_option maxRecDepth 100000 in
theorem picks_bad (w : World) (A : Option Addr) (cap n : Nat) (zs : List Int) (H : Nat) (hH : H < 18446744073709551616) (hn : zs.length = n) (hz : IntsIn w A zs) (hA : A = none → n = 0 ∧ cap = 0) (hlen : n ≤ 17592186044414) (hrg : ∀ z ∈ zs, isI z) (hp : ¬ isPow n) : Calls Try.prog 14 #[.slice A n cap, .int .u64 H] w fun e w' => e = .returned (.bool true) ∧ Below w.heap.size w w' := by
  go_enter Try.func14, Try.ntmps14
  go_wp2_with (first
    | (go_at_call 53; refine (made_bad w A cap n zs hn hz hA hlen hrg hp).mono ?_; rintro e w1 ⟨P, rfl, hB⟩; unfold madeV)
    | (go_at_call 49; refine (depthOf_no _ _ n rfl hp).mono ?_; rintro e w4 ⟨rfl, rfl⟩)
    | fail)
  go_ret
  exact ⟨rfl, hB.alloc hB.size _⟩
set_option maxHeartbeats 4000000 in
set_option maxRecDepth 100000 in
theorem picks_yes (w : World) (A : Option Addr) (cap n : Nat) (zs : List Int) (H : Nat) (hH : H < 18446744073709551616) (hn : zs.length = n) (hz : IntsIn w A zs) (hA : A = none → n = 0 ∧ cap = 0) (hlen : n ≤ 17592186044414) (hrg : ∀ z ∈ zs, isI z) (d : Nat) (hd6 : d ≤ 6) (hnd : n = 2 ^ d) : Calls Try.prog 14 #[.slice A n cap, .int .u64 H] w fun e w' => e = .returned (.bool true) ∧ Below w.heap.size w w' := by
  go_enter Try.func14, Try.ntmps14
  replace hnd := Lib.hid hnd
  replace hn := Lib.hid hn
  replace hrg := Lib.hid hrg
  replace hz := Lib.hid hz
  replace hA := Lib.hid hA
  go_upto_region 2 with (first
    | (go_at_call 53; refine (made_yes w A cap n zs hn.out hz.out hA.out hlen hrg.out d hd6 hnd.out).mono ?_; rintro e w1 ⟨p, x, L, rfl, h1, hD⟩; replace h1 := Lib.hid h1; replace hD := Lib.hid hD; unfold madeV dirV)
    | fail)
  obtain ⟨c, hc⟩ : ∃ c, Hid (c = clsN (8 * (n : Int))) := ⟨_, rfl⟩
  rw [← hc.out] at h1 hD
  have b6 := Blk.new w1 #[.pointer (some ⟨p, 0, none⟩), .int .i64 16, .int .i64 (d : Int)] 92
  have hS := h1.out.alloc (.cells #[.pointer (some ⟨p, 0, none⟩), .int .i64 16, .int .i64 (d : Int)] 92)
  generalize World.alloc w1 _ = w2 at b6 hS ⊢
  obtain ⟨g6, hg6⟩ : ∃ g, Hid (g = w1.heap.size) := ⟨_, rfl⟩
  rw [← hg6.out] at b6 ⊢
  replace hS := Lib.hid hS
  replace b6 := Lib.hid b6
  go_upto_region 6 with fail
  go_loopw [8, 9] (fun a8 a9 wr => ∃ k : Nat, k ≤ d ∧ a8 = .int .i64 (topN H k : Int) ∧ a9 = .int .i64 (k : Int) ∧ Hid (AS w p x 65536 [(c, true)] L wr) ∧ Hid (Blk wr g6 #[.pointer (some ⟨p, 0, none⟩), .int .i64 16, .int .i64 (d : Int)] 92)) (fun _ i _ => (d - (intOf i).toNat))
  case atStart => exact ⟨0, Nat.zero_le _, by rw [show topN H 0 = 0 from Nat.div_eq_of_lt hH]; rfl, rfl, hS, b6⟩
  case round =>
    obtain ⟨k, hk, rfl, rfl, hS, b6⟩ := hrel
    have c0 := b6.out.cell 0
    have c1 := b6.out.cell 1
    have c2 := b6.out.cell 2
    by_cases hkd : k < d
    · have hlt : (k : Int) < d := by omega
      have hk7 : k = 0 ∨ k = 1 ∨ k = 2 ∨ k = 3 ∨ k = 4 ∨ k = 5 := by omega
      rcases hk7 with rfl | rfl | rfl | rfl | rfl | rfl
      · rw [show (((0 : Nat) : Int)) = 0 from rfl] at hlt ⊢
        have ht0 := topN_lt (d := 0) hH (by omega)
        obtain ⟨T, hT⟩ : ∃ T, Hid (T = topN H 0) := ⟨_, rfl⟩
        have hst := topN_step (h := H) (k := 0) (by omega)
        rw [← hT.out] at ht0 hst ⊢
        replace ht0 : T < 1 := ht0
        replace hst : topN H 1 = 2 * T + H / 9223372036854775808 % 2 := hst
        replace hst := Lib.hid hst
        go_wp2_with (first
          | (go_at_call 51; refine (dir_depth _ _ _ _ ⟨_, rfl⟩ ⟨_, rfl⟩ ⟨_, rfl⟩).mono ?_; rintro r w5 ⟨rfl, hb5⟩; replace hS := Lib.hid (hS.out.keep hb5); replace b6 := Lib.hid (b6.out.keep hb5))
          | fail)
        refine ⟨⟨1, by omega, ?_, rfl, hS, b6⟩, by simp [intOf]; omega⟩
        rw [hst.out]
        congr 1
      · rw [show (((1 : Nat) : Int)) = 1 from rfl] at hlt ⊢
        have ht0 := topN_lt (d := 1) hH (by omega)
        obtain ⟨T, hT⟩ : ∃ T, Hid (T = topN H 1) := ⟨_, rfl⟩
        have hst := topN_step (h := H) (k := 1) (by omega)
        rw [← hT.out] at ht0 hst ⊢
        replace ht0 : T < 2 := ht0
        replace hst : topN H 2 = 2 * T + H / 4611686018427387904 % 2 := hst
        replace hst := Lib.hid hst
        go_wp2_with (first
          | (go_at_call 51; refine (dir_depth _ _ _ _ ⟨_, rfl⟩ ⟨_, rfl⟩ ⟨_, rfl⟩).mono ?_; rintro r w5 ⟨rfl, hb5⟩; replace hS := Lib.hid (hS.out.keep hb5); replace b6 := Lib.hid (b6.out.keep hb5))
          | fail)
        refine ⟨⟨2, by omega, ?_, rfl, hS, b6⟩, by simp [intOf]; omega⟩
        rw [hst.out]
        congr 1
      · rw [show (((2 : Nat) : Int)) = 2 from rfl] at hlt ⊢
        have ht0 := topN_lt (d := 2) hH (by omega)
        obtain ⟨T, hT⟩ : ∃ T, Hid (T = topN H 2) := ⟨_, rfl⟩
        have hst := topN_step (h := H) (k := 2) (by omega)
        rw [← hT.out] at ht0 hst ⊢
        replace ht0 : T < 4 := ht0
        replace hst : topN H 3 = 2 * T + H / 2305843009213693952 % 2 := hst
        replace hst := Lib.hid hst
        go_wp2_with (first
          | (go_at_call 51; refine (dir_depth _ _ _ _ ⟨_, rfl⟩ ⟨_, rfl⟩ ⟨_, rfl⟩).mono ?_; rintro r w5 ⟨rfl, hb5⟩; replace hS := Lib.hid (hS.out.keep hb5); replace b6 := Lib.hid (b6.out.keep hb5))
          | fail)
        refine ⟨⟨3, by omega, ?_, rfl, hS, b6⟩, by simp [intOf]; omega⟩
        rw [hst.out]
        congr 1
      · rw [show (((3 : Nat) : Int)) = 3 from rfl] at hlt ⊢
        have ht0 := topN_lt (d := 3) hH (by omega)
        obtain ⟨T, hT⟩ : ∃ T, Hid (T = topN H 3) := ⟨_, rfl⟩
        have hst := topN_step (h := H) (k := 3) (by omega)
        rw [← hT.out] at ht0 hst ⊢
        replace ht0 : T < 8 := ht0
        replace hst : topN H 4 = 2 * T + H / 1152921504606846976 % 2 := hst
        replace hst := Lib.hid hst
        go_wp2_with (first
          | (go_at_call 51; refine (dir_depth _ _ _ _ ⟨_, rfl⟩ ⟨_, rfl⟩ ⟨_, rfl⟩).mono ?_; rintro r w5 ⟨rfl, hb5⟩; replace hS := Lib.hid (hS.out.keep hb5); replace b6 := Lib.hid (b6.out.keep hb5))
          | fail)
        refine ⟨⟨4, by omega, ?_, rfl, hS, b6⟩, by simp [intOf]; omega⟩
        rw [hst.out]
        congr 1
      · rw [show (((4 : Nat) : Int)) = 4 from rfl] at hlt ⊢
        have ht0 := topN_lt (d := 4) hH (by omega)
        obtain ⟨T, hT⟩ : ∃ T, Hid (T = topN H 4) := ⟨_, rfl⟩
        have hst := topN_step (h := H) (k := 4) (by omega)
        rw [← hT.out] at ht0 hst ⊢
        replace ht0 : T < 16 := ht0
        replace hst : topN H 5 = 2 * T + H / 576460752303423488 % 2 := hst
        replace hst := Lib.hid hst
        go_wp2_with (first
          | (go_at_call 51; refine (dir_depth _ _ _ _ ⟨_, rfl⟩ ⟨_, rfl⟩ ⟨_, rfl⟩).mono ?_; rintro r w5 ⟨rfl, hb5⟩; replace hS := Lib.hid (hS.out.keep hb5); replace b6 := Lib.hid (b6.out.keep hb5))
          | fail)
        refine ⟨⟨5, by omega, ?_, rfl, hS, b6⟩, by simp [intOf]; omega⟩
        rw [hst.out]
        congr 1
      · rw [show (((5 : Nat) : Int)) = 5 from rfl] at hlt ⊢
        have ht0 := topN_lt (d := 5) hH (by omega)
        obtain ⟨T, hT⟩ : ∃ T, Hid (T = topN H 5) := ⟨_, rfl⟩
        have hst := topN_step (h := H) (k := 5) (by omega)
        rw [← hT.out] at ht0 hst ⊢
        replace ht0 : T < 32 := ht0
        replace hst : topN H 6 = 2 * T + H / 288230376151711744 % 2 := hst
        replace hst := Lib.hid hst
        go_wp2_with (first
          | (go_at_call 51; refine (dir_depth _ _ _ _ ⟨_, rfl⟩ ⟨_, rfl⟩ ⟨_, rfl⟩).mono ?_; rintro r w5 ⟨rfl, hb5⟩; replace hS := Lib.hid (hS.out.keep hb5); replace b6 := Lib.hid (b6.out.keep hb5))
          | fail)
        refine ⟨⟨6, by omega, ?_, rfl, hS, b6⟩, by simp [intOf]; omega⟩
        rw [hst.out]
        congr 1
    · obtain rfl : k = d := by omega
      have hT0 := topN_lt hH hd6
      obtain ⟨T, hT⟩ : ∃ T, Hid (T = topN H k) := ⟨_, rfl⟩
      rw [← hT.out] at hT0 ⊢
      have k0 : (0 : Int) ≤ T := by omega
      have k1 : (T : Int) < n := by have := hnd.out; omega
      obtain ⟨t, ht⟩ : ∃ t, zs[T]? = some t := ⟨_, List.getElem?_eq_getElem (by rw [hn.out]; omega)⟩
      replace ht := Lib.hid ht
      go_wp2_with (first
        | (go_at_call 51; refine (dir_depth _ _ _ _ ⟨_, rfl⟩ ⟨_, rfl⟩ ⟨_, rfl⟩).mono ?_; rintro r w5 ⟨rfl, hb5⟩; replace hS := Lib.hid (hS.out.keep hb5); replace b6 := Lib.hid (b6.out.keep hb5); clear c0 c1 c2; have c0 := b6.out.cell 0; have c1 := b6.out.cell 1; have c2 := b6.out.cell 2)
        | (go_at_call 55; refine (dir_pick hS.out hD.out H hH t (by rw [← hT.out]; exact ht.out) _ rfl).mono ?_; rw [← hT.out]; rintro r w6 ⟨rfl, h6⟩; obtain ⟨gg, oo, hAe, hcl⟩ := ints_below hz.out h6.below T t ht.out; subst hAe)
        | fail)
      go_ret
      exact ⟨rfl, h6.below⟩
theorem picks_all (w : World) (A : Option Addr) (cap : Nat) (zs : List Int) (H : Nat) (hH : H < 18446744073709551616) (hz : IntsIn w A zs) (hA : A = none → zs.length = 0 ∧ cap = 0) (hlen : zs.length ≤ 17592186044414) (hrg : ∀ z ∈ zs, isI z) : Calls Try.prog 14 #[.slice A zs.length cap, .int .u64 H] w fun e w' => e = .returned (.bool true) ∧ Below w.heap.size w w' := by
  by_cases hp : isPow zs.length
  · obtain ⟨d, h1, h2⟩ := hp
    exact picks_yes w A cap _ zs H hH rfl hz hA hlen hrg d h1 h2
  · exact picks_bad w A cap _ zs H hH rfl hz hA hlen hrg hp
end Go.Proofs.Ytpbalilnemjeeaa
