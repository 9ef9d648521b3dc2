/- What is proved here: the walk of the law ArenaNumbers. Conditions: numbers of their kinds. -/
import Derived.Test.YtpbalilnemjeeaaAS
import Derived.BigQuiet
namespace Go.Proofs.Ytpbalilnemjeeaa
set_option linter.unusedVariables false
set_option linter.unusedSimpArgs false
open Go.RowKit Pm Pa Pl
theorem cls16' : clsN 16 = 16 := by unfold clsN; rw [cls16 (by decide) (by decide)]; rfl
theorem in16 : Inside [(16, true)] 16 16 := ⟨0, 16, rfl, by decide, by decide⟩
theorem in16' (t k : Nat) (h : t + k ≤ 16) : Inside [(16, true)] (16 + t) k := ⟨0, 16, rfl, by simp [stOf, total], by simp [stOf, total]; omega⟩
/-- the sixteen bytes behind the store -/
def put16 (b : UInt8) (t k V : Nat) : List UInt8 := splice (List.replicate 16 b) t (leB k V)
theorem put16_len (b : UInt8) (t k V : Nat) (h : t + k ≤ 16) : (put16 b t k V).length = 16 := by
  unfold put16
  rw [splice_len _ _ _ (by rw [leB_len]; simpa using h)]
  simp
theorem put16_is (L : List UInt8) (b : UInt8) (t k V : Nat) (h : t + k ≤ 16) (hL : 32 ≤ L.length) : ((splice (splice L 16 (List.replicate 16 b)) (16 + t) (leB k V)).drop 16).take 16 = put16 b t k V := by
  have h1 : (splice L 16 (List.replicate 16 b)).length = L.length := splice_len _ _ _ (by simp; omega)
  apply List.ext_getElem?
  intro i
  rw [List.getElem?_take, List.getElem?_drop]
  by_cases hi : i < 16
  · rw [if_pos hi]
    unfold put16
    by_cases hin : t ≤ i ∧ i < t + k
    · rw [splice_in _ _ _ (by rw [h1, leB_len]; omega) _ (by omega) (by rw [leB_len]; omega), splice_in _ _ _ (by rw [leB_len]; simpa using h) _ hin.1 (by rw [leB_len]; omega), show 16 + i - (16 + t) = i - t by omega]
    · have hr : (splice (List.replicate 16 b) t (leB k V))[i]? = (List.replicate 16 b)[i]? := splice_out _ _ _ (by rw [leB_len]; simpa using h) _ (by rw [leB_len]; omega)
      rw [hr, splice_out _ _ (leB k V) (by rw [h1, leB_len]; omega) _ (by rw [leB_len]; omega), splice_in _ _ _ (by simp; omega) _ (by omega) (by simp; omega)]
      congr 1; omega
  · rw [if_neg hi]
    symm
    rw [List.getElem?_eq_none_iff, put16_len b t k V h]; omega
theorem put16_at (b : UInt8) (t k V : Nat) (h : t + k ≤ 16) (i : Nat) (hi : i < 16) : (put16 b t k V)[i]? = some (if t ≤ i ∧ i < t + k then UInt8.ofNat (V / 256 ^ (i - t) % 256) else b) := by
  unfold put16
  by_cases hin : t ≤ i ∧ i < t + k
  · rw [if_pos hin, splice_in _ _ _ (by rw [leB_len]; simpa using h) _ hin.1 (by rw [leB_len]; omega), leB_get? _ _ _ (by omega)]
  · rw [if_neg hin, splice_out _ _ _ (by rw [leB_len]; simpa using h) _ (by rw [leB_len]; omega)]
    rw [List.getElem?_replicate, if_pos hi]
theorem and_mask (V m K : Nat) (hV : V < 2 ^ 64) (hm : m ≤ 64) (hK : 2 ^ m - 1 = K) : bits .and .u64 (V : Int) (K : Int) = ((V % 2 ^ m : Nat) : Int) := by
  subst hK
  have h1 : 2 ^ m - 1 < 2 ^ 64 := by have := pow_mono hm; have := Nat.pow_pos (a := 2) (n := m) (by decide); omega
  rw [(bits_nat .u64 64 (by decide) wraps_u64 V (2 ^ m - 1) hV h1).1, Nat.and_two_pow_sub_one_eq_mod]
def restN (V t k i : Nat) : Nat := V / 256 ^ (min (i - t) k)
theorem rest_in (V t k i : Nat) (h : t ≤ i ∧ i < t + k) : restN V t k (i + 1) = restN V t k i / 256 := by
  unfold restN
  rw [show min (i + 1 - t) k = min (i - t) k + 1 by omega, Nat.pow_succ, Nat.div_div_eq_div_mul]
theorem rest_out (V t k i : Nat) (h : ¬ (t ≤ i ∧ i < t + k)) : restN V t k (i + 1) = restN V t k i := by
  unfold restN
  rw [show min (i + 1 - t) k = min (i - t) k by omega]
theorem rest_at (V t k i : Nat) (h : t ≤ i ∧ i < t + k) : restN V t k i = V / 256 ^ (i - t) := by
  unfold restN
  rw [show min (i - t) k = i - t by omega]
theorem byte_of {S : ByteArray} {X : List UInt8} (h : S.data.toList = X) (i : Nat) (hi : i < S.size) (v : UInt8) (hv : X[i]? = some v) : S[i]'hi = v := by
  subst h
  have e : S.data.toList[i]? = some (S[i]'hi) := by
    rw [Array.getElem?_toList, Array.getElem?_eq_getElem hi]
    rfl
  rw [e] at hv
  exact Option.some.inj hv
theorem restN_lt (V t k i : Nat) (h : V < 2 ^ 64) : restN V t k i < 18446744073709551616 := Nat.lt_of_le_of_lt (Nat.div_le_self _ _) h
set_option maxHeartbeats 4000000 in
set_option maxRecDepth 100000 in
theorem numbers_1 (t V : Nat) (b : UInt8) (w : World) (ht : t + 1 ≤ 16) (hV : V < 2 ^ 64) : Calls Try.prog 4 #[.agg #[.int .i64 (t : Int), .int .i64 1, .int .u64 (V : Int), .int .u8 (b.toNat : Int)]] w fun e w' => e = .returned (.bool true) ∧ Below w.heap.size w w' := by
  have hit := in16' t 1 ht
  have t0 : (0 : Int) ≤ t := by omega
  have t1 : ¬ (t : Int) < 0 := by omega
  have t2 : ¬ (15 : Int) < t := by omega
  go_enter Try.func4, Try.ntmps4
  go_upto_region 1 with (fail)
  go_quiet (fail)
  all_goals go_upto_block 0 with (first
    | (go_at_call 19; refine (as_new 1024 _ (by decide) _ rfl).mono ?_; rintro e w1 ⟨p, x, L0, rfl, h1⟩; replace h1 := Lib.hid h1)
    | (go_at_call 20; (with_reducible refine (num_any _ _).mono ?_); rintro e w' ⟨rfl, rfl⟩)
    | (go_at_call 28; refine (as_alloc h1.out (by intro a ha; cases ha) 16 (by decide) 16 cls16' (by decide) (by decide) 16 rfl).mono ?_; rintro e w2 ⟨x2, L2, rfl, h2, hL2⟩; replace h2 := Lib.hid h2)
    | (go_at_call 26; refine (as_fill h2.out in16 b _ _ rfl rfl _ rfl).mono ?_; rintro e w3 ⟨rfl, h3⟩; replace h3 := Lib.hid h3)
    | (go_at_call 29; refine (as_store h3.out hit (by decide) V hV _ _ (by push_cast; rfl) rfl).mono ?_; rintro e w4 ⟨rfl, h4⟩; replace h4 := Lib.hid h4; have hLl : 32 ≤ L2.length := h2.out.ar.mem.le; obtain ⟨S, hS⟩ : ∃ S : ByteArray, Hid (S.data.toList = put16 b t 1 V) := ⟨⟨(put16 b t 1 V).toArray⟩, rfl⟩; have hSs : S.size = 16 := by (have := congrArg List.length hS.out; rw [put16_len b t 1 V ht] at this; simpa using this))
    | (go_at_call 25; refine (as_read h4.out in16 _ _ rfl rfl S (by rw [put16_is L2 b t 1 V ht hLl]; exact hS.out)).mono ?_; rintro e w5 ⟨rfl, h5⟩; replace h5 := Lib.hid h5)
    | fail)
  clear hL2
  go_wp2_with fail
  go_loopw [13, 14] (fun a13 a14 wr => ∃ i : Nat, i ≤ 16 ∧ a14 = .int .i64 (i : Int) ∧ a13 = .int .u64 (restN V t 1 i : Int) ∧ Hid (wr = w5)) (fun _ i _ => (16 - (intOf i).toNat))
  case atStart => exact ⟨0, by decide, rfl, by simp [restN], rfl⟩
  case round =>
    obtain ⟨i, hi, rfl, rfl, hw⟩ := hrel
    obtain rfl := hw.out
    clear hw
    have hrl := restN_lt V t 1 i hV
    have i0 : (0 : Int) ≤ i := by omega
    by_cases hlt : i < 16
    · have i1 : (i : Int) < 16 := by omega
      have hlat := Lib.hid (put16_at b t 1 V ht i hlt)
      have hiS : i < S.size := by rw [hSs]; exact hlt
      by_cases hin : t ≤ i ∧ i < t + 1
      · have g1 : (t : Int) ≤ i := by omega
        have g2 : (i : Int) < t + 1 := by omega
        have hcmp : (((S[i]'hiS).toNat : Int) != ((restN V t 1 i : Nat) : Int) % 256) = false := by
          rw [byte_of hS.out i hiS _ hlat.out, if_pos hin, rest_at V t 1 i hin]
          have : V / 256 ^ (i - t) % 256 < 256 := Nat.mod_lt _ (by decide)
          simp
        have hre := rest_in V t 1 i hin
        replace hre := Lib.hid hre
        go_wp2_with fail
        exact ⟨⟨i + 1, by omega, by go_num, by rw [hre.out]; push_cast; rfl, by first | rfl | trivial⟩, by simp [intOf]; omega⟩
      · have hg : (i : Int) < t ∨ ((t : Int) ≤ i ∧ ¬ (i : Int) < t + 1) := by omega
        have hcmp : (((S[i]'hiS).toNat : Int) != ((b.toNat : Nat) : Int)) = false := by
          rw [byte_of hS.out i hiS _ hlat.out, if_neg hin]
          simp
        have hre := rest_out V t 1 i hin
        replace hre := Lib.hid hre
        rcases hg with g1 | ⟨g1, g2⟩
        · have g0 : ¬ (t : Int) ≤ i := by omega
          go_wp2_with fail
          exact ⟨⟨i + 1, by omega, by go_num, by rw [hre.out], by first | rfl | trivial⟩, by simp [intOf]; omega⟩
        · go_wp2_with fail
          exact ⟨⟨i + 1, by omega, by go_num, by rw [hre.out], by first | rfl | trivial⟩, by simp [intOf]; omega⟩
    · obtain rfl : i = 16 := by omega
      rw [show (((16 : Nat) : Int)) = 16 from rfl]
      clear hrl i0 hlt hi
      obtain ⟨L4, hL4⟩ : ∃ L4, Hid (L4 = splice (splice L2 16 (List.replicate 16 b)) (16 + t) (leB 1 V)) := ⟨_, rfl⟩
      have hll : (splice L2 16 (List.replicate 16 b)).length = L2.length := splice_len _ _ _ (by simp; omega)
      have hmid : Hid (((L4.drop (16 + t)).take 1) = leB 1 V) := by
        have h9 := splice_mid (splice L2 16 (List.replicate 16 b)) (16 + t) (leB 1 V) (by rw [hll, leB_len]; omega)
        rw [leB_len] at h9
        unfold Hid
        rw [hL4.out]; exact h9
      rw [← hL4.out] at h5
      obtain ⟨W, hW⟩ : ∃ W : Nat, Hid (W = V % 2 ^ 8) := ⟨_, Lib.hid rfl⟩
      have hr0 : Hid ((leN ((L4.drop (16 + t)).take 1) : Int) = (W : Int)) := by unfold Hid; rw [hmid.out, leN_leB, pow_256]; rw [hW.out]
      have hand : bits .and .u64 (V : Int) 255 = ((W : Nat) : Int) := by rw [hW.out]; exact and_mask V 8 255 hV (by decide) rfl
      have tok1 : True := trivial
      have tok2 : True := trivial
      have tok3 : True := trivial
      go_wp2_with (first
        | (go_at_call 20; (with_reducible refine (num_any _ _).mono ?_); rintro e w' ⟨rfl, rfl⟩)
        | (go_at_call 30; have _t := tok1; refine (as_load h5.out hit (by decide) _ _ (by push_cast; omega) (by first | rfl | decide) _ hr0.out).mono ?_; rintro e w' ⟨rfl, h6⟩; replace h6 := Lib.hid h6; clear tok1)
        | fail)
      go_ret
      exact ⟨rfl, (below_drewN ((Below.refl w.heap.size w).alloc (Nat.le_refl _) _) _).trans (h6.out.below.mono (by simp))⟩
set_option maxHeartbeats 4000000 in
set_option maxRecDepth 100000 in
theorem numbers_2 (t V : Nat) (b : UInt8) (w : World) (ht : t + 2 ≤ 16) (hV : V < 2 ^ 64) : Calls Try.prog 4 #[.agg #[.int .i64 (t : Int), .int .i64 2, .int .u64 (V : Int), .int .u8 (b.toNat : Int)]] w fun e w' => e = .returned (.bool true) ∧ Below w.heap.size w w' := by
  have hit := in16' t 2 ht
  have t0 : (0 : Int) ≤ t := by omega
  have t1 : ¬ (t : Int) < 0 := by omega
  have t2 : ¬ (14 : Int) < t := by omega
  go_enter Try.func4, Try.ntmps4
  go_upto_region 1 with (fail)
  go_quiet (fail)
  all_goals go_upto_block 0 with (first
    | (go_at_call 19; refine (as_new 1024 _ (by decide) _ rfl).mono ?_; rintro e w1 ⟨p, x, L0, rfl, h1⟩; replace h1 := Lib.hid h1)
    | (go_at_call 20; (with_reducible refine (num_any _ _).mono ?_); rintro e w' ⟨rfl, rfl⟩)
    | (go_at_call 28; refine (as_alloc h1.out (by intro a ha; cases ha) 16 (by decide) 16 cls16' (by decide) (by decide) 16 rfl).mono ?_; rintro e w2 ⟨x2, L2, rfl, h2, hL2⟩; replace h2 := Lib.hid h2)
    | (go_at_call 26; refine (as_fill h2.out in16 b _ _ rfl rfl _ rfl).mono ?_; rintro e w3 ⟨rfl, h3⟩; replace h3 := Lib.hid h3)
    | (go_at_call 29; refine (as_store h3.out hit (by decide) V hV _ _ (by push_cast; rfl) rfl).mono ?_; rintro e w4 ⟨rfl, h4⟩; replace h4 := Lib.hid h4; have hLl : 32 ≤ L2.length := h2.out.ar.mem.le; obtain ⟨S, hS⟩ : ∃ S : ByteArray, Hid (S.data.toList = put16 b t 2 V) := ⟨⟨(put16 b t 2 V).toArray⟩, rfl⟩; have hSs : S.size = 16 := by (have := congrArg List.length hS.out; rw [put16_len b t 2 V ht] at this; simpa using this))
    | (go_at_call 25; refine (as_read h4.out in16 _ _ rfl rfl S (by rw [put16_is L2 b t 2 V ht hLl]; exact hS.out)).mono ?_; rintro e w5 ⟨rfl, h5⟩; replace h5 := Lib.hid h5)
    | fail)
  clear hL2
  go_wp2_with fail
  go_loopw [13, 14] (fun a13 a14 wr => ∃ i : Nat, i ≤ 16 ∧ a14 = .int .i64 (i : Int) ∧ a13 = .int .u64 (restN V t 2 i : Int) ∧ Hid (wr = w5)) (fun _ i _ => (16 - (intOf i).toNat))
  case atStart => exact ⟨0, by decide, rfl, by simp [restN], rfl⟩
  case round =>
    obtain ⟨i, hi, rfl, rfl, hw⟩ := hrel
    obtain rfl := hw.out
    clear hw
    have hrl := restN_lt V t 2 i hV
    have i0 : (0 : Int) ≤ i := by omega
    by_cases hlt : i < 16
    · have i1 : (i : Int) < 16 := by omega
      have hlat := Lib.hid (put16_at b t 2 V ht i hlt)
      have hiS : i < S.size := by rw [hSs]; exact hlt
      by_cases hin : t ≤ i ∧ i < t + 2
      · have g1 : (t : Int) ≤ i := by omega
        have g2 : (i : Int) < t + 2 := by omega
        have hcmp : (((S[i]'hiS).toNat : Int) != ((restN V t 2 i : Nat) : Int) % 256) = false := by
          rw [byte_of hS.out i hiS _ hlat.out, if_pos hin, rest_at V t 2 i hin]
          have : V / 256 ^ (i - t) % 256 < 256 := Nat.mod_lt _ (by decide)
          simp
        have hre := rest_in V t 2 i hin
        replace hre := Lib.hid hre
        go_wp2_with fail
        exact ⟨⟨i + 1, by omega, by go_num, by rw [hre.out]; push_cast; rfl, by first | rfl | trivial⟩, by simp [intOf]; omega⟩
      · have hg : (i : Int) < t ∨ ((t : Int) ≤ i ∧ ¬ (i : Int) < t + 2) := by omega
        have hcmp : (((S[i]'hiS).toNat : Int) != ((b.toNat : Nat) : Int)) = false := by
          rw [byte_of hS.out i hiS _ hlat.out, if_neg hin]
          simp
        have hre := rest_out V t 2 i hin
        replace hre := Lib.hid hre
        rcases hg with g1 | ⟨g1, g2⟩
        · have g0 : ¬ (t : Int) ≤ i := by omega
          go_wp2_with fail
          exact ⟨⟨i + 1, by omega, by go_num, by rw [hre.out], by first | rfl | trivial⟩, by simp [intOf]; omega⟩
        · go_wp2_with fail
          exact ⟨⟨i + 1, by omega, by go_num, by rw [hre.out], by first | rfl | trivial⟩, by simp [intOf]; omega⟩
    · obtain rfl : i = 16 := by omega
      rw [show (((16 : Nat) : Int)) = 16 from rfl]
      clear hrl i0 hlt hi
      obtain ⟨L4, hL4⟩ : ∃ L4, Hid (L4 = splice (splice L2 16 (List.replicate 16 b)) (16 + t) (leB 2 V)) := ⟨_, rfl⟩
      have hll : (splice L2 16 (List.replicate 16 b)).length = L2.length := splice_len _ _ _ (by simp; omega)
      have hmid : Hid (((L4.drop (16 + t)).take 2) = leB 2 V) := by
        have h9 := splice_mid (splice L2 16 (List.replicate 16 b)) (16 + t) (leB 2 V) (by rw [hll, leB_len]; omega)
        rw [leB_len] at h9
        unfold Hid
        rw [hL4.out]; exact h9
      rw [← hL4.out] at h5
      obtain ⟨W, hW⟩ : ∃ W : Nat, Hid (W = V % 2 ^ 16) := ⟨_, Lib.hid rfl⟩
      have hr0 : Hid ((leN ((L4.drop (16 + t)).take 2) : Int) = (W : Int)) := by unfold Hid; rw [hmid.out, leN_leB, pow_256]; rw [hW.out]
      have hand : bits .and .u64 (V : Int) 65535 = ((W : Nat) : Int) := by rw [hW.out]; exact and_mask V 16 65535 hV (by decide) rfl
      have tok1 : True := trivial
      have tok2 : True := trivial
      have tok3 : True := trivial
      have hit2 := in16' t 1 (by omega)
      have hit3 := in16' (t + 1) 1 (by omega)
      obtain ⟨W1, hW1⟩ : ∃ W1 : Nat, Hid ((leN ((L4.drop (16 + t)).take 1) : Int) = (W1 : Int)) := ⟨_, rfl⟩
      obtain ⟨W2, hW2⟩ : ∃ W2 : Nat, Hid ((leN ((L4.drop (16 + (t + 1))).take 1) : Int) = (W2 : Int)) := ⟨_, rfl⟩
      have hL4l : L4.length = L2.length := by rw [hL4.out, splice_len _ _ _ (by rw [hll, leB_len]; omega), hll]
      have hsum : Hid ((leN ((L4.drop (16 + t)).take 2) : Int) = (W1 : Int) + 256 * (W2 : Int)) := by
        have h9 : leN ((L4.drop (16 + t)).take 2) = leN ((L4.drop (16 + t)).take 1) + 256 * leN ((L4.drop (16 + (t + 1))).take 1) := leN_halves L4 (16 + t) 1 (by rw [hL4l]; omega)
        unfold Hid
        rw [h9, Int.natCast_add, Int.natCast_mul, hW1.out, hW2.out]
        rfl
      have hb1 : W1 < 256 := by
        have h9 := leN_take_lt (L4.drop (16 + t)) 1
        have h8 := hW1.out
        omega
      have hb2 : W2 < 256 := by
        have h9 := leN_take_lt (L4.drop (16 + (t + 1))) 1
        have h8 := hW2.out
        omega
      go_wp2_with (first
        | (go_at_call 20; (with_reducible refine (num_any _ _).mono ?_); rintro e w' ⟨rfl, rfl⟩)
        | (go_at_call 30; have _t := tok1; refine (as_load h5.out hit (by decide) _ _ (by push_cast; omega) (by first | rfl | decide) _ hr0.out).mono ?_; rintro e w' ⟨rfl, h6⟩; replace h6 := Lib.hid h6; clear tok1)
        | (go_at_call 30; have _t := tok2; refine (as_load h6.out hit2 (by decide) _ _ (by push_cast; omega) (by first | rfl | decide) _ hW1.out).mono ?_; rintro e w' ⟨rfl, h7⟩; replace h7 := Lib.hid h7; clear tok2)
        | (go_at_call 30; have _t := tok3; refine (as_load h7.out hit3 (by decide) _ _ (by push_cast; omega) (by first | rfl | decide) _ hW2.out).mono ?_; rintro e w' ⟨rfl, h8⟩; replace h8 := Lib.hid h8; clear tok3)
        | fail)
      go_ret
      have e : (W : Int) = (W1 : Int) + 256 * (W2 : Int) := hr0.out.symm.trans hsum.out
      exact ⟨ret_bool (by rw [beq_iff_eq]; omega), (below_drewN ((Below.refl w.heap.size w).alloc (Nat.le_refl _) _) _).trans (h8.out.below.mono (by simp))⟩
set_option maxHeartbeats 4000000 in
set_option maxRecDepth 100000 in
theorem numbers_4 (t V : Nat) (b : UInt8) (w : World) (ht : t + 4 ≤ 16) (hV : V < 2 ^ 64) : Calls Try.prog 4 #[.agg #[.int .i64 (t : Int), .int .i64 4, .int .u64 (V : Int), .int .u8 (b.toNat : Int)]] w fun e w' => e = .returned (.bool true) ∧ Below w.heap.size w w' := by
  have hit := in16' t 4 ht
  have t0 : (0 : Int) ≤ t := by omega
  have t1 : ¬ (t : Int) < 0 := by omega
  have t2 : ¬ (12 : Int) < t := by omega
  go_enter Try.func4, Try.ntmps4
  go_upto_region 1 with (fail)
  go_quiet (fail)
  all_goals go_upto_block 0 with (first
    | (go_at_call 19; refine (as_new 1024 _ (by decide) _ rfl).mono ?_; rintro e w1 ⟨p, x, L0, rfl, h1⟩; replace h1 := Lib.hid h1)
    | (go_at_call 20; (with_reducible refine (num_any _ _).mono ?_); rintro e w' ⟨rfl, rfl⟩)
    | (go_at_call 28; refine (as_alloc h1.out (by intro a ha; cases ha) 16 (by decide) 16 cls16' (by decide) (by decide) 16 rfl).mono ?_; rintro e w2 ⟨x2, L2, rfl, h2, hL2⟩; replace h2 := Lib.hid h2)
    | (go_at_call 26; refine (as_fill h2.out in16 b _ _ rfl rfl _ rfl).mono ?_; rintro e w3 ⟨rfl, h3⟩; replace h3 := Lib.hid h3)
    | (go_at_call 29; refine (as_store h3.out hit (by decide) V hV _ _ (by push_cast; rfl) rfl).mono ?_; rintro e w4 ⟨rfl, h4⟩; replace h4 := Lib.hid h4; have hLl : 32 ≤ L2.length := h2.out.ar.mem.le; obtain ⟨S, hS⟩ : ∃ S : ByteArray, Hid (S.data.toList = put16 b t 4 V) := ⟨⟨(put16 b t 4 V).toArray⟩, rfl⟩; have hSs : S.size = 16 := by (have := congrArg List.length hS.out; rw [put16_len b t 4 V ht] at this; simpa using this))
    | (go_at_call 25; refine (as_read h4.out in16 _ _ rfl rfl S (by rw [put16_is L2 b t 4 V ht hLl]; exact hS.out)).mono ?_; rintro e w5 ⟨rfl, h5⟩; replace h5 := Lib.hid h5)
    | fail)
  clear hL2
  go_wp2_with fail
  go_loopw [13, 14] (fun a13 a14 wr => ∃ i : Nat, i ≤ 16 ∧ a14 = .int .i64 (i : Int) ∧ a13 = .int .u64 (restN V t 4 i : Int) ∧ Hid (wr = w5)) (fun _ i _ => (16 - (intOf i).toNat))
  case atStart => exact ⟨0, by decide, rfl, by simp [restN], rfl⟩
  case round =>
    obtain ⟨i, hi, rfl, rfl, hw⟩ := hrel
    obtain rfl := hw.out
    clear hw
    have hrl := restN_lt V t 4 i hV
    have i0 : (0 : Int) ≤ i := by omega
    by_cases hlt : i < 16
    · have i1 : (i : Int) < 16 := by omega
      have hlat := Lib.hid (put16_at b t 4 V ht i hlt)
      have hiS : i < S.size := by rw [hSs]; exact hlt
      by_cases hin : t ≤ i ∧ i < t + 4
      · have g1 : (t : Int) ≤ i := by omega
        have g2 : (i : Int) < t + 4 := by omega
        have hcmp : (((S[i]'hiS).toNat : Int) != ((restN V t 4 i : Nat) : Int) % 256) = false := by
          rw [byte_of hS.out i hiS _ hlat.out, if_pos hin, rest_at V t 4 i hin]
          have : V / 256 ^ (i - t) % 256 < 256 := Nat.mod_lt _ (by decide)
          simp
        have hre := rest_in V t 4 i hin
        replace hre := Lib.hid hre
        go_wp2_with fail
        exact ⟨⟨i + 1, by omega, by go_num, by rw [hre.out]; push_cast; rfl, by first | rfl | trivial⟩, by simp [intOf]; omega⟩
      · have hg : (i : Int) < t ∨ ((t : Int) ≤ i ∧ ¬ (i : Int) < t + 4) := by omega
        have hcmp : (((S[i]'hiS).toNat : Int) != ((b.toNat : Nat) : Int)) = false := by
          rw [byte_of hS.out i hiS _ hlat.out, if_neg hin]
          simp
        have hre := rest_out V t 4 i hin
        replace hre := Lib.hid hre
        rcases hg with g1 | ⟨g1, g2⟩
        · have g0 : ¬ (t : Int) ≤ i := by omega
          go_wp2_with fail
          exact ⟨⟨i + 1, by omega, by go_num, by rw [hre.out], by first | rfl | trivial⟩, by simp [intOf]; omega⟩
        · go_wp2_with fail
          exact ⟨⟨i + 1, by omega, by go_num, by rw [hre.out], by first | rfl | trivial⟩, by simp [intOf]; omega⟩
    · obtain rfl : i = 16 := by omega
      rw [show (((16 : Nat) : Int)) = 16 from rfl]
      clear hrl i0 hlt hi
      obtain ⟨L4, hL4⟩ : ∃ L4, Hid (L4 = splice (splice L2 16 (List.replicate 16 b)) (16 + t) (leB 4 V)) := ⟨_, rfl⟩
      have hll : (splice L2 16 (List.replicate 16 b)).length = L2.length := splice_len _ _ _ (by simp; omega)
      have hmid : Hid (((L4.drop (16 + t)).take 4) = leB 4 V) := by
        have h9 := splice_mid (splice L2 16 (List.replicate 16 b)) (16 + t) (leB 4 V) (by rw [hll, leB_len]; omega)
        rw [leB_len] at h9
        unfold Hid
        rw [hL4.out]; exact h9
      rw [← hL4.out] at h5
      obtain ⟨W, hW⟩ : ∃ W : Nat, Hid (W = V % 2 ^ 32) := ⟨_, Lib.hid rfl⟩
      have hr0 : Hid ((leN ((L4.drop (16 + t)).take 4) : Int) = (W : Int)) := by unfold Hid; rw [hmid.out, leN_leB, pow_256]; rw [hW.out]
      have hand : bits .and .u64 (V : Int) 4294967295 = ((W : Nat) : Int) := by rw [hW.out]; exact and_mask V 32 4294967295 hV (by decide) rfl
      have tok1 : True := trivial
      have tok2 : True := trivial
      have tok3 : True := trivial
      have hit2 := in16' t 2 (by omega)
      have hit3 := in16' (t + 2) 2 (by omega)
      obtain ⟨W1, hW1⟩ : ∃ W1 : Nat, Hid ((leN ((L4.drop (16 + t)).take 2) : Int) = (W1 : Int)) := ⟨_, rfl⟩
      obtain ⟨W2, hW2⟩ : ∃ W2 : Nat, Hid ((leN ((L4.drop (16 + (t + 2))).take 2) : Int) = (W2 : Int)) := ⟨_, rfl⟩
      have hL4l : L4.length = L2.length := by rw [hL4.out, splice_len _ _ _ (by rw [hll, leB_len]; omega), hll]
      have hsum : Hid ((leN ((L4.drop (16 + t)).take 4) : Int) = (W1 : Int) + 65536 * (W2 : Int)) := by
        have h9 : leN ((L4.drop (16 + t)).take 4) = leN ((L4.drop (16 + t)).take 2) + 65536 * leN ((L4.drop (16 + (t + 2))).take 2) := leN_halves L4 (16 + t) 2 (by rw [hL4l]; omega)
        unfold Hid
        rw [h9, Int.natCast_add, Int.natCast_mul, hW1.out, hW2.out]
        rfl
      have hb1 : W1 < 65536 := by
        have h9 := leN_take_lt (L4.drop (16 + t)) 2
        have h8 := hW1.out
        omega
      have hb2 : W2 < 65536 := by
        have h9 := leN_take_lt (L4.drop (16 + (t + 2))) 2
        have h8 := hW2.out
        omega
      go_wp2_with (first
        | (go_at_call 20; (with_reducible refine (num_any _ _).mono ?_); rintro e w' ⟨rfl, rfl⟩)
        | (go_at_call 30; have _t := tok1; refine (as_load h5.out hit (by decide) _ _ (by push_cast; omega) (by first | rfl | decide) _ hr0.out).mono ?_; rintro e w' ⟨rfl, h6⟩; replace h6 := Lib.hid h6; clear tok1)
        | (go_at_call 30; have _t := tok2; refine (as_load h6.out hit2 (by decide) _ _ (by push_cast; omega) (by first | rfl | decide) _ hW1.out).mono ?_; rintro e w' ⟨rfl, h7⟩; replace h7 := Lib.hid h7; clear tok2)
        | (go_at_call 30; have _t := tok3; refine (as_load h7.out hit3 (by decide) _ _ (by push_cast; omega) (by first | rfl | decide) _ hW2.out).mono ?_; rintro e w' ⟨rfl, h8⟩; replace h8 := Lib.hid h8; clear tok3)
        | fail)
      go_ret
      have e : (W : Int) = (W1 : Int) + 65536 * (W2 : Int) := hr0.out.symm.trans hsum.out
      exact ⟨ret_bool (by rw [beq_iff_eq]; omega), (below_drewN ((Below.refl w.heap.size w).alloc (Nat.le_refl _) _) _).trans (h8.out.below.mono (by simp))⟩
set_option maxHeartbeats 4000000 in
set_option maxRecDepth 100000 in
theorem numbers_8 (t V : Nat) (b : UInt8) (w : World) (ht : t + 8 ≤ 16) (hV : V < 2 ^ 64) : Calls Try.prog 4 #[.agg #[.int .i64 (t : Int), .int .i64 8, .int .u64 (V : Int), .int .u8 (b.toNat : Int)]] w fun e w' => e = .returned (.bool true) ∧ Below w.heap.size w w' := by
  have hit := in16' t 8 ht
  have t0 : (0 : Int) ≤ t := by omega
  have t1 : ¬ (t : Int) < 0 := by omega
  have t2 : ¬ (8 : Int) < t := by omega
  go_enter Try.func4, Try.ntmps4
  go_upto_region 1 with (fail)
  go_quiet (fail)
  all_goals go_upto_block 0 with (first
    | (go_at_call 19; refine (as_new 1024 _ (by decide) _ rfl).mono ?_; rintro e w1 ⟨p, x, L0, rfl, h1⟩; replace h1 := Lib.hid h1)
    | (go_at_call 20; (with_reducible refine (num_any _ _).mono ?_); rintro e w' ⟨rfl, rfl⟩)
    | (go_at_call 28; refine (as_alloc h1.out (by intro a ha; cases ha) 16 (by decide) 16 cls16' (by decide) (by decide) 16 rfl).mono ?_; rintro e w2 ⟨x2, L2, rfl, h2, hL2⟩; replace h2 := Lib.hid h2)
    | (go_at_call 26; refine (as_fill h2.out in16 b _ _ rfl rfl _ rfl).mono ?_; rintro e w3 ⟨rfl, h3⟩; replace h3 := Lib.hid h3)
    | (go_at_call 29; refine (as_store h3.out hit (by decide) V hV _ _ (by push_cast; rfl) rfl).mono ?_; rintro e w4 ⟨rfl, h4⟩; replace h4 := Lib.hid h4; have hLl : 32 ≤ L2.length := h2.out.ar.mem.le; obtain ⟨S, hS⟩ : ∃ S : ByteArray, Hid (S.data.toList = put16 b t 8 V) := ⟨⟨(put16 b t 8 V).toArray⟩, rfl⟩; have hSs : S.size = 16 := by (have := congrArg List.length hS.out; rw [put16_len b t 8 V ht] at this; simpa using this))
    | (go_at_call 25; refine (as_read h4.out in16 _ _ rfl rfl S (by rw [put16_is L2 b t 8 V ht hLl]; exact hS.out)).mono ?_; rintro e w5 ⟨rfl, h5⟩; replace h5 := Lib.hid h5)
    | fail)
  clear hL2
  go_wp2_with fail
  go_loopw [13, 14] (fun a13 a14 wr => ∃ i : Nat, i ≤ 16 ∧ a14 = .int .i64 (i : Int) ∧ a13 = .int .u64 (restN V t 8 i : Int) ∧ Hid (wr = w5)) (fun _ i _ => (16 - (intOf i).toNat))
  case atStart => exact ⟨0, by decide, rfl, by simp [restN], rfl⟩
  case round =>
    obtain ⟨i, hi, rfl, rfl, hw⟩ := hrel
    obtain rfl := hw.out
    clear hw
    have hrl := restN_lt V t 8 i hV
    have i0 : (0 : Int) ≤ i := by omega
    by_cases hlt : i < 16
    · have i1 : (i : Int) < 16 := by omega
      have hlat := Lib.hid (put16_at b t 8 V ht i hlt)
      have hiS : i < S.size := by rw [hSs]; exact hlt
      by_cases hin : t ≤ i ∧ i < t + 8
      · have g1 : (t : Int) ≤ i := by omega
        have g2 : (i : Int) < t + 8 := by omega
        have hcmp : (((S[i]'hiS).toNat : Int) != ((restN V t 8 i : Nat) : Int) % 256) = false := by
          rw [byte_of hS.out i hiS _ hlat.out, if_pos hin, rest_at V t 8 i hin]
          have : V / 256 ^ (i - t) % 256 < 256 := Nat.mod_lt _ (by decide)
          simp
        have hre := rest_in V t 8 i hin
        replace hre := Lib.hid hre
        go_wp2_with fail
        exact ⟨⟨i + 1, by omega, by go_num, by rw [hre.out]; push_cast; rfl, by first | rfl | trivial⟩, by simp [intOf]; omega⟩
      · have hg : (i : Int) < t ∨ ((t : Int) ≤ i ∧ ¬ (i : Int) < t + 8) := by omega
        have hcmp : (((S[i]'hiS).toNat : Int) != ((b.toNat : Nat) : Int)) = false := by
          rw [byte_of hS.out i hiS _ hlat.out, if_neg hin]
          simp
        have hre := rest_out V t 8 i hin
        replace hre := Lib.hid hre
        rcases hg with g1 | ⟨g1, g2⟩
        · have g0 : ¬ (t : Int) ≤ i := by omega
          go_wp2_with fail
          exact ⟨⟨i + 1, by omega, by go_num, by rw [hre.out], by first | rfl | trivial⟩, by simp [intOf]; omega⟩
        · go_wp2_with fail
          exact ⟨⟨i + 1, by omega, by go_num, by rw [hre.out], by first | rfl | trivial⟩, by simp [intOf]; omega⟩
    · obtain rfl : i = 16 := by omega
      rw [show (((16 : Nat) : Int)) = 16 from rfl]
      clear hrl i0 hlt hi
      obtain ⟨L4, hL4⟩ : ∃ L4, Hid (L4 = splice (splice L2 16 (List.replicate 16 b)) (16 + t) (leB 8 V)) := ⟨_, rfl⟩
      have hll : (splice L2 16 (List.replicate 16 b)).length = L2.length := splice_len _ _ _ (by simp; omega)
      have hmid : Hid (((L4.drop (16 + t)).take 8) = leB 8 V) := by
        have h9 := splice_mid (splice L2 16 (List.replicate 16 b)) (16 + t) (leB 8 V) (by rw [hll, leB_len]; omega)
        rw [leB_len] at h9
        unfold Hid
        rw [hL4.out]; exact h9
      rw [← hL4.out] at h5
      obtain ⟨W, hW⟩ : ∃ W : Nat, Hid (W = V % 2 ^ 64) := ⟨_, Lib.hid rfl⟩
      have hr0 : Hid ((leN ((L4.drop (16 + t)).take 8) : Int) = (V : Int)) := by unfold Hid; rw [hmid.out, leN_leB, pow_256]; rw [Nat.mod_eq_of_lt (by simpa using hV)]
      have tok1 : True := trivial
      have tok2 : True := trivial
      have tok3 : True := trivial
      have hit2 := in16' t 4 (by omega)
      have hit3 := in16' (t + 4) 4 (by omega)
      obtain ⟨W1, hW1⟩ : ∃ W1 : Nat, Hid ((leN ((L4.drop (16 + t)).take 4) : Int) = (W1 : Int)) := ⟨_, rfl⟩
      obtain ⟨W2, hW2⟩ : ∃ W2 : Nat, Hid ((leN ((L4.drop (16 + (t + 4))).take 4) : Int) = (W2 : Int)) := ⟨_, rfl⟩
      have hL4l : L4.length = L2.length := by rw [hL4.out, splice_len _ _ _ (by rw [hll, leB_len]; omega), hll]
      have hsum : Hid ((leN ((L4.drop (16 + t)).take 8) : Int) = (W1 : Int) + 4294967296 * (W2 : Int)) := by
        have h9 : leN ((L4.drop (16 + t)).take 8) = leN ((L4.drop (16 + t)).take 4) + 4294967296 * leN ((L4.drop (16 + (t + 4))).take 4) := leN_halves L4 (16 + t) 4 (by rw [hL4l]; omega)
        unfold Hid
        rw [h9, Int.natCast_add, Int.natCast_mul, hW1.out, hW2.out]
        rfl
      have hb1 : W1 < 4294967296 := by
        have h9 := leN_take_lt (L4.drop (16 + t)) 4
        have h8 := hW1.out
        omega
      have hb2 : W2 < 4294967296 := by
        have h9 := leN_take_lt (L4.drop (16 + (t + 4))) 4
        have h8 := hW2.out
        omega
      go_wp2_with (first
        | (go_at_call 20; (with_reducible refine (num_any _ _).mono ?_); rintro e w' ⟨rfl, rfl⟩)
        | (go_at_call 30; have _t := tok1; refine (as_load h5.out hit (by decide) _ _ (by push_cast; omega) (by first | rfl | decide) _ hr0.out).mono ?_; rintro e w' ⟨rfl, h6⟩; replace h6 := Lib.hid h6; clear tok1)
        | (go_at_call 30; have _t := tok2; refine (as_load h6.out hit2 (by decide) _ _ (by push_cast; omega) (by first | rfl | decide) _ hW1.out).mono ?_; rintro e w' ⟨rfl, h7⟩; replace h7 := Lib.hid h7; clear tok2)
        | (go_at_call 30; have _t := tok3; refine (as_load h7.out hit3 (by decide) _ _ (by push_cast; omega) (by first | rfl | decide) _ hW2.out).mono ?_; rintro e w' ⟨rfl, h8⟩; replace h8 := Lib.hid h8; clear tok3)
        | fail)
      go_ret
      have e : (V : Int) = (W1 : Int) + 4294967296 * (W2 : Int) := hr0.out.symm.trans hsum.out
      exact ⟨ret_bool (by rw [beq_iff_eq]; omega), (below_drewN ((Below.refl w.heap.size w).alloc (Nat.le_refl _) _) _).trans (h8.out.below.mono (by simp))⟩
set_option maxHeartbeats 2000000 in
set_option maxRecDepth 100000 in
theorem numbers_width (t k : Int) (k1 : k ≠ 1) (k2 : k ≠ 2) (k4 : k ≠ 4) (k8 : k ≠ 8) (v : Int) (b : UInt8) (w : World) : Calls Try.prog 4 #[.agg #[.int .i64 t, .int .i64 k, .int .u64 v, .int .u8 (b.toNat : Int)]] w fun e w' => e = .returned (.bool true) ∧ Below w.heap.size w w' := by
  go_enter Try.func4, Try.ntmps4
  go_upto_region 1 with (fail)
  go_quiet (fail)
  all_goals go_wp2_with (first
    | (go_at_call 19; refine (as_new 1024 _ (by decide) _ rfl).mono ?_; rintro e w1 ⟨p, x, L0, rfl, h1⟩; replace h1 := Lib.hid h1)
    | (go_at_call 20; (with_reducible refine (num_any _ _).mono ?_); rintro e w' ⟨rfl, rfl⟩)
    | (go_at_call 28; refine (as_alloc h1.out (by intro a ha; cases ha) 16 (by decide) 16 cls16' (by decide) (by decide) 16 rfl).mono ?_; rintro e w2 ⟨x2, L2, rfl, h2, hL2⟩; replace h2 := Lib.hid h2)
    | (go_at_call 26; refine (as_fill h2.out in16 b _ _ rfl rfl _ rfl).mono ?_; rintro e w3 ⟨rfl, h3⟩; replace h3 := Lib.hid h3)
    | fail)
  go_ret
  exact ⟨rfl, (below_drewN ((Below.refl w.heap.size w).alloc (Nat.le_refl _) _) _).trans (h3.out.below.mono (by simp))⟩
set_option maxHeartbeats 2000000 in
set_option maxRecDepth 100000 in
theorem numbers_neg1 (t : Int) (ht : t < 0) (v : Int) (b : UInt8) (w : World) : Calls Try.prog 4 #[.agg #[.int .i64 t, .int .i64 1, .int .u64 v, .int .u8 (b.toNat : Int)]] w fun e w' => e = .returned (.bool true) ∧ Below w.heap.size w w' := by
  go_enter Try.func4, Try.ntmps4
  go_upto_region 1 with (fail)
  go_quiet (fail)
  all_goals go_wp2_with (first
    | (go_at_call 19; refine (as_new 1024 _ (by decide) _ rfl).mono ?_; rintro e w1 ⟨p, x, L0, rfl, h1⟩; replace h1 := Lib.hid h1)
    | (go_at_call 20; (with_reducible refine (num_any _ _).mono ?_); rintro e w' ⟨rfl, rfl⟩)
    | (go_at_call 28; refine (as_alloc h1.out (by intro a ha; cases ha) 16 (by decide) 16 cls16' (by decide) (by decide) 16 rfl).mono ?_; rintro e w2 ⟨x2, L2, rfl, h2, hL2⟩; replace h2 := Lib.hid h2)
    | (go_at_call 26; refine (as_fill h2.out in16 b _ _ rfl rfl _ rfl).mono ?_; rintro e w3 ⟨rfl, h3⟩; replace h3 := Lib.hid h3)
    | fail)
  go_ret
  exact ⟨rfl, (below_drewN ((Below.refl w.heap.size w).alloc (Nat.le_refl _) _) _).trans (h3.out.below.mono (by simp))⟩
set_option maxHeartbeats 2000000 in
set_option maxRecDepth 100000 in
theorem numbers_far1 (t : Int) (ht : 15 < t) (v : Int) (b : UInt8) (w : World) : Calls Try.prog 4 #[.agg #[.int .i64 t, .int .i64 1, .int .u64 v, .int .u8 (b.toNat : Int)]] w fun e w' => e = .returned (.bool true) ∧ Below w.heap.size w w' := by
  have ht0 : ¬ t < 0 := by omega
  go_enter Try.func4, Try.ntmps4
  go_upto_region 1 with (fail)
  go_quiet (fail)
  all_goals go_wp2_with (first
    | (go_at_call 19; refine (as_new 1024 _ (by decide) _ rfl).mono ?_; rintro e w1 ⟨p, x, L0, rfl, h1⟩; replace h1 := Lib.hid h1)
    | (go_at_call 20; (with_reducible refine (num_any _ _).mono ?_); rintro e w' ⟨rfl, rfl⟩)
    | (go_at_call 28; refine (as_alloc h1.out (by intro a ha; cases ha) 16 (by decide) 16 cls16' (by decide) (by decide) 16 rfl).mono ?_; rintro e w2 ⟨x2, L2, rfl, h2, hL2⟩; replace h2 := Lib.hid h2)
    | (go_at_call 26; refine (as_fill h2.out in16 b _ _ rfl rfl _ rfl).mono ?_; rintro e w3 ⟨rfl, h3⟩; replace h3 := Lib.hid h3)
    | fail)
  go_ret
  exact ⟨rfl, (below_drewN ((Below.refl w.heap.size w).alloc (Nat.le_refl _) _) _).trans (h3.out.below.mono (by simp))⟩
set_option maxHeartbeats 2000000 in
set_option maxRecDepth 100000 in
theorem numbers_neg2 (t : Int) (ht : t < 0) (v : Int) (b : UInt8) (w : World) : Calls Try.prog 4 #[.agg #[.int .i64 t, .int .i64 2, .int .u64 v, .int .u8 (b.toNat : Int)]] w fun e w' => e = .returned (.bool true) ∧ Below w.heap.size w w' := by
  go_enter Try.func4, Try.ntmps4
  go_upto_region 1 with (fail)
  go_quiet (fail)
  all_goals go_wp2_with (first
    | (go_at_call 19; refine (as_new 1024 _ (by decide) _ rfl).mono ?_; rintro e w1 ⟨p, x, L0, rfl, h1⟩; replace h1 := Lib.hid h1)
    | (go_at_call 20; (with_reducible refine (num_any _ _).mono ?_); rintro e w' ⟨rfl, rfl⟩)
    | (go_at_call 28; refine (as_alloc h1.out (by intro a ha; cases ha) 16 (by decide) 16 cls16' (by decide) (by decide) 16 rfl).mono ?_; rintro e w2 ⟨x2, L2, rfl, h2, hL2⟩; replace h2 := Lib.hid h2)
    | (go_at_call 26; refine (as_fill h2.out in16 b _ _ rfl rfl _ rfl).mono ?_; rintro e w3 ⟨rfl, h3⟩; replace h3 := Lib.hid h3)
    | fail)
  go_ret
  exact ⟨rfl, (below_drewN ((Below.refl w.heap.size w).alloc (Nat.le_refl _) _) _).trans (h3.out.below.mono (by simp))⟩
set_option maxHeartbeats 2000000 in
set_option maxRecDepth 100000 in
theorem numbers_far2 (t : Int) (ht : 14 < t) (v : Int) (b : UInt8) (w : World) : Calls Try.prog 4 #[.agg #[.int .i64 t, .int .i64 2, .int .u64 v, .int .u8 (b.toNat : Int)]] w fun e w' => e = .returned (.bool true) ∧ Below w.heap.size w w' := by
  have ht0 : ¬ t < 0 := by omega
  go_enter Try.func4, Try.ntmps4
  go_upto_region 1 with (fail)
  go_quiet (fail)
  all_goals go_wp2_with (first
    | (go_at_call 19; refine (as_new 1024 _ (by decide) _ rfl).mono ?_; rintro e w1 ⟨p, x, L0, rfl, h1⟩; replace h1 := Lib.hid h1)
    | (go_at_call 20; (with_reducible refine (num_any _ _).mono ?_); rintro e w' ⟨rfl, rfl⟩)
    | (go_at_call 28; refine (as_alloc h1.out (by intro a ha; cases ha) 16 (by decide) 16 cls16' (by decide) (by decide) 16 rfl).mono ?_; rintro e w2 ⟨x2, L2, rfl, h2, hL2⟩; replace h2 := Lib.hid h2)
    | (go_at_call 26; refine (as_fill h2.out in16 b _ _ rfl rfl _ rfl).mono ?_; rintro e w3 ⟨rfl, h3⟩; replace h3 := Lib.hid h3)
    | fail)
  go_ret
  exact ⟨rfl, (below_drewN ((Below.refl w.heap.size w).alloc (Nat.le_refl _) _) _).trans (h3.out.below.mono (by simp))⟩
set_option maxHeartbeats 2000000 in
set_option maxRecDepth 100000 in
theorem numbers_neg4 (t : Int) (ht : t < 0) (v : Int) (b : UInt8) (w : World) : Calls Try.prog 4 #[.agg #[.int .i64 t, .int .i64 4, .int .u64 v, .int .u8 (b.toNat : Int)]] w fun e w' => e = .returned (.bool true) ∧ Below w.heap.size w w' := by
  go_enter Try.func4, Try.ntmps4
  go_upto_region 1 with (fail)
  go_quiet (fail)
  all_goals go_wp2_with (first
    | (go_at_call 19; refine (as_new 1024 _ (by decide) _ rfl).mono ?_; rintro e w1 ⟨p, x, L0, rfl, h1⟩; replace h1 := Lib.hid h1)
    | (go_at_call 20; (with_reducible refine (num_any _ _).mono ?_); rintro e w' ⟨rfl, rfl⟩)
    | (go_at_call 28; refine (as_alloc h1.out (by intro a ha; cases ha) 16 (by decide) 16 cls16' (by decide) (by decide) 16 rfl).mono ?_; rintro e w2 ⟨x2, L2, rfl, h2, hL2⟩; replace h2 := Lib.hid h2)
    | (go_at_call 26; refine (as_fill h2.out in16 b _ _ rfl rfl _ rfl).mono ?_; rintro e w3 ⟨rfl, h3⟩; replace h3 := Lib.hid h3)
    | fail)
  go_ret
  exact ⟨rfl, (below_drewN ((Below.refl w.heap.size w).alloc (Nat.le_refl _) _) _).trans (h3.out.below.mono (by simp))⟩
set_option maxHeartbeats 2000000 in
set_option maxRecDepth 100000 in
theorem numbers_far4 (t : Int) (ht : 12 < t) (v : Int) (b : UInt8) (w : World) : Calls Try.prog 4 #[.agg #[.int .i64 t, .int .i64 4, .int .u64 v, .int .u8 (b.toNat : Int)]] w fun e w' => e = .returned (.bool true) ∧ Below w.heap.size w w' := by
  have ht0 : ¬ t < 0 := by omega
  go_enter Try.func4, Try.ntmps4
  go_upto_region 1 with (fail)
  go_quiet (fail)
  all_goals go_wp2_with (first
    | (go_at_call 19; refine (as_new 1024 _ (by decide) _ rfl).mono ?_; rintro e w1 ⟨p, x, L0, rfl, h1⟩; replace h1 := Lib.hid h1)
    | (go_at_call 20; (with_reducible refine (num_any _ _).mono ?_); rintro e w' ⟨rfl, rfl⟩)
    | (go_at_call 28; refine (as_alloc h1.out (by intro a ha; cases ha) 16 (by decide) 16 cls16' (by decide) (by decide) 16 rfl).mono ?_; rintro e w2 ⟨x2, L2, rfl, h2, hL2⟩; replace h2 := Lib.hid h2)
    | (go_at_call 26; refine (as_fill h2.out in16 b _ _ rfl rfl _ rfl).mono ?_; rintro e w3 ⟨rfl, h3⟩; replace h3 := Lib.hid h3)
    | fail)
  go_ret
  exact ⟨rfl, (below_drewN ((Below.refl w.heap.size w).alloc (Nat.le_refl _) _) _).trans (h3.out.below.mono (by simp))⟩
set_option maxHeartbeats 2000000 in
set_option maxRecDepth 100000 in
theorem numbers_neg8 (t : Int) (ht : t < 0) (v : Int) (b : UInt8) (w : World) : Calls Try.prog 4 #[.agg #[.int .i64 t, .int .i64 8, .int .u64 v, .int .u8 (b.toNat : Int)]] w fun e w' => e = .returned (.bool true) ∧ Below w.heap.size w w' := by
  go_enter Try.func4, Try.ntmps4
  go_upto_region 1 with (fail)
  go_quiet (fail)
  all_goals go_wp2_with (first
    | (go_at_call 19; refine (as_new 1024 _ (by decide) _ rfl).mono ?_; rintro e w1 ⟨p, x, L0, rfl, h1⟩; replace h1 := Lib.hid h1)
    | (go_at_call 20; (with_reducible refine (num_any _ _).mono ?_); rintro e w' ⟨rfl, rfl⟩)
    | (go_at_call 28; refine (as_alloc h1.out (by intro a ha; cases ha) 16 (by decide) 16 cls16' (by decide) (by decide) 16 rfl).mono ?_; rintro e w2 ⟨x2, L2, rfl, h2, hL2⟩; replace h2 := Lib.hid h2)
    | (go_at_call 26; refine (as_fill h2.out in16 b _ _ rfl rfl _ rfl).mono ?_; rintro e w3 ⟨rfl, h3⟩; replace h3 := Lib.hid h3)
    | fail)
  go_ret
  exact ⟨rfl, (below_drewN ((Below.refl w.heap.size w).alloc (Nat.le_refl _) _) _).trans (h3.out.below.mono (by simp))⟩
set_option maxHeartbeats 2000000 in
set_option maxRecDepth 100000 in
theorem numbers_far8 (t : Int) (ht : 8 < t) (v : Int) (b : UInt8) (w : World) : Calls Try.prog 4 #[.agg #[.int .i64 t, .int .i64 8, .int .u64 v, .int .u8 (b.toNat : Int)]] w fun e w' => e = .returned (.bool true) ∧ Below w.heap.size w w' := by
  have ht0 : ¬ t < 0 := by omega
  go_enter Try.func4, Try.ntmps4
  go_upto_region 1 with (fail)
  go_quiet (fail)
  all_goals go_wp2_with (first
    | (go_at_call 19; refine (as_new 1024 _ (by decide) _ rfl).mono ?_; rintro e w1 ⟨p, x, L0, rfl, h1⟩; replace h1 := Lib.hid h1)
    | (go_at_call 20; (with_reducible refine (num_any _ _).mono ?_); rintro e w' ⟨rfl, rfl⟩)
    | (go_at_call 28; refine (as_alloc h1.out (by intro a ha; cases ha) 16 (by decide) 16 cls16' (by decide) (by decide) 16 rfl).mono ?_; rintro e w2 ⟨x2, L2, rfl, h2, hL2⟩; replace h2 := Lib.hid h2)
    | (go_at_call 26; refine (as_fill h2.out in16 b _ _ rfl rfl _ rfl).mono ?_; rintro e w3 ⟨rfl, h3⟩; replace h3 := Lib.hid h3)
    | fail)
  go_ret
  exact ⟨rfl, (below_drewN ((Below.refl w.heap.size w).alloc (Nat.le_refl _) _) _).trans (h3.out.below.mono (by simp))⟩
theorem numbers_all (t k v : Int) (b : UInt8) (w : World) (hv : 0 ≤ v ∧ v < 18446744073709551616) : Calls Try.prog 4 #[.agg #[.int .i64 t, .int .i64 k, .int .u64 v, .int .u8 (b.toNat : Int)]] w fun e w' => e = .returned (.bool true) ∧ Below w.heap.size w w' := by
  by_cases hk : k = 1 ∨ k = 2 ∨ k = 4 ∨ k = 8
  · obtain ⟨V, rfl⟩ := Int.eq_ofNat_of_zero_le hv.1
    have hV : V < 2 ^ 64 := by omega
    rcases hk with rfl | rfl | rfl | rfl
    · by_cases h1 : t < 0
      · exact numbers_neg1 t h1 _ b w
      · by_cases h2 : 15 < t
        · exact numbers_far1 t h2 _ b w
        · obtain ⟨t, rfl⟩ := Int.eq_ofNat_of_zero_le (by omega : 0 ≤ t)
          exact numbers_1 t V b w (by omega) hV
    · by_cases h1 : t < 0
      · exact numbers_neg2 t h1 _ b w
      · by_cases h2 : 14 < t
        · exact numbers_far2 t h2 _ b w
        · obtain ⟨t, rfl⟩ := Int.eq_ofNat_of_zero_le (by omega : 0 ≤ t)
          exact numbers_2 t V b w (by omega) hV
    · by_cases h1 : t < 0
      · exact numbers_neg4 t h1 _ b w
      · by_cases h2 : 12 < t
        · exact numbers_far4 t h2 _ b w
        · obtain ⟨t, rfl⟩ := Int.eq_ofNat_of_zero_le (by omega : 0 ≤ t)
          exact numbers_4 t V b w (by omega) hV
    · by_cases h1 : t < 0
      · exact numbers_neg8 t h1 _ b w
      · by_cases h2 : 8 < t
        · exact numbers_far8 t h2 _ b w
        · obtain ⟨t, rfl⟩ := Int.eq_ofNat_of_zero_le (by omega : 0 ≤ t)
          exact numbers_8 t V b w (by omega) hV
  · exact numbers_width t k (by omega) (by omega) (by omega) (by omega) v b w
end Go.Proofs.Ytpbalilnemjeeaa
