/- What is proved here: the contracts of the reference for control words: what each answers, by the word's bytes. Each word is below 2 to the 64. -/
import Derived.Test.YtakmaedimelaaaaDoorCFirst
import Derived.Test.YtakmaedimelaaaaDoorBlk
set_option linter.unusedVariables false
set_option linter.unusedSimpArgs false
namespace Go.Proofs.YtakmaedimelaaaaDoor
open Go.RowKit Pl
namespace Pl
theorem p256_pos (i : Nat) : 0 < 256 ^ i := Nat.pow_pos (by decide)
theorem put_eq {n i c : Nat} (h : n < 18446744073709551616) (hc : c < 256) (hi : i < 8) : byt n i * 256 ^ i ≤ n ∧ n - byt n i * 256 ^ i + c * 256 ^ i = setN n i c := by
  have e1 := wd_byt n h
  have e2 := wd_byt (setN n i c) (setN_lt hc hi)
  have g : ∀ j, j < 8 → byt (setN n i c) j = if j = i then c else byt n j := fun j hj => byt_setN hc hi hj
  rw [g 0 (by decide), g 1 (by decide), g 2 (by decide), g 3 (by decide), g 4 (by decide), g 5 (by decide), g 6 (by decide), g 7 (by decide)] at e2
  unfold wd at e1 e2
  generalize setN n i c = S at e2 ⊢
  clear g
  obtain ⟨b0, h0⟩ : ∃ b, b = byt n 0 := ⟨_, rfl⟩
  obtain ⟨b1, h1⟩ : ∃ b, b = byt n 1 := ⟨_, rfl⟩
  obtain ⟨b2, h2⟩ : ∃ b, b = byt n 2 := ⟨_, rfl⟩
  obtain ⟨b3, h3⟩ : ∃ b, b = byt n 3 := ⟨_, rfl⟩
  obtain ⟨b4, h4⟩ : ∃ b, b = byt n 4 := ⟨_, rfl⟩
  obtain ⟨b5, h5⟩ : ∃ b, b = byt n 5 := ⟨_, rfl⟩
  obtain ⟨b6, h6⟩ : ∃ b, b = byt n 6 := ⟨_, rfl⟩
  obtain ⟨b7, h7⟩ : ∃ b, b = byt n 7 := ⟨_, rfl⟩
  rw [← h0, ← h1, ← h2, ← h3, ← h4, ← h5, ← h6, ← h7] at e1 e2
  have hi8 : i = 0 ∨ i = 1 ∨ i = 2 ∨ i = 3 ∨ i = 4 ∨ i = 5 ∨ i = 6 ∨ i = 7 := by omega
  rcases hi8 with rfl | rfl | rfl | rfl | rfl | rfl | rfl | rfl
  · rw [← h0]; simp only [reduceIte, Nat.reduceEqDiff, Nat.reducePow] at e2 ⊢; clear h0 h1 h2 h3 h4 h5 h6 h7; omega
  · rw [← h1]; simp only [reduceIte, Nat.reduceEqDiff, Nat.reducePow] at e2 ⊢; clear h0 h1 h2 h3 h4 h5 h6 h7; omega
  · rw [← h2]; simp only [reduceIte, Nat.reduceEqDiff, Nat.reducePow] at e2 ⊢; clear h0 h1 h2 h3 h4 h5 h6 h7; omega
  · rw [← h3]; simp only [reduceIte, Nat.reduceEqDiff, Nat.reducePow] at e2 ⊢; clear h0 h1 h2 h3 h4 h5 h6 h7; omega
  · rw [← h4]; simp only [reduceIte, Nat.reduceEqDiff, Nat.reducePow] at e2 ⊢; clear h0 h1 h2 h3 h4 h5 h6 h7; omega
  · rw [← h5]; simp only [reduceIte, Nat.reduceEqDiff, Nat.reducePow] at e2 ⊢; clear h0 h1 h2 h3 h4 h5 h6 h7; omega
  · rw [← h6]; simp only [reduceIte, Nat.reduceEqDiff, Nat.reducePow] at e2 ⊢; clear h0 h1 h2 h3 h4 h5 h6 h7; omega
  · rw [← h7]; simp only [reduceIte, Nat.reduceEqDiff, Nat.reducePow] at e2 ⊢; clear h0 h1 h2 h3 h4 h5 h6 h7; omega
theorem byt_def (n i : Nat) : byt n i = n / 256 ^ i % 256 := rfl
def em : Nat → Nat
  | 0 => 0
  | k + 1 => em k * 256 + 128
/-- eight truths as cells -/
def bs (p : Nat → Bool) : Array Value := #[.bool (p 0), .bool (p 1), .bool (p 2), .bool (p 3), .bool (p 4), .bool (p 5), .bool (p 6), .bool (p 7)]
def upB (p : Nat → Bool) (k : Nat) : Nat → Bool := fun i => decide (i < k) && p i
theorem bs_up8 (p : Nat → Bool) : bs (upB p 8) = bs p := by simp [bs, upB]
theorem bs_congr {p q : Nat → Bool} (h : ∀ i, i < 8 → p i = q i) : bs p = bs q := by
  unfold bs; rw [h 0 (by decide), h 1 (by decide), h 2 (by decide), h 3 (by decide), h 4 (by decide), h 5 (by decide), h 6 (by decide), h 7 (by decide)]
theorem bs_set (p : Nat → Bool) (k : Nat) (hk : k < 8) (b : Bool) (hb : p k = b) : (bs (upB p k)).setIfInBounds k (.bool b) = bs (upB p (k + 1)) := by
  subst hb
  match k, hk with
  | 0, _ | 1, _ | 2, _ | 3, _ | 4, _ | 5, _ | 6, _ | 7, _ => simp [bs, upB]
theorem bs_drop (p : Nat → Bool) (k : Nat) (hk : k < 8) (hf : fst p = k) : (bs p).setIfInBounds k (.bool false) = bs (rst p) := by
  unfold rst; rw [hf]
  match k, hk with
  | 0, _ | 1, _ | 2, _ | 3, _ | 4, _ | 5, _ | 6, _ | 7, _ => simp [bs]
theorem bs_get (p : Nat → Bool) (k : Nat) (hk : k < 8) : (bs p)[k]? = some (.bool (p k)) := by
  match k, hk with
  | 0, _ | 1, _ | 2, _ | 3, _ | 4, _ | 5, _ | 6, _ | 7, _ => rfl
theorem rst_none (p : Nat → Bool) (hf : fst p = 8) : bs (rst p) = bs p := bs_congr fun i hi => by
  unfold rst; rw [hf]
  have : ((8 : Nat) != i) = true := by simp; omega
  rw [this, Bool.and_true]
end Pl
/-- a block of the call's own, nothing old turned -/
structure Own (w0 : World) (g : Nat) (cs : Array Value) (t : TypeId) (w : World) : Prop where
  below : Below w0.heap.size w0 w
  blk : Blk w g cs t
  hg : w0.heap.size ≤ g
section
variable {w0 w w' : World} {g : Nat} {cs : Array Value} {t : TypeId}
theorem Own.keep (h : Own w0 g cs t w) (hb : Below w.heap.size w w') : Own w0 g cs t w' := ⟨Below.then h.below hb, h.blk.keep hb, h.hg⟩
theorem Own.drew (h : Own w0 g cs t w) : Own w0 g cs t w.drew := ⟨h.below.drew, h.blk.drew, h.hg⟩
theorem Own.drewN (h : Own w0 g cs t w) (n : Nat) : Own w0 g cs t (w.drewN n) := ⟨below_drewN h.below n, h.blk.drewN n, h.hg⟩
theorem Own.set (h : Own w0 g cs t w) (i : Nat) (v : Value) : Own w0 g (cs.setIfInBounds i v) t (w.setCell ⟨g, i, none⟩ v) := ⟨h.below.setCell h.hg _, h.blk.set i v, h.hg⟩
end
theorem pow_in (i : Nat) (w : World) (hi : i < 8) : Calls Tryd.prog 33 #[.int .i64 i] w fun e w' => e = .returned (.int .u64 ((256 ^ i : Nat) : Int)) ∧ w = w' := by
  go_enter Tryd.func33, Tryd.ntmps33
  go_wp2_with fail
  go_loop [3, 4] (fun p k => ∃ j : Nat, j ≤ i ∧ k = .int .i64 j ∧ ∃ P : Nat, P = 256 ^ j ∧ p = .int .u64 P) (fun _ k => (i - intOf k).toNat)
  case atStart => exact ⟨0, by omega, rfl, 1, rfl, rfl⟩
  case round =>
    obtain ⟨j, hj, rfl, P, hP, rfl⟩ := hrel
    have hlt := p256_le (i := j) (by omega)
    have hpw : Hid (256 ^ (j + 1) = P * 256) := by unfold Hid; rw [hP, Nat.pow_succ]
    rw [← hP] at hlt
    replace hP := Lib.hid hP
    by_cases hji : j < i
    · have hl2 := p256_le (i := j + 1) (by omega)
      rw [hpw.out] at hl2
      go_wp2_with fail
      go_round
      case rel => exact ⟨j + 1, by omega, by go_num, P * 256, hpw.out.symm, by go_num⟩
      case measure => simp [intOf]; omega
    · obtain rfl : j = i := by omega
      go_wp2_with fail
      go_ret
      exact ⟨ret_int (by rw [hP.out]; simp), rfl⟩
theorem pow_to (i P : Nat) (w : World) (hi : i < 8) (hP : 256 ^ i = P) : Calls Tryd.prog 33 #[.int .i64 i] w fun e w' => e = .returned (.int .u64 (P : Int)) ∧ w = w' := by
  subst hP; exact pow_in i w hi
theorem rget_in (n i : Nat) (w : World) (h : n < 18446744073709551616) (hi : i < 8) : Calls Tryd.prog 23 #[.int .u64 n, .int .i64 i] w fun e w' => e = .returned (.int .i64 (byt n i : Nat)) ∧ w = w' := by
  obtain ⟨P, hP0⟩ : ∃ P, 256 ^ i = P := ⟨_, rfl⟩
  have hP := Lib.hid hP0
  have hpos : 0 < P := by rw [← hP0]; exact p256_pos i
  have hp0 : byt n i = n / P % 256 := by rw [← hP0]; rfl
  clear hP0
  have hd : n / P ≤ n := Nat.div_le_self _ _
  obtain ⟨q, hq⟩ : ∃ q, q = n / P := ⟨_, rfl⟩
  have f1 : IntKind.u64.wrap ((n : Int) / (P : Int)) = (q : Int) := by rw [hq, IntKind.wrap_u64]; push_cast; omega
  rw [← hq] at hp0 hd
  clear hq
  have hp := Lib.hid hp0
  clear hp0
  have h1 : ¬ ((i : Int) < 0) := by omega
  have h2 : ¬ (8 ≤ (i : Int)) := by omega
  have hP0 : ¬ (P : Int) = 0 := by omega
  have hq0 : (0 : Int) ≤ q := by omega
  go_enter Tryd.func23, Tryd.ntmps23
  go_wp2_with fail
  refine (pow_to i P w hi hP.out).mono ?_
  rintro e w' ⟨rfl, rfl⟩
  go_wp2_with fail
  go_ret
  exact ⟨ret_int (by rw [hp.out]; simp), rfl⟩
theorem rget_out (n : Nat) (i : Int) (w : World) (hi : i < 0 ∨ 7 < i) : Calls Tryd.prog 23 #[.int .u64 n, .int .i64 i] w fun e w' => e = .returned (.int .i64 (-1)) ∧ w = w' := by
  rcases hi with h1 | h1
  · go_enter Tryd.func23, Tryd.ntmps23
    go_wp2_with fail
    go_ret
    exact ⟨rfl, rfl⟩
  · have h2 : ¬ i < 0 := by omega
    have h3 : 8 ≤ i := by omega
    go_enter Tryd.func23, Tryd.ntmps23
    go_wp2_with fail
    go_ret
    exact ⟨rfl, rfl⟩
theorem rget_any (n : Nat) (i : Int) (w : World) (h : n < 18446744073709551616) : Calls Tryd.prog 23 #[.int .u64 n, .int .i64 i] w fun e w' => e = .returned (.int .i64 (getF n i)) ∧ w = w' := by
  by_cases hi : 0 ≤ i ∧ i ≤ 7
  · have e : getF n i = (byt n i.toNat : Nat) := by unfold getF; rw [if_pos hi]
    obtain ⟨i', rfl⟩ := Int.eq_ofNat_of_zero_le hi.1
    rw [e]
    exact rget_in n i' w h (by omega)
  · have e : getF n i = -1 := by unfold getF; rw [if_neg hi]
    rw [e]
    exact rget_out n i w (by omega)
theorem rput_in (n i c : Nat) (w : World) (h : n < 18446744073709551616) (hi : i < 8) (hc : c < 256) : Calls Tryd.prog 25 #[.int .u64 n, .int .i64 i, .int .i64 c] w fun e w' => e = .returned (.int .u64 (setN n i c : Nat)) ∧ w = w' := by
  obtain ⟨P, hP0⟩ : ∃ P, 256 ^ i = P := ⟨_, rfl⟩
  obtain ⟨b, hb0⟩ : ∃ b, byt n i = b := ⟨_, rfl⟩
  obtain ⟨s, hs0⟩ : ∃ s, setN n i c = s := ⟨_, rfl⟩
  have hp := put_eq h hc hi
  have hsl := setN_lt (n := n) hc hi
  have hbl := byt_lt n i
  rw [hP0, hb0, hs0] at hp
  rw [hs0] at hsl ⊢
  rw [hb0] at hbl
  obtain ⟨hp1, hp2⟩ := hp
  have hg := rget_in n i w h hi
  rw [hb0] at hg
  replace hg := Lib.hid hg
  have hP := Lib.hid hP0
  clear hP0 hb0 hs0
  have f1 : IntKind.u64.wrap ((b : Int) * (P : Int)) = ((b * P : Nat) : Int) := by rw [IntKind.wrap_u64]; push_cast; rw [← Int.natCast_mul]; omega
  have f2 : IntKind.u64.wrap ((c : Int) * (P : Int)) = ((c * P : Nat) : Int) := by rw [IntKind.wrap_u64]; push_cast; rw [← Int.natCast_mul]; omega
  have f3 : IntKind.u64.wrap ((n : Int) - ((b * P : Nat) : Int)) = ((n - b * P : Nat) : Int) := by rw [IntKind.wrap_u64]; omega
  have f4 : IntKind.u64.wrap (((n - b * P : Nat) : Int) + ((c * P : Nat) : Int)) = (s : Int) := by rw [IntKind.wrap_u64]; omega
  replace f1 := Lib.hid f1
  replace f2 := Lib.hid f2
  replace f3 := Lib.hid f3
  replace f4 := Lib.hid f4
  clear hp1 hp2
  have h1 : ¬ ((i : Int) < 0) := by omega
  have h2 : ¬ (8 ≤ (i : Int)) := by omega
  have h3 : ¬ ((c : Int) < 0) := by omega
  have h4 : ¬ (255 < (c : Int)) := by omega
  go_enter Tryd.func25, Tryd.ntmps25
  go_wp2_with fail
  refine hg.out.mono ?_
  rintro e w' ⟨rfl, rfl⟩
  go_wp2_with fail
  refine (pow_to i P w hi hP.out).mono ?_
  rintro e w' ⟨rfl, rfl⟩
  go_wp2_with fail
  refine (pow_to i P w hi hP.out).mono ?_
  rintro e w' ⟨rfl, rfl⟩
  go_wp2_with fail
  go_ret
  exact ⟨ret_int (by rw [f1.out, f2.out, f3.out, f4.out]), rfl⟩
theorem rput_out (n : Nat) (i c : Int) (w : World) (hi : i < 0 ∨ 7 < i ∨ c < 0 ∨ 255 < c) : Calls Tryd.prog 25 #[.int .u64 n, .int .i64 i, .int .i64 c] w fun e w' => e = .returned (.int .u64 n) ∧ w = w' := by
  by_cases h1 : i < 0
  · go_enter Tryd.func25, Tryd.ntmps25
    go_wp2_with fail
    go_ret
    exact ⟨rfl, rfl⟩
  by_cases h2 : 8 ≤ i
  · go_enter Tryd.func25, Tryd.ntmps25
    go_wp2_with fail
    go_ret
    exact ⟨rfl, rfl⟩
  by_cases h3 : c < 0
  · go_enter Tryd.func25, Tryd.ntmps25
    go_wp2_with fail
    go_ret
    exact ⟨rfl, rfl⟩
  have h4 : 255 < c := by omega
  go_enter Tryd.func25, Tryd.ntmps25
  go_wp2_with fail
  go_ret
  exact ⟨rfl, rfl⟩
theorem rput_any (n : Nat) (i c : Int) (w : World) (h : n < 18446744073709551616) : Calls Tryd.prog 25 #[.int .u64 n, .int .i64 i, .int .i64 c] w fun e w' => e = .returned (.int .u64 (setF n i c : Nat)) ∧ w = w' := by
  by_cases hi : 0 ≤ i ∧ i ≤ 7 ∧ 0 ≤ c ∧ c ≤ 255
  · have e : setF n i c = setN n i.toNat c.toNat := by unfold setF; rw [if_pos hi]
    obtain ⟨i', rfl⟩ := Int.eq_ofNat_of_zero_le hi.1
    obtain ⟨c', rfl⟩ := Int.eq_ofNat_of_zero_le hi.2.2.1
    rw [e]
    exact rput_in n i' c' w h (by omega) (by omega)
  · have e : setF n i c = n := by unfold setF; rw [if_neg hi]
    rw [e]
    exact rput_out n i c w (by omega)
namespace Pl
/-- k bytes turned by Clear -/
def clrT (n : Nat) : Nat → Nat
  | 0 => n
  | k + 1 => if byt (clrT n k) k = 254 then setN (clrT n k) k 128 else clrT n k
theorem clrT_lt {n : Nat} (h : n < 18446744073709551616) (k : Nat) (hk : k ≤ 8) : clrT n k < 18446744073709551616 := by
  induction k with
  | zero => exact h
  | succ k ih => unfold clrT; split; exact setN_lt (by decide) (by omega); exact ih (by omega)
theorem byt_clrT (n k : Nat) (hk : k ≤ 8) (j : Nat) (hj : j < 8) : byt (clrT n k) j = if j < k ∧ byt n j = 254 then 128 else byt n j := by
  induction k with
  | zero => simp [clrT]
  | succ k ih =>
    have ihk := ih (by omega)
    unfold clrT
    by_cases h1 : byt (clrT n k) k = 254
    · rw [if_pos h1, byt_setN (by decide) (by omega) hj]
      by_cases h2 : j = k
      · subst h2
        rw [if_pos rfl]
        rw [ihk, if_neg (by omega)] at h1
        rw [if_pos ⟨by omega, h1⟩]
      · rw [if_neg h2, ihk]
        by_cases h3 : j < k ∧ byt n j = 254
        · rw [if_pos h3, if_pos ⟨by omega, h3.2⟩]
        · rw [if_neg h3, if_neg (by omega)]
    · rw [if_neg h1, ihk]
      by_cases h2 : j = k
      · subst h2
        rw [ihk, if_neg (by omega)] at h1
        rw [if_neg (by omega), if_neg (by omega)]
      · by_cases h3 : j < k ∧ byt n j = 254
        · rw [if_pos h3, if_pos ⟨by omega, h3.2⟩]
        · rw [if_neg h3, if_neg (by omega)]
theorem clrT_8 {n : Nat} (h : n < 18446744073709551616) : clrT n 8 = clr n := by
  refine byt_ext (clrT_lt h 8 (by decide)) (clr_lt h) fun i hi => ?_
  rw [byt_clrT n 8 (by decide) i hi, byt_clr n hi]
  by_cases h1 : byt n i = 254
  · rw [if_pos ⟨hi, h1⟩, if_pos h1]
  · rw [if_neg (by omega), if_neg h1]
theorem em_le : ∀ k, k ≤ 8 → em k ≤ 9259542123273814144 := by decide
end Pl
theorem rclear_any (n : Nat) (w : World) (h : n < 18446744073709551616) : Calls Tryd.prog 26 #[.int .u64 n] w fun e w' => e = .returned (.int .u64 ((clr n : Nat) : Int)) ∧ w = w' := by
  have h8 := Lib.hid (clrT_8 h)
  go_enter Tryd.func26, Tryd.ntmps26
  go_wp2_with fail
  go_loop [0, 3] (fun x i => ∃ k : Nat, k ≤ 8 ∧ i = .int .i64 k ∧ x = .int .u64 (clrT n k : Nat)) (fun _ i => (8 - intOf i).toNat)
  case atStart => exact ⟨0, by decide, rfl, rfl⟩
  case round =>
    obtain ⟨k, hk, rfl, rfl⟩ := hrel
    have hx := clrT_lt h k hk
    have hst : Hid (clrT n (k + 1) = if byt (clrT n k) k = 254 then setN (clrT n k) k 128 else clrT n k) := rfl
    by_cases hlt : k < 8
    · obtain ⟨x, hxe⟩ : ∃ x, clrT n k = x := ⟨_, rfl⟩
      rw [hxe] at hx hst ⊢
      clear hxe
      have hg := rget_in x k w hx hlt
      obtain ⟨b, hb⟩ : ∃ b, byt x k = b := ⟨_, rfl⟩
      rw [hb] at hg hst
      replace hg := Lib.hid hg
      have hsf : Hid (setF x k 128 = setN x k 128) := by unfold Hid setF; rw [if_pos (by omega), Int.toNat_natCast]; rfl
      clear hb
      by_cases h1 : b = 254
      · subst h1
        have hp := rput_any x k 128 w hx
        rw [hsf.out] at hp
        replace hp := Lib.hid hp
        go_wp2_with fail
        refine hg.out.mono ?_
        rintro e w' ⟨rfl, rfl⟩
        go_wp2_with fail
        refine hp.out.mono ?_
        rintro e w' ⟨rfl, rfl⟩
        go_wp2_with fail
        go_round
        case rel => exact ⟨k + 1, by omega, by go_num, by rw [hst.out]; simp⟩
        case measure => simp [intOf]; omega
      · have h1' : ((b : Int) == 254) = false := by simp; omega
        go_wp2_with fail
        refine hg.out.mono ?_
        rintro e w' ⟨rfl, rfl⟩
        go_wp2_with fail
        go_round
        case rel => exact ⟨k + 1, by omega, by go_num, by rw [hst.out, if_neg h1]⟩
        case measure => simp [intOf]; omega
    · obtain rfl : k = 8 := by omega
      rw [h8.out]
      go_wp2_with fail
      go_ret
      exact ⟨rfl, rfl⟩
theorem rempty_any (w : World) : Calls Tryd.prog 24 #[] w fun e w' => e = .returned (.int .u64 ((9259542123273814144 : Nat) : Int)) ∧ w = w' := by
  go_enter Tryd.func24, Tryd.ntmps24
  go_wp2_with fail
  go_loop [1, 2] (fun x i => ∃ k : Nat, k ≤ 8 ∧ i = .int .i64 k ∧ x = .int .u64 (em k : Nat)) (fun _ i => (8 - intOf i).toNat)
  case atStart => exact ⟨0, by decide, rfl, rfl⟩
  case round =>
    obtain ⟨k, hk, rfl, rfl⟩ := hrel
    have hst : Hid (em (k + 1) = em k * 256 + 128) := rfl
    by_cases hlt : k < 8
    · have hl := em_le (k + 1) (by omega)
      rw [hst.out] at hl
      generalize em k = x at *
      go_wp2_with fail
      go_round
      case rel => exact ⟨k + 1, by omega, by go_num, by rw [hst.out]; go_num⟩
      case measure => simp [intOf]; omega
    · obtain rfl : k = 8 := by omega
      have e8 : em 8 = 9259542123273814144 := rfl
      rw [e8]
      go_wp2_with fail
      go_ret
      exact ⟨rfl, rfl⟩
end Go.Proofs.YtakmaedimelaaaaDoor
