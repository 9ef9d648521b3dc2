/- What is proved here: plain facts on words of eight bytes: and, or, xor, and-not byte by byte; the bytes that are zero; a byte that is set; the masks of eight slots. No condition but that each number is a word. -/
import Derived.Laws.Bits64
import Derived.Laws.BitsLemmas
import Derived.RowKit
set_option linter.unusedVariables false
set_option linter.unusedSimpArgs false
namespace Go.Proofs.YtakmaedimelaaaaDoor.Pl
open Go Go.RowKit

theorem wraps_u64 (n : Int) (h₀ : 0 ≤ n) (h₁ : n < 2 ^ 64) : IntKind.u64.wrap n = n := by rw [IntKind.wrap_u64]; omega
theorem and_u64 (a b : Nat) (ha : a < 18446744073709551616) (hb : b < 18446744073709551616) : bits .and .u64 (a : Int) (b : Int) = ((a &&& b : Nat) : Int) :=
  (bits_nat .u64 64 (by decide) wraps_u64 a b (by omega) (by omega)).1
theorem or_u64 (a b : Nat) (ha : a < 18446744073709551616) (hb : b < 18446744073709551616) : bits .or .u64 (a : Int) (b : Int) = ((a ||| b : Nat) : Int) :=
  (bits_nat .u64 64 (by decide) wraps_u64 a b (by omega) (by omega)).2
theorem xor_u64 (a b : Nat) (ha : a < 18446744073709551616) (hb : b < 18446744073709551616) : bits .xor .u64 (a : Int) (b : Int) = ((a ^^^ b : Nat) : Int) :=
  bits_xor_u64_nat a b ha hb
theorem not64 (b : Nat) (hb : b < 18446744073709551616) : 18446744073709551615 - b = 18446744073709551615 ^^^ b := by
  have h := @BitVec.toNat_not 64 (BitVec.ofNat 64 b)
  have h2 : (~~~ (BitVec.ofNat 64 b)) = BitVec.allOnes 64 ^^^ BitVec.ofNat 64 b := (BitVec.allOnes_xor).symm
  rw [h2, BitVec.toNat_xor, BitVec.toNat_ofNat, Nat.mod_eq_of_lt (by omega)] at h
  simp at h
  omega
theorem andNot_u64 (a b : Nat) (ha : a < 18446744073709551616) (hb : b < 18446744073709551616) : bits .andNot .u64 (a : Int) (b : Int) = ((a &&& (18446744073709551615 ^^^ b) : Nat) : Int) := by
  have h1 : (BitVec.ofInt 64 (a : Int)).toNat = a := by
    rw [BitVec.ofInt_natCast, BitVec.toNat_ofNat]; exact Nat.mod_eq_of_lt (by omega)
  have h2 : (BitVec.ofInt 64 (b : Int)).toNat = b := by
    rw [BitVec.ofInt_natCast, BitVec.toNat_ofNat]; exact Nat.mod_eq_of_lt (by omega)
  have hx : a &&& (18446744073709551615 ^^^ b) < 2 ^ 64 := Nat.and_lt_two_pow _ (Nat.xor_lt_two_pow (by decide) (by omega))
  show IntKind.u64.wrap ((BitVec.ofInt 64 (a : Int) &&& ~~~ BitVec.ofInt 64 (b : Int)).toNat : Int) = _
  rw [BitVec.toNat_and, BitVec.toNat_not, h1, h2, IntKind.wrap_u64]
  have : 2 ^ 64 - 1 - b = 18446744073709551615 ^^^ b := not64 b hb
  rw [this]
  omega

theorem and_cat {a b : Nat} (x y : Nat) (ha : a < 256) (hb : b < 256) : (a + 256 * x) &&& (b + 256 * y) = (a &&& b) + 256 * (x &&& y) := by
  have h1 := @Nat.and_mod_two_pow (a + 256 * x) (b + 256 * y) 8
  have h2 := @Nat.and_div_two_pow (a + 256 * x) (b + 256 * y) 8
  have e1 : (a + 256 * x) % 2 ^ 8 = a := by omega
  have e2 : (b + 256 * y) % 2 ^ 8 = b := by omega
  have e3 : (a + 256 * x) / 2 ^ 8 = x := by omega
  have e4 : (b + 256 * y) / 2 ^ 8 = y := by omega
  rw [e1, e2] at h1; rw [e3, e4] at h2
  omega
theorem or_cat {a b : Nat} (x y : Nat) (ha : a < 256) (hb : b < 256) : (a + 256 * x) ||| (b + 256 * y) = (a ||| b) + 256 * (x ||| y) := by
  have h1 := @Nat.or_mod_two_pow (a + 256 * x) (b + 256 * y) 8
  have h2 := @Nat.or_div_two_pow (a + 256 * x) (b + 256 * y) 8
  have e1 : (a + 256 * x) % 2 ^ 8 = a := by omega
  have e2 : (b + 256 * y) % 2 ^ 8 = b := by omega
  have e3 : (a + 256 * x) / 2 ^ 8 = x := by omega
  have e4 : (b + 256 * y) / 2 ^ 8 = y := by omega
  rw [e1, e2] at h1; rw [e3, e4] at h2
  omega
theorem xor_cat {a b : Nat} (x y : Nat) (ha : a < 256) (hb : b < 256) : (a + 256 * x) ^^^ (b + 256 * y) = (a ^^^ b) + 256 * (x ^^^ y) := by
  have h1 := @Nat.xor_mod_two_pow (a + 256 * x) (b + 256 * y) 8
  have h2 := @Nat.xor_div_two_pow (a + 256 * x) (b + 256 * y) 8
  have e1 : (a + 256 * x) % 2 ^ 8 = a := by omega
  have e2 : (b + 256 * y) % 2 ^ 8 = b := by omega
  have e3 : (a + 256 * x) / 2 ^ 8 = x := by omega
  have e4 : (b + 256 * y) / 2 ^ 8 = y := by omega
  rw [e1, e2] at h1; rw [e3, e4] at h2
  omega

/-- byte i of a word -/
def byt (n i : Nat) : Nat := n / 256 ^ i % 256
theorem byt_lt (n i : Nat) : byt n i < 256 := Nat.mod_lt _ (by decide)
/-- eight bytes as one word, the lowest first -/
def wd (b0 b1 b2 b3 b4 b5 b6 b7 : Nat) : Nat := b0 + 256 * (b1 + 256 * (b2 + 256 * (b3 + 256 * (b4 + 256 * (b5 + 256 * (b6 + 256 * b7))))))
theorem wd_byt (n : Nat) (h : n < 18446744073709551616) : n = wd (byt n 0) (byt n 1) (byt n 2) (byt n 3) (byt n 4) (byt n 5) (byt n 6) (byt n 7) := by
  simp only [wd, byt, Nat.reducePow]; omega
section
variable {a0 a1 a2 a3 a4 a5 a6 a7 b0 b1 b2 b3 b4 b5 b6 b7 : Nat}
theorem wd_lt (h0 : b0 < 256) (h1 : b1 < 256) (h2 : b2 < 256) (h3 : b3 < 256) (h4 : b4 < 256) (h5 : b5 < 256) (h6 : b6 < 256) (h7 : b7 < 256) :
    wd b0 b1 b2 b3 b4 b5 b6 b7 < 18446744073709551616 := by unfold wd; omega
theorem byt_wd (h0 : b0 < 256) (h1 : b1 < 256) (h2 : b2 < 256) (h3 : b3 < 256) (h4 : b4 < 256) (h5 : b5 < 256) (h6 : b6 < 256) (h7 : b7 < 256) :
    byt (wd b0 b1 b2 b3 b4 b5 b6 b7) 0 = b0 ∧ byt (wd b0 b1 b2 b3 b4 b5 b6 b7) 1 = b1 ∧ byt (wd b0 b1 b2 b3 b4 b5 b6 b7) 2 = b2 ∧ byt (wd b0 b1 b2 b3 b4 b5 b6 b7) 3 = b3
    ∧ byt (wd b0 b1 b2 b3 b4 b5 b6 b7) 4 = b4 ∧ byt (wd b0 b1 b2 b3 b4 b5 b6 b7) 5 = b5 ∧ byt (wd b0 b1 b2 b3 b4 b5 b6 b7) 6 = b6 ∧ byt (wd b0 b1 b2 b3 b4 b5 b6 b7) 7 = b7 := by
  simp only [wd, byt, Nat.reducePow]; omega
theorem and_wd (h0 : b0 < 256) (h1 : b1 < 256) (h2 : b2 < 256) (h3 : b3 < 256) (h4 : b4 < 256) (h5 : b5 < 256) (h6 : b6 < 256)
    (g0 : a0 < 256) (g1 : a1 < 256) (g2 : a2 < 256) (g3 : a3 < 256) (g4 : a4 < 256) (g5 : a5 < 256) (g6 : a6 < 256) :
    wd a0 a1 a2 a3 a4 a5 a6 a7 &&& wd b0 b1 b2 b3 b4 b5 b6 b7 = wd (a0 &&& b0) (a1 &&& b1) (a2 &&& b2) (a3 &&& b3) (a4 &&& b4) (a5 &&& b5) (a6 &&& b6) (a7 &&& b7) := by
  unfold wd
  rw [and_cat _ _ g0 h0, and_cat _ _ g1 h1, and_cat _ _ g2 h2, and_cat _ _ g3 h3, and_cat _ _ g4 h4, and_cat _ _ g5 h5, and_cat _ _ g6 h6]
theorem or_wd (h0 : b0 < 256) (h1 : b1 < 256) (h2 : b2 < 256) (h3 : b3 < 256) (h4 : b4 < 256) (h5 : b5 < 256) (h6 : b6 < 256)
    (g0 : a0 < 256) (g1 : a1 < 256) (g2 : a2 < 256) (g3 : a3 < 256) (g4 : a4 < 256) (g5 : a5 < 256) (g6 : a6 < 256) :
    wd a0 a1 a2 a3 a4 a5 a6 a7 ||| wd b0 b1 b2 b3 b4 b5 b6 b7 = wd (a0 ||| b0) (a1 ||| b1) (a2 ||| b2) (a3 ||| b3) (a4 ||| b4) (a5 ||| b5) (a6 ||| b6) (a7 ||| b7) := by
  unfold wd
  rw [or_cat _ _ g0 h0, or_cat _ _ g1 h1, or_cat _ _ g2 h2, or_cat _ _ g3 h3, or_cat _ _ g4 h4, or_cat _ _ g5 h5, or_cat _ _ g6 h6]
theorem xor_wd (h0 : b0 < 256) (h1 : b1 < 256) (h2 : b2 < 256) (h3 : b3 < 256) (h4 : b4 < 256) (h5 : b5 < 256) (h6 : b6 < 256)
    (g0 : a0 < 256) (g1 : a1 < 256) (g2 : a2 < 256) (g3 : a3 < 256) (g4 : a4 < 256) (g5 : a5 < 256) (g6 : a6 < 256) :
    wd a0 a1 a2 a3 a4 a5 a6 a7 ^^^ wd b0 b1 b2 b3 b4 b5 b6 b7 = wd (a0 ^^^ b0) (a1 ^^^ b1) (a2 ^^^ b2) (a3 ^^^ b3) (a4 ^^^ b4) (a5 ^^^ b5) (a6 ^^^ b6) (a7 ^^^ b7) := by
  unfold wd
  rw [xor_cat _ _ g0 h0, xor_cat _ _ g1 h1, xor_cat _ _ g2 h2, xor_cat _ _ g3 h3, xor_cat _ _ g4 h4, xor_cat _ _ g5 h5, xor_cat _ _ g6 h6]
end
/-- the bytes of a word of and, or, xor: each byte for itself -/
theorem byt_and (a b i : Nat) : byt (a &&& b) i = byt a i &&& byt b i := by
  unfold byt
  have e : (256 : Nat) ^ i = 2 ^ (8 * i) := by rw [show (256 : Nat) = 2 ^ 8 by rfl, ← Nat.pow_mul]
  rw [e, Nat.and_div_two_pow, show (256 : Nat) = 2 ^ 8 by rfl, Nat.and_mod_two_pow]
theorem byt_or (a b i : Nat) : byt (a ||| b) i = byt a i ||| byt b i := by
  unfold byt
  have e : (256 : Nat) ^ i = 2 ^ (8 * i) := by rw [show (256 : Nat) = 2 ^ 8 by rfl, ← Nat.pow_mul]
  rw [e, Nat.or_div_two_pow, show (256 : Nat) = 2 ^ 8 by rfl, Nat.or_mod_two_pow]
theorem byt_xor (a b i : Nat) : byt (a ^^^ b) i = byt a i ^^^ byt b i := by
  unfold byt
  have e : (256 : Nat) ^ i = 2 ^ (8 * i) := by rw [show (256 : Nat) = 2 ^ 8 by rfl, ← Nat.pow_mul]
  rw [e, Nat.xor_div_two_pow, show (256 : Nat) = 2 ^ 8 by rfl, Nat.xor_mod_two_pow]
/-- words with the same bytes are the same -/
theorem byt_ext {a b : Nat} (ha : a < 18446744073709551616) (hb : b < 18446744073709551616) (h : ∀ i, i < 8 → byt a i = byt b i) : a = b := by
  rw [wd_byt a ha, wd_byt b hb, h 0 (by decide), h 1 (by decide), h 2 (by decide), h 3 (by decide), h 4 (by decide), h 5 (by decide), h 6 (by decide), h 7 (by decide)]

/-- 128 or 0 -/
def hi (b : Bool) : Nat := if b then 128 else 0
theorem hi_lt (b : Bool) : hi b < 256 := by cases b <;> decide
/-- the mask of a set of eight slots: the highest bit of each byte whose slot is in it -/
def mask (p : Nat → Bool) : Nat := wd (hi (p 0)) (hi (p 1)) (hi (p 2)) (hi (p 3)) (hi (p 4)) (hi (p 5)) (hi (p 6)) (hi (p 7))
theorem mask_lt (p : Nat → Bool) : mask p < 18446744073709551616 :=
  wd_lt (hi_lt _) (hi_lt _) (hi_lt _) (hi_lt _) (hi_lt _) (hi_lt _) (hi_lt _) (hi_lt _)
theorem byt_mask (p : Nat → Bool) {i : Nat} (h : i < 8) : byt (mask p) i = hi (p i) := by
  have H := byt_wd (hi_lt (p 0)) (hi_lt (p 1)) (hi_lt (p 2)) (hi_lt (p 3)) (hi_lt (p 4)) (hi_lt (p 5)) (hi_lt (p 6)) (hi_lt (p 7))
  unfold mask
  rcases (by omega : i = 0 ∨ i = 1 ∨ i = 2 ∨ i = 3 ∨ i = 4 ∨ i = 5 ∨ i = 6 ∨ i = 7) with rfl | rfl | rfl | rfl | rfl | rfl | rfl | rfl
  · exact H.1
  · exact H.2.1
  · exact H.2.2.1
  · exact H.2.2.2.1
  · exact H.2.2.2.2.1
  · exact H.2.2.2.2.2.1
  · exact H.2.2.2.2.2.2.1
  · exact H.2.2.2.2.2.2.2
theorem mask_congr {p q : Nat → Bool} (h : ∀ i, i < 8 → p i = q i) : mask p = mask q := by
  unfold mask
  rw [h 0 (by decide), h 1 (by decide), h 2 (by decide), h 3 (by decide), h 4 (by decide), h 5 (by decide), h 6 (by decide), h 7 (by decide)]
theorem mask_or (p q : Nat → Bool) : mask p ||| mask q = mask fun i => p i || q i := by
  apply byt_ext (Nat.or_lt_two_pow (n := 64) (mask_lt _) (mask_lt _)) (mask_lt _)
  intro i h
  rw [byt_or, byt_mask _ h, byt_mask _ h, byt_mask _ h]
  cases p i <;> cases q i <;> decide

/-- one byte of the word of zeros -/
def zb (b : Nat) : Nat := (((b &&& 127) + 127 ||| b) ^^^ 255) &&& 128
set_option maxRecDepth 100000 in
theorem zb_eq : ∀ b, b < 256 → zb b = hi (b == 0) := by decide
set_option maxRecDepth 100000 in
theorem z1 : ∀ b, b < 256 → (b &&& 127) + 127 < 256 := by decide
theorem o1 {a b : Nat} (h : a < 256) (g : b < 256) : a ||| b < 256 := Nat.or_lt_two_pow (n := 8) h g
theorem x1 {a b : Nat} (h : a < 256) (g : b < 256) : a ^^^ b < 256 := Nat.xor_lt_two_pow (n := 8) h g
theorem a1 {a b : Nat} (g : b < 256) : a &&& b < 256 := Nat.and_lt_two_pow (n := 8) _ g
theorem add_wd {a0 a1 a2 a3 a4 a5 a6 a7 b0 b1 b2 b3 b4 b5 b6 b7 : Nat} : wd a0 a1 a2 a3 a4 a5 a6 a7 + wd b0 b1 b2 b3 b4 b5 b6 b7 = wd (a0 + b0) (a1 + b1) (a2 + b2) (a3 + b3) (a4 + b4) (a5 + b5) (a6 + b6) (a7 + b7) := by
  unfold wd; omega
theorem zeros_nat (n : Nat) (h : n < 18446744073709551616) :
    (n &&& 9187201950435737471) + 9187201950435737471 < 18446744073709551616 ∧
    ((18446744073709551615 ^^^ ((n &&& 9187201950435737471) + 9187201950435737471 ||| n)) &&& 9259542123273814144) = mask fun i => byt n i == 0 := by
  have e := wd_byt n h
  have l := byt_lt n
  generalize hb0 : byt n 0 = b0 at *
  generalize hb1 : byt n 1 = b1 at *
  generalize hb2 : byt n 2 = b2 at *
  generalize hb3 : byt n 3 = b3 at *
  generalize hb4 : byt n 4 = b4 at *
  generalize hb5 : byt n 5 = b5 at *
  generalize hb6 : byt n 6 = b6 at *
  generalize hb7 : byt n 7 = b7 at *
  have l0 := l 0; have l1 := l 1; have l2 := l 2; have l3 := l 3; have l4 := l 4; have l5 := l 5; have l6 := l 6; have l7 := l 7
  rw [hb0] at l0; rw [hb1] at l1; rw [hb2] at l2; rw [hb3] at l3; rw [hb4] at l4; rw [hb5] at l5; rw [hb6] at l6; rw [hb7] at l7
  have eS : 9187201950435737471 = wd 127 127 127 127 127 127 127 127 := by decide
  have eM : 18446744073709551615 = wd 255 255 255 255 255 255 255 255 := by decide
  have eH : 9259542123273814144 = wd 128 128 128 128 128 128 128 128 := by decide
  have d127 : (127 : Nat) < 256 := by decide
  have d255 : (255 : Nat) < 256 := by decide
  have d128 : (128 : Nat) < 256 := by decide
  have hs : (n &&& 9187201950435737471) + 9187201950435737471 = wd ((b0 &&& 127) + 127) ((b1 &&& 127) + 127) ((b2 &&& 127) + 127) ((b3 &&& 127) + 127) ((b4 &&& 127) + 127) ((b5 &&& 127) + 127) ((b6 &&& 127) + 127) ((b7 &&& 127) + 127) := by
    rw [e, eS, and_wd d127 d127 d127 d127 d127 d127 d127 l0 l1 l2 l3 l4 l5 l6, add_wd]
  rw [hs]
  refine ⟨wd_lt (z1 _ l0) (z1 _ l1) (z1 _ l2) (z1 _ l3) (z1 _ l4) (z1 _ l5) (z1 _ l6) (z1 _ l7), ?_⟩
  rw [eM, eH]
  have ez : mask (fun i => byt n i == 0) = wd (zb b0) (zb b1) (zb b2) (zb b3) (zb b4) (zb b5) (zb b6) (zb b7) := by
    rw [zb_eq _ l0, zb_eq _ l1, zb_eq _ l2, zb_eq _ l3, zb_eq _ l4, zb_eq _ l5, zb_eq _ l6, zb_eq _ l7]
    show wd (hi (byt n 0 == 0)) (hi (byt n 1 == 0)) (hi (byt n 2 == 0)) (hi (byt n 3 == 0)) (hi (byt n 4 == 0)) (hi (byt n 5 == 0)) (hi (byt n 6 == 0)) (hi (byt n 7 == 0)) = _
    rw [hb0, hb1, hb2, hb3, hb4, hb5, hb6, hb7]
  rw [ez, e, or_wd l0 l1 l2 l3 l4 l5 l6 (z1 _ l0) (z1 _ l1) (z1 _ l2) (z1 _ l3) (z1 _ l4) (z1 _ l5) (z1 _ l6),
    xor_wd (o1 (z1 _ l0) l0) (o1 (z1 _ l1) l1) (o1 (z1 _ l2) l2) (o1 (z1 _ l3) l3) (o1 (z1 _ l4) l4) (o1 (z1 _ l5) l5) (o1 (z1 _ l6) l6) d255 d255 d255 d255 d255 d255 d255,
    and_wd d128 d128 d128 d128 d128 d128 d128 (x1 d255 (o1 (z1 _ l0) l0)) (x1 d255 (o1 (z1 _ l1) l1)) (x1 d255 (o1 (z1 _ l2) l2)) (x1 d255 (o1 (z1 _ l3) l3)) (x1 d255 (o1 (z1 _ l4) l4)) (x1 d255 (o1 (z1 _ l5) l5)) (x1 d255 (o1 (z1 _ l6) l6))]
  unfold zb
  simp only [Nat.xor_comm 255]
/-- the expression of zeros, as the walk writes it -/
theorem zeros_eq (n : Nat) (h : n < 18446744073709551616) :
    bits .and .u64 (bits .xor .u64 IntKind.u64.max (bits .or .u64 (IntKind.u64.wrap (bits .and .u64 (n : Int) 9187201950435737471 + 9187201950435737471)) (n : Int))) 9259542123273814144
      = ((mask fun i => byt n i == 0 : Nat) : Int) := by
  obtain ⟨h1, h2⟩ := zeros_nat n h
  have e1 := and_u64 n 9187201950435737471 h (by decide)
  have e2 : IntKind.u64.wrap (((n &&& 9187201950435737471 : Nat) : Int) + 9187201950435737471) = (((n &&& 9187201950435737471) + 9187201950435737471 : Nat) : Int) := by
    rw [IntKind.wrap_u64]; omega
  have h3 : (n &&& 9187201950435737471) + 9187201950435737471 ||| n < 18446744073709551616 := Nat.or_lt_two_pow (n := 64) h1 h
  have e3 := or_u64 ((n &&& 9187201950435737471) + 9187201950435737471) n h1 h
  have e4 := xor_u64 18446744073709551615 ((n &&& 9187201950435737471) + 9187201950435737471 ||| n) (by decide) h3
  have e5 := and_u64 (18446744073709551615 ^^^ ((n &&& 9187201950435737471) + 9187201950435737471 ||| n)) 9259542123273814144 (Nat.xor_lt_two_pow (n := 64) (by decide) h3) (by decide)
  have em : IntKind.u64.max = ((18446744073709551615 : Nat) : Int) := by decide
  rw [show (9187201950435737471 : Int) = ((9187201950435737471 : Nat) : Int) from rfl, e1]
  rw [show (9187201950435737471 : Int) = ((9187201950435737471 : Nat) : Int) from rfl] at e2
  rw [e2, e3, em, e4, show (9259542123273814144 : Int) = ((9259542123273814144 : Nat) : Int) from rfl, e5, h2]
end Go.Proofs.YtakmaedimelaaaaDoor.Pl
namespace Go.Proofs.YtakmaedimelaaaaDoor.Pl
open Go Go.RowKit
def on1 (n : Int) : Int := IntKind.u64.wrap (bits BinOp.and IntKind.u64 (n / 2) 6148914691236517205 + bits BinOp.and IntKind.u64 n 6148914691236517205)
def on2 (s : Int) : Int := IntKind.u64.wrap (bits BinOp.and IntKind.u64 (s / 4) 3689348814741910323 + bits BinOp.and IntKind.u64 s 3689348814741910323)
def on3 (s : Int) : Int := bits BinOp.and IntKind.u64 (IntKind.u64.wrap (s / 16 + s)) 1085102592571150095
def on4 (s : Int) : Int := IntKind.u64.wrap (s + s / 256)
def on5 (s : Int) : Int := IntKind.u64.wrap (s + s / 65536)
def on6 (s : Int) : Int := IntKind.u64.wrap (s + s / 4294967296)
/-- how many slots a set has -/
def cnt (p : Nat → Bool) : Nat := (p 0).toNat + (p 1).toNat + (p 2).toNat + (p 3).toNat + (p 4).toNat + (p 5).toNat + (p 6).toNat + (p 7).toNat
theorem cnt_le (p : Nat → Bool) : cnt p ≤ 8 := by
  unfold cnt
  have h : ∀ b : Bool, b.toNat ≤ 1 := by decide
  have := h (p 0); have := h (p 1); have := h (p 2); have := h (p 3); have := h (p 4); have := h (p 5); have := h (p 6); have := h (p 7)
  omega
end Go.Proofs.YtakmaedimelaaaaDoor.Pl
namespace Go.Proofs.YtakmaedimelaaaaDoor.Pl
open Go Go.RowKit
theorem xor_zero_iff {x y : Nat} (hx : x < 256) (hy : y < 256) : (x ^^^ y == 0) = (x == y) := by
  by_cases h : x = y
  · subst h; simp
  · have : x ^^^ y ≠ 0 := fun e => h (by have := congrArg (· ^^^ y) e; simpa [Nat.xor_assoc] using this)
    rw [beq_eq_false_iff_ne.2 this, beq_eq_false_iff_ne.2 h]
theorem mask_xor (n m : Nat) : mask (fun i => byt (n ^^^ m) i == 0) = mask fun i => byt n i == byt m i :=
  mask_congr fun i _ => by rw [byt_xor]; exact xor_zero_iff (byt_lt _ _) (byt_lt _ _)
/-- the word of one byte eight times -/
theorem lows_wd (t : Nat) : 72340172838076673 * t = wd t t t t t t t t := by unfold wd; omega
theorem byt_lows {t : Nat} (h : t < 256) {i : Nat} (hi : i < 8) : byt (72340172838076673 * t) i = t := by
  rw [lows_wd]
  have H := byt_wd h h h h h h h h
  rcases (by omega : i = 0 ∨ i = 1 ∨ i = 2 ∨ i = 3 ∨ i = 4 ∨ i = 5 ∨ i = 6 ∨ i = 7) with rfl | rfl | rfl | rfl | rfl | rfl | rfl | rfl <;> simp [H]
/-- the slots whose byte is t -/
def mat (n t : Nat) : Nat → Bool := fun i => byt n i == t
theorem mask_mat (n : Nat) {t : Nat} (h : t < 256) : mask (fun i => byt (n ^^^ 72340172838076673 * t) i == 0) = mask (mat n t) := by
  rw [mask_xor]; exact mask_congr fun i hi => by rw [byt_lows h hi]; rfl
theorem match_eq (n : Nat) (h : n < 18446744073709551616) {t : Nat} (ht : t < 256) :
    bits .xor .u64 (n : Int) (72340172838076673 * (t : Int)) = ((n ^^^ 72340172838076673 * t : Nat) : Int) ∧ n ^^^ 72340172838076673 * t < 18446744073709551616 := by
  have hb : 72340172838076673 * t < 18446744073709551616 := by omega
  have e : (72340172838076673 * (t : Int)) = ((72340172838076673 * t : Nat) : Int) := by omega
  exact ⟨by rw [e, xor_u64 _ _ h hb], Nat.xor_lt_two_pow (n := 64) h hb⟩
theorem byt_top {n : Nat} (h : n < 18446744073709551616) {i : Nat} (hi : 8 ≤ i) : byt n i = 0 := by
  unfold byt
  have : 256 ^ 8 ≤ 256 ^ i := Nat.pow_le_pow_right (by decide) hi
  rw [Nat.div_eq_of_lt (by omega)]
theorem byt_cast (n i : Nat) : ((n : Int) / 2 ^ (8 * i)) = ((n / 256 ^ i : Nat) : Int) := by
  rw [show (256 : Nat) = 2 ^ 8 from rfl, ← Nat.pow_mul]; simp
theorem get_eq (n : Nat) (h : n < 18446744073709551616) (i : Nat) : wrap64 (bits BinOp.and IntKind.u64 ((n : Int) / 2 ^ (8 * i)) 255) = ((byt n i : Nat) : Int) := by
  have hd : n / 256 ^ i < 18446744073709551616 := Nat.lt_of_le_of_lt (Nat.div_le_self _ _) h
  rw [byt_cast, show (255 : Int) = ((255 : Nat) : Int) from rfl, and_u64 _ _ hd (by decide)]
  have : n / 256 ^ i &&& 255 = byt n i := Nat.and_two_pow_sub_one_eq_mod (n / 256 ^ i) 8
  rw [this]
  have := byt_lt n i
  unfold wrap64; omega
set_option maxRecDepth 100000 in
theorem and128 : ∀ b, b < 256 → (b &&& 128 != 0) = decide (128 ≤ b) := by decide
theorem has_eq (n : Nat) (h : n < 18446744073709551616) (i : Nat) : (bits BinOp.and IntKind.u64 ((n : Int) / 2 ^ (8 * i)) 128 != 0) = decide (128 ≤ byt n i) := by
  have hd : n / 256 ^ i < 18446744073709551616 := Nat.lt_of_le_of_lt (Nat.div_le_self _ _) h
  rw [byt_cast, show (128 : Int) = ((128 : Nat) : Int) from rfl, and_u64 _ _ hd (by decide)]
  have e : n / 256 ^ i &&& 128 = byt n i &&& 128 := by
    have h1 := byt_and (n / 256 ^ i) 128 0
    have h2 : n / 256 ^ i &&& 128 < 256 := a1 (by decide)
    simp only [byt, Nat.pow_zero, Nat.div_one] at h1
    rw [Nat.mod_eq_of_lt h2] at h1
    simpa [byt] using h1
  rw [e, ← and128 _ (byt_lt n i)]
  generalize byt n i &&& 128 = x
  cases x <;> simp <;> omega
/-- slot i is in the set that the word is -/
def has (n i : Nat) : Bool := decide (128 ≤ byt n i)
theorem has_mask (p : Nat → Bool) {i : Nat} (h : i < 8) : has (mask p) i = p i := by
  unfold has; rw [byt_mask p h]; cases p i <;> decide
set_option maxRecDepth 100000 in
theorem full_b : ∀ b, b < 256 → (255 ^^^ b) &&& 128 = hi (decide (b < 128)) := by decide
theorem byt255 {i : Nat} (hi : i < 8) : byt 18446744073709551615 i = 255 := by
  rcases (by omega : i = 0 ∨ i = 1 ∨ i = 2 ∨ i = 3 ∨ i = 4 ∨ i = 5 ∨ i = 6 ∨ i = 7) with rfl | rfl | rfl | rfl | rfl | rfl | rfl | rfl <;> decide
theorem byt128 {i : Nat} (hi : i < 8) : byt 9259542123273814144 i = 128 := by
  rcases (by omega : i = 0 ∨ i = 1 ∨ i = 2 ∨ i = 3 ∨ i = 4 ∨ i = 5 ∨ i = 6 ∨ i = 7) with rfl | rfl | rfl | rfl | rfl | rfl | rfl | rfl <;> decide
/-- the full slots -/
def ful (n : Nat) : Nat → Bool := fun i => decide (byt n i < 128)
theorem full_eq (n : Nat) (h : n < 18446744073709551616) :
    bits BinOp.and IntKind.u64 (bits BinOp.xor IntKind.u64 IntKind.u64.max (n : Int)) 9259542123273814144 = ((mask (ful n) : Nat) : Int) := by
  have em : IntKind.u64.max = ((18446744073709551615 : Nat) : Int) := by decide
  have hx : 18446744073709551615 ^^^ n < 18446744073709551616 := Nat.xor_lt_two_pow (n := 64) (by decide) h
  rw [em, xor_u64 _ _ (by decide) h, show (9259542123273814144 : Int) = ((9259542123273814144 : Nat) : Int) from rfl, and_u64 _ _ hx (by decide)]
  congr 1
  apply byt_ext (Nat.and_lt_two_pow (n := 64) _ (by decide)) (mask_lt _)
  intro i hi
  rw [byt_and, byt_xor, byt255 hi, byt128 hi, byt_mask _ hi, full_b _ (byt_lt n i)]; rfl
/-- the word with byte i turned to c -/
def setN (n i c : Nat) : Nat := (n &&& (18446744073709551615 ^^^ 255 * 256 ^ i)) ||| c * 256 ^ i
theorem p256_le {i : Nat} (hi : i < 8) : 256 ^ i ≤ 72057594037927936 := Nat.pow_le_pow_right (n := 256) (i := i) (j := 7) (by decide) (by omega)
theorem setN_lt {n i c : Nat} (hc : c < 256) (hi : i < 8) : setN n i c < 18446744073709551616 := by
  have := p256_le hi
  have h1 : 255 * 256 ^ i < 2 ^ 64 := by omega
  have h2 : c * 256 ^ i ≤ 255 * 256 ^ i := Nat.mul_le_mul_right _ (by omega)
  exact Nat.or_lt_two_pow (n := 64) (Nat.and_lt_two_pow _ (Nat.xor_lt_two_pow (by decide) h1)) (by omega)
theorem byt_at {i j c : Nat} (hc : c < 256) (hi : i < 8) (hj : j < 8) : byt (c * 256 ^ i) j = if j = i then c else 0 := by
  rcases (by omega : i = 0 ∨ i = 1 ∨ i = 2 ∨ i = 3 ∨ i = 4 ∨ i = 5 ∨ i = 6 ∨ i = 7) with rfl | rfl | rfl | rfl | rfl | rfl | rfl | rfl <;>
  rcases (by omega : j = 0 ∨ j = 1 ∨ j = 2 ∨ j = 3 ∨ j = 4 ∨ j = 5 ∨ j = 6 ∨ j = 7) with rfl | rfl | rfl | rfl | rfl | rfl | rfl | rfl <;>
  simp only [byt, Nat.reducePow, Nat.reduceEqDiff, if_true, if_false] <;> omega
theorem and255 {b : Nat} (h : b < 256) : b &&& 255 = b :=
  (Nat.and_two_pow_sub_one_eq_mod b 8).trans (Nat.mod_eq_of_lt h)
theorem byt_setN {n i c j : Nat} (hc : c < 256) (hi : i < 8) (hj : j < 8) : byt (setN n i c) j = if j = i then c else byt n j := by
  unfold setN
  rw [byt_or, byt_and, byt_xor, byt255 hj, byt_at (by decide) hi hj, byt_at hc hi hj]
  by_cases h : j = i
  · simp [h]
  · rw [if_neg h, if_neg h, if_neg h]
    simp [and255 (byt_lt n j)]
theorem set_eq {n i c : Nat} (h : n < 18446744073709551616) (hc : c < 256) (hi : i < 8) :
    bits BinOp.or IntKind.u64 (bits BinOp.andNot IntKind.u64 (n : Int) (IntKind.u64.wrap (255 * 2 ^ (8 * i)))) (IntKind.u64.wrap ((c : Int) * 2 ^ (8 * i))) = ((setN n i c : Nat) : Int) := by
  have hp := p256_le hi
  have h1 : 255 * 256 ^ i < 18446744073709551616 := by omega
  have h2 : c * 256 ^ i ≤ 255 * 256 ^ i := Nat.mul_le_mul_right _ (by omega)
  have e0 : (2 : Int) ^ (8 * i) = ((256 ^ i : Nat) : Int) := by rw [show (256 : Nat) = 2 ^ 8 from rfl, ← Nat.pow_mul]; simp
  have e1 : IntKind.u64.wrap (255 * 2 ^ (8 * i)) = ((255 * 256 ^ i : Nat) : Int) := by rw [e0, IntKind.wrap_u64]; omega
  have e2 : IntKind.u64.wrap ((c : Int) * 2 ^ (8 * i)) = ((c * 256 ^ i : Nat) : Int) := by
    have : (c : Int) * ((256 ^ i : Nat) : Int) = ((c * 256 ^ i : Nat) : Int) := by simp
    rw [e0, this, IntKind.wrap_u64]; omega
  have h3 : n &&& (18446744073709551615 ^^^ 255 * 256 ^ i) < 18446744073709551616 := Nat.and_lt_two_pow (n := 64) _ (Nat.xor_lt_two_pow (by decide) h1)
  rw [e1, e2, andNot_u64 _ _ h h1, or_u64 _ _ h3 (by omega)]
  rfl
/-- the word with each deleted slot made empty -/
def clr (n : Nat) : Nat := n ^^^ mask (mat n 254) / 128 * 126
theorem div_mask (p : Nat → Bool) : mask p / 128 = wd (p 0).toNat (p 1).toNat (p 2).toNat (p 3).toNat (p 4).toNat (p 5).toNat (p 6).toNat (p 7).toNat := by
  have h : ∀ b : Bool, hi b = 128 * b.toNat := by decide
  unfold mask wd
  simp only [h]
  omega
theorem byt_gone (p : Nat → Bool) {i : Nat} (hi : i < 8) : byt (mask p / 128 * 126) i = (p i).toNat * 126 := by
  have h : ∀ b : Bool, b.toNat * 126 < 256 := by decide
  have e : mask p / 128 * 126 = wd ((p 0).toNat * 126) ((p 1).toNat * 126) ((p 2).toNat * 126) ((p 3).toNat * 126) ((p 4).toNat * 126) ((p 5).toNat * 126) ((p 6).toNat * 126) ((p 7).toNat * 126) := by
    rw [div_mask]; unfold wd; omega
  rw [e]
  have H := byt_wd (h (p 0)) (h (p 1)) (h (p 2)) (h (p 3)) (h (p 4)) (h (p 5)) (h (p 6)) (h (p 7))
  rcases (by omega : i = 0 ∨ i = 1 ∨ i = 2 ∨ i = 3 ∨ i = 4 ∨ i = 5 ∨ i = 6 ∨ i = 7) with rfl | rfl | rfl | rfl | rfl | rfl | rfl | rfl
  · exact H.1
  · exact H.2.1
  · exact H.2.2.1
  · exact H.2.2.2.1
  · exact H.2.2.2.2.1
  · exact H.2.2.2.2.2.1
  · exact H.2.2.2.2.2.2.1
  · exact H.2.2.2.2.2.2.2
theorem gone_lt (p : Nat → Bool) : mask p / 128 * 126 < 18446744073709551616 := by have := mask_lt p; omega
theorem clr_lt {n : Nat} (h : n < 18446744073709551616) : clr n < 18446744073709551616 := Nat.xor_lt_two_pow (n := 64) h (gone_lt _)
theorem byt_clr (n : Nat) {i : Nat} (hi : i < 8) : byt (clr n) i = if byt n i = 254 then 128 else byt n i := by
  unfold clr
  rw [byt_xor, byt_gone _ hi]
  by_cases h : byt n i = 254
  · simp [mat, h]
  · have : (byt n i == 254) = false := beq_eq_false_iff_ne.2 h
    simp [mat, h, this]
theorem clr_eq {n : Nat} (h : n < 18446744073709551616) : bits BinOp.xor IntKind.u64 (n : Int) (IntKind.u64.wrap (((mask (mat n 254) : Nat) : Int) / 128 * 126)) = ((clr n : Nat) : Int) := by
  have hg := gone_lt (mat n 254)
  have e : IntKind.u64.wrap (((mask (mat n 254) : Nat) : Int) / 128 * 126) = ((mask (mat n 254) / 128 * 126 : Nat) : Int) := by rw [IntKind.wrap_u64]; omega
  rw [e, xor_u64 _ _ h hg]; rfl
theorem clr_clr {n : Nat} (h : n < 18446744073709551616) : clr (clr n) = clr n := by
  apply byt_ext (clr_lt (clr_lt h)) (clr_lt h)
  intro i hi
  rw [byt_clr _ hi, byt_clr _ hi]
  by_cases h : byt n i = 254
  · simp [h]
  · simp [h]
/-- the vacant slots -/
def vac (n : Nat) : Nat → Bool := fun i => mat n 128 i || mat n 254 i
theorem vac_eq (n : Nat) : bits BinOp.or IntKind.u64 ((mask (mat n 128) : Nat) : Int) ((mask (mat n 254) : Nat) : Int) = ((mask (vac n) : Nat) : Int) := by
  rw [or_u64 _ _ (mask_lt _) (mask_lt _), mask_or]; rfl
end Go.Proofs.YtakmaedimelaaaaDoor.Pl
namespace Go.Proofs.YtakmaedimelaaaaDoor.Pl
open Go
/-- behind Clear -/
theorem mat_clr (n : Nat) {i : Nat} (hi : i < 8) : mat (clr n) 128 i = vac n i ∧ vac (clr n) i = vac n i ∧ ful (clr n) i = ful n i := by
  unfold vac ful mat
  rw [byt_clr n hi]
  by_cases h : byt n i = 254
  · simp [h]
  · have : (byt n i == 254) = false := beq_eq_false_iff_ne.2 h
    simp [h]
end Go.Proofs.YtakmaedimelaaaaDoor.Pl
namespace Go.Proofs.YtakmaedimelaaaaDoor.Pl
open Go
/-- Set, of any numbers -/
def setF (n : Nat) (i c : Int) : Nat := if 0 ≤ i ∧ i ≤ 7 ∧ 0 ≤ c ∧ c ≤ 255 then setN n i.toNat c.toNat else n
/-- Get, of any number -/
def getF (n : Nat) (i : Int) : Int := if 0 ≤ i ∧ i ≤ 7 then (byt n i.toNat : Nat) else -1
theorem setF_lt {n : Nat} (h : n < 18446744073709551616) (i c : Int) : setF n i c < 18446744073709551616 := by
  unfold setF
  by_cases hi : 0 ≤ i ∧ i ≤ 7 ∧ 0 ≤ c ∧ c ≤ 255
  · rw [if_pos hi]; exact setN_lt (by omega) (by omega)
  · rw [if_neg hi]; exact h
theorem byt_setF (n : Nat) (i c : Int) {k : Nat} (hk : k < 8) : ((byt (setF n i c) k : Nat) : Int) = if (0 ≤ i ∧ i ≤ 7 ∧ 0 ≤ c ∧ c ≤ 255) ∧ (k : Int) = i then c else (byt n k : Nat) := by
  unfold setF
  by_cases hi : 0 ≤ i ∧ i ≤ 7 ∧ 0 ≤ c ∧ c ≤ 255
  · rw [if_pos hi, byt_setN (by omega) (by omega) hk]
    by_cases he : (k : Int) = i
    · rw [if_pos (show k = i.toNat by omega), if_pos ⟨hi, he⟩]; omega
    · rw [if_neg (show ¬ k = i.toNat by omega), if_neg (fun h => he h.2)]
  · rw [if_neg hi, if_neg (fun h => hi h.1)]
theorem setF_back (n : Nat) (h : n < 18446744073709551616) (i c : Int) : setF (setF n i c) i (getF n i) = n := by
  apply byt_ext (setF_lt (setF_lt h _ _) _ _) h
  intro k hk
  have h1 := byt_setF (setF n i c) i (getF n i) hk
  have h2 := byt_setF n i c hk
  have := byt_lt n k
  by_cases he : (k : Int) = i
  · have hg : getF n i = (byt n k : Nat) := by unfold getF; rw [if_pos (by omega)]; congr 2; omega
    rw [if_pos ⟨by omega, he⟩] at h1
    omega
  · rw [if_neg (fun h => he h.2)] at h1 h2
    omega
theorem setF_comm (n : Nat) (h : n < 18446744073709551616) (i c j d : Int) (hij : i ≠ j) : setF (setF n i c) j d = setF (setF n j d) i c := by
  apply byt_ext (setF_lt (setF_lt h _ _) _ _) (setF_lt (setF_lt h _ _) _ _)
  intro k hk
  have h1 := byt_setF (setF n i c) j d hk
  have h2 := byt_setF n i c hk
  have h3 := byt_setF (setF n j d) i c hk
  have h4 := byt_setF n j d hk
  by_cases he : (k : Int) = i
  · have hj : ¬ (k : Int) = j := by omega
    rw [if_neg (fun h => hj h.2)] at h1 h4
    by_cases hr : 0 ≤ i ∧ i ≤ 7 ∧ 0 ≤ c ∧ c ≤ 255
    · rw [if_pos ⟨hr, he⟩] at h2 h3; omega
    · rw [if_neg (fun h => hr h.1)] at h2 h3; omega
  · rw [if_neg (fun h => he h.2)] at h2 h3
    by_cases hr : (0 ≤ j ∧ j ≤ 7 ∧ 0 ≤ d ∧ d ≤ 255) ∧ (k : Int) = j
    · rw [if_pos hr] at h1 h4; omega
    · rw [if_neg hr] at h1 h4; omega
end Go.Proofs.YtakmaedimelaaaaDoor.Pl
namespace Go.Proofs.YtakmaedimelaaaaDoor.Pl
open Go
theorem toNat_le : ∀ b : Bool, b.toNat ≤ 1 := by decide
theorem parts_cnt (n : Nat) : cnt (ful n) + cnt (vac n) ≤ 8 ∧ cnt (mat n 128) ≤ cnt (vac n) ∧ cnt (ful 9259542123273814144) = 0 ∧ cnt (mat 9259542123273814144 128) = 8 := by
  have h : ∀ i, (ful n i).toNat + (vac n i).toNat ≤ 1 := fun i => by
    unfold ful vac mat
    by_cases h : byt n i < 128
    · have a : (byt n i == 128) = false := beq_eq_false_iff_ne.2 (by omega)
      have b : (byt n i == 254) = false := beq_eq_false_iff_ne.2 (by omega)
      simp [h, a, b]
    · simp [h]; exact toNat_le _
  have k : ∀ i, (mat n 128 i).toNat ≤ (vac n i).toNat := fun i => by
    unfold vac; cases mat n 128 i <;> cases mat n 254 i <;> decide
  unfold cnt
  refine ⟨?_, ?_, by decide, by decide⟩
  · have := h 0; have := h 1; have := h 2; have := h 3; have := h 4; have := h 5; have := h 6; have := h 7; omega
  · have := k 0; have := k 1; have := k 2; have := k 3; have := k 4; have := k 5; have := k 6; have := k 7; omega
end Go.Proofs.YtakmaedimelaaaaDoor.Pl
namespace Go.Proofs.YtakmaedimelaaaaDoor.Pl
open Go
theorem mask_none : mask (fun _ => false) = 0 := by decide
/-- Match, of any tag -/
def matF (n : Nat) (t : Int) : Nat → Bool := fun i => decide (0 ≤ t) && decide (t ≤ 127) && (((byt n i : Nat) : Int) == t)
theorem matF_in (n t : Nat) (h : t ≤ 127) : mask (matF n t) = mask (mat n t) := mask_congr fun i _ => by
  unfold matF mat
  have a : decide ((0 : Int) ≤ (t : Int)) = true := by simp
  have b : decide ((t : Int) ≤ 127) = true := by simp; omega
  rw [a, b]
  by_cases c : byt n i = t
  · simp [c]
  · rw [beq_eq_false_iff_ne.2 c]; simp; omega
theorem matF_out (n : Nat) (t : Int) (h : t < 0 ∨ 127 < t) : mask (matF n t) = 0 := by
  rw [← mask_none]
  exact mask_congr fun i _ => by
    unfold matF
    rcases h with h | h
    · have a : decide (0 ≤ t) = false := by simp; omega
      rw [a]; rfl
    · have a : decide (t ≤ 127) = false := by simp; omega
      rw [a]; simp
/-- the slots whose byte is below t -/
def ltF (n t : Nat) : Nat → Bool := fun i => decide (byt n i < t)
theorem cnt_lt (n t : Nat) : cnt (ltF n t) + cnt (mat n t) = cnt (ltF n (t + 1)) := by
  have h : ∀ i, (ltF n t i).toNat + (mat n t i).toNat = (ltF n (t + 1) i).toNat := fun i => by
    unfold ltF mat
    rcases Nat.lt_trichotomy (byt n i) t with h | h | h
    · have a : (byt n i == t) = false := beq_eq_false_iff_ne.2 (by omega)
      have b : byt n i < t + 1 := by omega
      simp [h, a, b]
    · have c : ¬ byt n i < t := by omega
      simp [h]
    · have a : (byt n i == t) = false := beq_eq_false_iff_ne.2 (by omega)
      have b : ¬ byt n i < t + 1 := by omega
      have c : ¬ byt n i < t := by omega
      simp [c, a, b]
  unfold cnt
  have := h 0; have := h 1; have := h 2; have := h 3; have := h 4; have := h 5; have := h 6; have := h 7; omega
theorem cnt_lt0 (n : Nat) : cnt (ltF n 0) = 0 := by unfold cnt ltF; simp
theorem mat_ful {n t i : Nat} (ht : t < 128) (h : mat n t i = true) : ful n i = true := by
  unfold mat at h; unfold ful; have := beq_iff_eq.1 h; simp; omega
end Go.Proofs.YtakmaedimelaaaaDoor.Pl
namespace Go.Proofs.YtakmaedimelaaaaDoor.Pl
open Go Go.RowKit
/-- bit k of a number -/
def bitB (m k : Nat) : Bool := m / 2 ^ k % 2 == 1
theorem bit_eq (m k : Nat) (h : m < 256) : bits BinOp.and IntKind.u8 ((m : Int) / 2 ^ k) 1 = if bitB m k then 1 else 0 := by
  have hd : m / 2 ^ k < 256 := Nat.lt_of_le_of_lt (Nat.div_le_self _ _) h
  have e : ((m : Int) / 2 ^ k) = ((m / 2 ^ k : Nat) : Int) := by simp
  rw [e, show (1 : Int) = ((1 : Nat) : Int) from rfl, (bits_nat .u8 8 (by decide) wraps_u8 _ 1 (by omega) (by decide)).1]
  have h1 : m / 2 ^ k &&& 1 = m / 2 ^ k % 2 := Nat.and_two_pow_sub_one_eq_mod _ 1
  rw [h1]
  unfold bitB
  rcases Nat.mod_two_eq_zero_or_one (m / 2 ^ k) with h2 | h2 <;> rw [h2] <;> rfl
theorem xor_i64 (a b : Nat) (ha : a < 9223372036854775808) (hb : b < 9223372036854775808) : bits .xor .i64 (a : Int) (b : Int) = ((a ^^^ b : Nat) : Int) := by
  have h1 : (BitVec.ofInt 64 (a : Int)).toNat = a := by
    rw [BitVec.ofInt_natCast, BitVec.toNat_ofNat]; exact Nat.mod_eq_of_lt (by omega)
  have h2 : (BitVec.ofInt 64 (b : Int)).toNat = b := by
    rw [BitVec.ofInt_natCast, BitVec.toNat_ofNat]; exact Nat.mod_eq_of_lt (by omega)
  have hx : a ^^^ b < 2 ^ 63 := Nat.xor_lt_two_pow (by omega) (by omega)
  show IntKind.i64.wrap ((BitVec.ofInt 64 (a : Int) ^^^ BitVec.ofInt 64 (b : Int)).toNat : Int) = _
  rw [BitVec.toNat_xor, h1, h2, IntKind.wrap_i64]
  omega
theorem two_pow_le {b : Nat} (h : b ≤ 7) : 1 ≤ 2 ^ b ∧ 2 ^ b ≤ 128 := ⟨Nat.one_le_two_pow, Nat.pow_le_pow_right (n := 2) (j := 7) (by decide) h⟩
theorem flip_eq (t b : Nat) (ht : t ≤ 127) (hb : b ≤ 7) : bits BinOp.xor IntKind.i64 (t : Int) (wrap64 (2 ^ b)) = ((t ^^^ 2 ^ b : Nat) : Int) ∧ t ^^^ 2 ^ b < 256 ∧ t ^^^ 2 ^ b ≠ t := by
  obtain ⟨p1, p2⟩ := two_pow_le hb
  have e : wrap64 (2 ^ b) = ((2 ^ b : Nat) : Int) := by
    have e0 : ((2 : Int) ^ b) = ((2 ^ b : Nat) : Int) := by simp
    rw [e0]; unfold wrap64; omega
  refine ⟨by rw [e, xor_i64 _ _ (by omega) (by omega)], x1 (by omega) (by omega), fun h => ?_⟩
  have := congrArg (· ^^^ t) h
  simp only [Nat.xor_self] at this
  rw [Nat.xor_comm t, Nat.xor_assoc, Nat.xor_self, Nat.xor_zero] at this
  omega
/-- how many of the first k are in a set -/
def upTo (p : Nat → Bool) : Nat → Nat
  | 0 => 0
  | k + 1 => upTo p k + (p k).toNat
theorem upTo_le (p : Nat → Bool) (k : Nat) : upTo p k ≤ k := by
  induction k with
  | zero => exact Nat.le_refl _
  | succ k ih => have := toNat_le (p k); simp only [upTo]; omega
theorem upTo_cnt (p : Nat → Bool) : upTo p 8 = cnt p := by simp [upTo, cnt]
end Go.Proofs.YtakmaedimelaaaaDoor.Pl
