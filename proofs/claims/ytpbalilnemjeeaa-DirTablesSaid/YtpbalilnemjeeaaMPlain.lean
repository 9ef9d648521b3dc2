/- What is proved here: plain facts on lists of bytes: splices, numbers laid lowest byte first. No condition. -/
import Derived.Laws.BitsLemmas
import Derived.Laws.CopyOwn
namespace Go.Proofs.Ytpbalilnemjeeaa.Pm
set_option linter.unusedVariables false
set_option linter.unusedSimpArgs false
open Go
section
variable {α : Type}
theorem splice_get? (L : List α) (off : Nat) (cs : List α) (h : off + cs.length ≤ L.length) (i : Nat) :
    (splice L off cs)[i]? = if off ≤ i ∧ i < off + cs.length then cs[i - off]? else L[i]? := by
  unfold splice
  by_cases h1 : i < off
  · rw [List.getElem?_append_left (by simp; omega), List.getElem?_take, if_pos h1, if_neg (by omega)]
  · rw [List.getElem?_append_right (by simp; omega)]
    have e : i - (L.take off).length = i - off := by simp; omega
    rw [e]
    by_cases h2 : i < off + cs.length
    · rw [List.getElem?_append_left (by omega), if_pos ⟨by omega, h2⟩]
    · rw [List.getElem?_append_right (by omega), List.getElem?_drop, if_neg (by omega)]
      congr 1; omega
theorem splice_len (L : List α) (off : Nat) (cs : List α) (h : off + cs.length ≤ L.length) : (splice L off cs).length = L.length := length_splice L off cs h
theorem splice_in (L : List α) (off : Nat) (cs : List α) (h : off + cs.length ≤ L.length) (i : Nat) (h1 : off ≤ i) (h2 : i < off + cs.length) : (splice L off cs)[i]? = cs[i - off]? := by
  rw [splice_get? L off cs h, if_pos ⟨h1, h2⟩]
theorem splice_out (L : List α) (off : Nat) (cs : List α) (h : off + cs.length ≤ L.length) (i : Nat) (h1 : i < off ∨ off + cs.length ≤ i) : (splice L off cs)[i]? = L[i]? := by
  rw [splice_get? L off cs h, if_neg (by omega)]
theorem splice_nil (L : List α) (off : Nat) : splice L off [] = L := by simp [splice]
theorem splice_take_step (L : List α) (off : Nat) (cs : List α) (k : Nat) (c : α) (h : off + cs.length ≤ L.length) (hc : cs[k]? = some c) :
    (splice L off (cs.take k)).set (off + k) c = splice L off (cs.take (k + 1)) := by
  have hk : k < cs.length := (List.getElem?_eq_some_iff.1 hc).1
  have l1 : (cs.take k).length = k := by simp; omega
  have l2 : (cs.take (k + 1)).length = k + 1 := by simp; omega
  apply List.ext_getElem?
  intro i
  rw [List.getElem?_set, splice_len _ _ _ (by rw [l1]; omega), splice_get? _ _ _ (by rw [l1]; omega), splice_get? _ _ _ (by rw [l2]; omega), l1, l2]
  by_cases e : off + k = i
  · subst e
    rw [if_pos rfl, if_pos (by omega), if_pos (by omega), List.getElem?_take, if_pos (by omega), show off + k - off = k by omega, hc]
  · rw [if_neg e]
    by_cases e2 : off ≤ i ∧ i < off + k
    · rw [if_pos e2, if_pos (by omega), List.getElem?_take, List.getElem?_take, if_pos (by omega), if_pos (by omega)]
    · rw [if_neg e2, if_neg (by omega)]
theorem splice_splice_next (L : List α) (off : Nat) (a b : List α) (h : off + a.length + b.length ≤ L.length) : splice (splice L off a) (off + a.length) b = splice L off (a ++ b) := by
  apply List.ext_getElem?
  intro i
  rw [splice_get? _ _ _ (by rw [splice_len _ _ _ (by omega)]; omega), splice_get? _ _ _ (by omega), splice_get? _ _ _ (by simp; omega)]
  simp only [List.length_append]
  by_cases h1 : off + a.length ≤ i ∧ i < off + a.length + b.length
  · rw [if_pos h1, if_pos (by omega), List.getElem?_append_right (by omega)]; congr 1; omega
  · rw [if_neg h1]
    by_cases h2 : off ≤ i ∧ i < off + a.length
    · rw [if_pos h2, if_pos (by omega), List.getElem?_append_left (by omega)]
    · rw [if_neg h2, if_neg (by omega)]
theorem splice_map {β : Type} (f : α → β) (L : List α) (off : Nat) (cs : List α) : (splice L off cs).map f = splice (L.map f) off (cs.map f) := by
  simp [splice, List.map_take, List.map_drop]
theorem splice_whole (L cs : List α) (h : cs.length = L.length) : splice L 0 cs = cs := by simp [splice, h]
end
/-- the number whose bytes these are, the lowest first -/
def leN : List UInt8 → Nat
  | [] => 0
  | b :: t => b.toNat + 256 * leN t
/-- the low w bytes of v, the lowest first -/
def leB : Nat → Nat → List UInt8
  | 0, _ => []
  | w + 1, v => UInt8.ofNat (v % 256) :: leB w (v / 256)
theorem leB_len (w v : Nat) : (leB w v).length = w := by
  induction w generalizing v with
  | zero => rfl
  | succ w ih => simp [leB, ih]
theorem leN_lt (l : List UInt8) : leN l < 256 ^ l.length := by
  induction l with
  | nil => simp [leN]
  | cons b t ih =>
    have hb : b.toNat < 256 := b.toNat_lt
    simp only [leN, List.length_cons, Nat.pow_succ]
    omega
theorem leN_append (a b : List UInt8) : leN (a ++ b) = leN a + 256 ^ a.length * leN b := by
  induction a with
  | nil => simp [leN]
  | cons x t ih =>
    simp only [List.cons_append, leN, ih, List.length_cons, Nat.pow_succ, Nat.mul_add]
    rw [Nat.mul_comm (256 ^ t.length) 256, Nat.mul_assoc]; omega
theorem leN_take_succ (l : List UInt8) (k : Nat) (b : UInt8) (h : l[k]? = some b) : leN (l.take (k + 1)) = leN (l.take k) + 256 ^ k * b.toNat := by
  have hk : k < l.length := (List.getElem?_eq_some_iff.1 h).1
  have e : l.take (k + 1) = l.take k ++ [b] := by rw [List.take_add_one, h]; rfl
  rw [e, leN_append]
  simp only [leN, List.length_take, Nat.min_eq_left (Nat.le_of_lt hk), Nat.mul_zero, Nat.add_zero]
theorem leN_leB (w v : Nat) : leN (leB w v) = v % 256 ^ w := by
  induction w generalizing v with
  | zero => simp [leB, leN, Nat.mod_one]
  | succ w ih =>
    have e : (UInt8.ofNat (v % 256)).toNat = v % 256 := by simp
    simp only [leB, leN, ih, e, Nat.pow_succ]
    rw [Nat.mul_comm (256 ^ w) 256, Nat.mod_mul]
theorem leB_get? (w v k : Nat) (h : k < w) : (leB w v)[k]? = some (UInt8.ofNat (v / 256 ^ k % 256)) := by
  induction w generalizing v k with
  | zero => omega
  | succ w ih =>
    cases k with
    | zero => simp [leB]
    | succ k =>
      simp only [leB, List.getElem?_cons_succ]
      rw [ih _ _ (by omega), Nat.pow_succ, Nat.div_div_eq_div_mul, Nat.mul_comm 256]
theorem wrap_u64 (n : Int) : IntKind.u64.wrap n = n % 18446744073709551616 := by simp [IntKind.wrap, IntKind.bits, IntKind.signed]
theorem wraps_u64 (n : Int) (h0 : 0 ≤ n) (h1 : n < 2 ^ 64) : IntKind.u64.wrap n = n := by rw [wrap_u64]; omega
theorem pow_256 (j : Nat) : 256 ^ j = 2 ^ (8 * j) := by rw [Nat.pow_mul]
theorem pow_mono {j m : Nat} (h : j ≤ m) : 2 ^ j ≤ 2 ^ m := Nat.pow_le_pow_right (by decide) h
theorem splice_mid {α : Type} (L : List α) (off : Nat) (cs : List α) (h : off + cs.length ≤ L.length) : ((splice L off cs).drop off).take cs.length = cs := by
  unfold splice
  have e : (L.take off).length = off := by simp; omega
  rw [List.drop_append, List.drop_of_length_le (by omega), List.nil_append, e, Nat.sub_self, List.drop_zero, List.take_append_of_le_length (Nat.le_refl _), List.take_length]
/-- a byte of a number that was cut -/
theorem cut_byte (v k t : Nat) (h : t < k) : v % 256 ^ k / 256 ^ t % 256 = v / 256 ^ t % 256 := by
  obtain ⟨m, rfl⟩ : ∃ m, k = t + 1 + m := ⟨k - t - 1, by omega⟩
  have e : 256 ^ (t + 1 + m) = 256 ^ t * (256 * 256 ^ m) := by rw [Nat.pow_add, Nat.pow_succ, Nat.mul_assoc]
  rw [e, Nat.mod_mul_right_div_self, Nat.mod_mul_right_mod]
theorem byte_at (v j : Nat) : (v : Int) / 2 ^ (8 * j) % 256 = ((UInt8.ofNat (v / 256 ^ j % 256)).toNat : Int) := by
  have e : (UInt8.ofNat (v / 256 ^ j % 256)).toNat = v / 256 ^ j % 256 := by simp
  rw [e, pow_256]
  simp
theorem byte_cut (v k t : Nat) (h : t < k) (hv : v < 2 ^ 64) : (v : Int) % 256 ^ k / 2 ^ (8 * t) % 256 = ((v / 256 ^ t % 256 : Nat) : Int) := by
  rw [← cut_byte v k t h, pow_256 t]
  simp
/-- a byte of a number, cut out and taken for an int -/
theorem end_byte (v k t : Nat) (X : Int) (hX : X = ((v % 256 ^ k : Nat) : Int)) (h : t < k) : ((v : Int) / 256 ^ t % 256 == IntKind.i64.wrap ((X / 2 ^ (8 * (t : Int)).toNat).tmod 256)) = true := by
  subst hX
  rw [show (8 * (t : Int)).toNat = 8 * t by omega]
  have e : ((v % 256 ^ k : Nat) : Int) / 2 ^ (8 * t) = ((v % 256 ^ k / 256 ^ t : Nat) : Int) := by rw [pow_256 t]; simp
  have e2 : ((v % 256 ^ k / 256 ^ t : Nat) : Int).tmod 256 = ((v % 256 ^ k / 256 ^ t % 256 : Nat) : Int) := by
    rw [Int.tmod_eq_emod_of_nonneg (Int.natCast_nonneg _)]; simp
  rw [e, e2, cut_byte v k t h, IntKind.wrap_i64]
  have e3 : (v : Int) / 256 ^ t % 256 = ((v / 256 ^ t % 256 : Nat) : Int) := by simp
  rw [e3, beq_iff_eq]
  omega
/-- a number is made of its halves -/
theorem leN_halves (L : List UInt8) (off h : Nat) (hl : off + 2 * h ≤ L.length) : leN ((L.drop off).take (2 * h)) = leN ((L.drop off).take h) + 256 ^ h * leN ((L.drop (off + h)).take h) := by
  have e : (L.drop off).take (2 * h) = (L.drop off).take h ++ (L.drop (off + h)).take h := by
    rw [show 2 * h = h + h by omega, List.take_add, List.drop_drop]
  have e2 : ((L.drop off).take h).length = h := by rw [List.length_take, List.length_drop]; omega
  rw [e, leN_append, e2]
theorem leN_take_lt (L : List UInt8) (h : Nat) : leN (L.take h) < 256 ^ h := by
  have h1 := leN_lt (L.take h)
  have h2 : (L.take h).length ≤ h := List.length_take_le _ _
  exact Nat.lt_of_lt_of_le h1 (Nat.pow_le_pow_right (by decide) h2)
theorem leN_one (L : List UInt8) (off : Nat) (b : UInt8) (h : L[off]? = some b) : leN ((L.drop off).take 1) = b.toNat := by
  have hl := (List.getElem?_eq_some_iff.1 h)
  obtain ⟨hlt, he⟩ := hl
  rw [List.drop_eq_getElem_cons hlt, he]
  simp [leN]
/-- the next byte is laid over a number of j bytes -/
theorem or_step (x b j : Nat) (hx : x < 256 ^ j) (hb : b < 256) (hj : j < 8) : bits .or .u64 (x : Int) (IntKind.u64.wrap ((b : Int) * 2 ^ (8 * j))) = ((x + 256 ^ j * b : Nat) : Int) := by
  have hx2 : x < 2 ^ (8 * j) := by rw [← pow_256]; exact hx
  have hx3 : x < 2 ^ 64 := Nat.lt_of_lt_of_le hx2 (pow_mono (by omega))
  have hs : b * 2 ^ (8 * j) < 2 ^ 64 := by
    have h1 : b * 2 ^ (8 * j) < 2 ^ 8 * 2 ^ (8 * j) := Nat.mul_lt_mul_of_pos_right hb (Nat.pow_pos (by decide))
    rw [← Nat.pow_add] at h1
    exact Nat.lt_of_lt_of_le h1 (pow_mono (by omega))
  have e : (b : Int) * 2 ^ (8 * j) = ((b * 2 ^ (8 * j) : Nat) : Int) := by simp
  rw [e, wraps_u64 _ (by omega) (by exact_mod_cast hs), (bits_nat .u64 64 (by decide) wraps_u64 x (b * 2 ^ (8 * j)) hx3 hs).2]
  have h2 := Nat.shiftLeft_add_eq_or_of_lt hx2 b
  rw [Nat.shiftLeft_eq] at h2
  rw [Nat.or_comm, ← h2, pow_256, Nat.mul_comm (2 ^ (8 * j)) b, Nat.add_comm]
end Go.Proofs.Ytpbalilnemjeeaa.Pm
