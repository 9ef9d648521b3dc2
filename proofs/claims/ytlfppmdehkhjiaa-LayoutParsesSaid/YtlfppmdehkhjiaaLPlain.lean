/- What is proved here: plain facts on layouts: powers of two, alignments, what Parse answers. No condition. -/
import Derived.Laws.BitsLemmas
import Derived.RowKit
namespace Go.Proofs.Ytlfppmdehkhjiaa.Pl
set_option linter.unusedVariables false
set_option linter.unusedSimpArgs false
open Go Go.RowKit
theorem and_double (m : Nat) (h : 1 ≤ m) : (2 * m) &&& (2 * m - 1) = 2 * (m &&& (m - 1)) := by
  have h1 := @Nat.and_mod_two_pow (2 * m) (2 * m - 1) 1
  have h2 := @Nat.and_div_two_pow (2 * m) (2 * m - 1) 1
  have e1 : (2 * m) % 2 ^ 1 = 0 := by omega
  have e3 : (2 * m) / 2 ^ 1 = m := by omega
  have e4 : (2 * m - 1) / 2 ^ 1 = m - 1 := by omega
  rw [e1, Nat.zero_and] at h1
  rw [e3, e4] at h2
  omega
theorem and_odd (m : Nat) : (2 * m + 1) &&& (2 * m) = 2 * m := by
  have h1 := @Nat.and_mod_two_pow (2 * m + 1) (2 * m) 1
  have h2 := @Nat.and_div_two_pow (2 * m + 1) (2 * m) 1
  have e1 : (2 * m) % 2 ^ 1 = 0 := by omega
  have e3 : (2 * m + 1) / 2 ^ 1 = m := by omega
  have e4 : (2 * m) / 2 ^ 1 = m := by omega
  rw [e1, Nat.and_zero] at h1
  rw [e3, e4, Nat.and_self] at h2
  omega
theorem and_pred (n : Nat) (h : 1 ≤ n) : (n &&& (n - 1) = 0) ↔ ∃ j, n = 2 ^ j := by
  induction n using Nat.strongRecOn with
  | _ n ih =>
    rcases Nat.mod_two_eq_zero_or_one n with h0 | h1
    · obtain ⟨m, rfl⟩ : ∃ m, n = 2 * m := ⟨n / 2, by omega⟩
      rw [and_double m (by omega)]
      have := ih m (by omega) (by omega)
      constructor
      · intro hz
        obtain ⟨j, hj⟩ := this.1 (by omega)
        exact ⟨j + 1, by rw [hj, Nat.pow_succ]; omega⟩
      · rintro ⟨j, hj⟩
        cases j with
        | zero => omega
        | succ j => rw [this.2 ⟨j, by rw [Nat.pow_succ] at hj; omega⟩]
    · obtain ⟨m, rfl⟩ : ∃ m, n = 2 * m + 1 := ⟨n / 2, by omega⟩
      rw [show 2 * m + 1 - 1 = 2 * m by omega, and_odd]
      constructor
      · intro hz; exact ⟨0, by omega⟩
      · rintro ⟨j, hj⟩
        cases j with
        | zero => omega
        | succ j => rw [Nat.pow_succ] at hj; omega
/-- one of the powers of two from 1 to 65536 -/
def isP (n : Int) : Bool := n == 1 || n == 2 || n == 4 || n == 8 || n == 16 || n == 32 || n == 64 || n == 128 || n == 256 || n == 512 || n == 1024 || n == 2048 || n == 4096 || n == 8192 || n == 16384 || n == 32768 || n == 65536
theorem isP_pow {n : Nat} (h2 : n ≤ 65536) : isP (n : Int) = true ↔ ∃ j, n = 2 ^ j := by
  constructor
  · intro h
    simp only [isP, Bool.or_eq_true, beq_iff_eq] at h
    rcases h with ((((((((((((((((h | h) | h) | h) | h) | h) | h) | h) | h) | h) | h) | h) | h) | h) | h) | h) | h)
    · exact ⟨0, by omega⟩
    · exact ⟨1, by omega⟩
    · exact ⟨2, by omega⟩
    · exact ⟨3, by omega⟩
    · exact ⟨4, by omega⟩
    · exact ⟨5, by omega⟩
    · exact ⟨6, by omega⟩
    · exact ⟨7, by omega⟩
    · exact ⟨8, by omega⟩
    · exact ⟨9, by omega⟩
    · exact ⟨10, by omega⟩
    · exact ⟨11, by omega⟩
    · exact ⟨12, by omega⟩
    · exact ⟨13, by omega⟩
    · exact ⟨14, by omega⟩
    · exact ⟨15, by omega⟩
    · exact ⟨16, by omega⟩
  · rintro ⟨j, rfl⟩
    have hj : j ≤ 16 := by
      by_cases h : j ≤ 16
      · exact h
      · have : 2 ^ 17 ≤ 2 ^ j := Nat.pow_le_pow_right (by decide) (by omega)
        omega
    rcases (by omega : j = 0 ∨ j = 1 ∨ j = 2 ∨ j = 3 ∨ j = 4 ∨ j = 5 ∨ j = 6 ∨ j = 7 ∨ j = 8 ∨ j = 9 ∨ j = 10 ∨ j = 11 ∨ j = 12 ∨ j = 13 ∨ j = 14 ∨ j = 15 ∨ j = 16) with h | h | h | h | h | h | h | h | h | h | h | h | h | h | h | h | h <;> subst h <;> decide
theorem and_i64 (a b : Nat) (ha : a < 9223372036854775808) (hb : b < 9223372036854775808) : bits .and .i64 (a : Int) (b : Int) = ((a &&& b : Nat) : Int) :=
  (bits_nat .i64 63 (by decide) (fun n h0 h1 => by rw [IntKind.wrap_i64]; omega) a b (by omega) (by omega)).1
theorem power_eq (n : Int) (h1 : 1 ≤ n) (h2 : n ≤ 65536) : (bits BinOp.and IntKind.i64 n (n - 1) == 0) = isP n := by
  obtain ⟨m, rfl⟩ := Int.eq_ofNat_of_zero_le (by omega : 0 ≤ n)
  have e : (m : Int) - 1 = ((m - 1 : Nat) : Int) := by omega
  rw [e, and_i64 _ _ (by omega) (by omega), Bool.eq_iff_iff, isP_pow (by omega), ← and_pred m (by omega), beq_iff_eq]
  omega
/-- power, of any number, for bounds between 1 and 65536 -/
def pwF (n lo hi : Int) : Bool := decide (lo ≤ n) && decide (n ≤ hi) && isP n
/-- aligned, of any width and alignment -/
def alF (w a : Int) : Bool := pwF a 1 8 && (Int.tmod w a == 0)
theorem pw18 {a : Int} (h : pwF a 1 8 = true) : a = 1 ∨ a = 2 ∨ a = 4 ∨ a = 8 := by
  simp only [pwF, isP, Bool.and_eq_true, Bool.or_eq_true, beq_iff_eq, decide_eq_true_eq] at h
  omega
theorem pw18' {a : Int} (h : a = 1 ∨ a = 2 ∨ a = 4 ∨ a = 8) : pwF a 1 8 = true := by
  rcases h with rfl | rfl | rfl | rfl <;> decide
/-- the least multiple of a from n on -/
def up (n a : Int) : Int := (n + a - 1) / a * a
theorem up_bound (n a : Int) (h : 0 ≤ n) (ha : a = 1 ∨ a = 2 ∨ a = 4 ∨ a = 8) : n ≤ up n a ∧ up n a ≤ n + a - 1 := by
  unfold up
  rcases ha with rfl | rfl | rfl | rfl <;> omega
/-- what Parse refuses, in its order; 0: nothing -/
def perr (k e ka ea c : Int) : Int :=
  if k < 1 ∨ 128 < k then 31 else if e < 0 ∨ 128 < e then 32 else if alF k ka = false ∨ alF e ea = false then 33 else if pwF c 16 1024 = false then 34 else 0
/-- nine numbers -/
structure LV where
  k : Int
  e : Int
  ka : Int
  ea : Int
  c : Int
  eo : Int
  bo : Int
  sl : Int
  gr : Int
/-- a layout as a value -/
def LV.val (l : LV) : Value := .agg #[.int .i64 l.k, .int .i64 l.e, .int .i64 l.ka, .int .i64 l.ea, .int .i64 l.c, .int .i64 l.eo, .int .i64 l.bo, .int .i64 l.sl, .int .i64 l.gr]
def LV.zero : LV := ⟨0, 0, 0, 0, 0, 0, 0, 0, 0⟩
/-- the layout of a right descriptor -/
def lay (k e ka ea c : Int) : LV := ⟨k, e, ka, ea, c, up k ea, up (up k ea + e) 8, up (up k ea + e) 8 + 8, 8 + 8 * (up (up k ea + e) 8 + 8)⟩
/-- what Parse answers -/
def parsed (k e ka ea c : Int) : LV := if perr k e ka ea c = 0 then lay k e ka ea c else LV.zero
end Go.Proofs.Ytlfppmdehkhjiaa.Pl
namespace Go.Proofs.Ytlfppmdehkhjiaa.Pl
open Go
/-- Valid, of any nine numbers -/
def LV.valid (l : LV) : Prop := perr l.k l.e l.ka l.ea l.c = 0 ∧ lay l.k l.e l.ka l.ea l.c = l
end Go.Proofs.Ytlfppmdehkhjiaa.Pl
namespace Go.Proofs.Ytlfppmdehkhjiaa.Pl
open Go
def LV.beq (l m : LV) : Bool := (l.k == m.k) && ((l.e == m.e) && ((l.ka == m.ka) && ((l.ea == m.ea) && ((l.c == m.c) && ((l.eo == m.eo) && ((l.bo == m.bo) && ((l.sl == m.sl) && ((l.gr == m.gr) && true))))))))
theorem LV.beq_iff (l m : LV) : LV.beq l m = true ↔ l = m := by
  obtain ⟨k, e, ka, ea, c, eo, bo, sl, gr⟩ := l
  obtain ⟨k', e', ka', ea', c', eo', bo', sl', gr'⟩ := m
  simp [LV.beq]
/-- whether nine numbers are a layout -/
def LV.validB (l : LV) : Bool := (perr l.k l.e l.ka l.ea l.c == 0) && LV.beq (parsed l.k l.e l.ka l.ea l.c) l
theorem LV.validB_iff (l : LV) : l.validB = true ↔ l.valid := by
  unfold LV.validB LV.valid
  rw [Bool.and_eq_true, beq_iff_eq, LV.beq_iff]
  constructor
  · rintro ⟨h1, h2⟩; refine ⟨h1, ?_⟩; unfold parsed at h2; rw [if_pos h1] at h2; exact h2
  · rintro ⟨h1, h2⟩; refine ⟨h1, ?_⟩; unfold parsed; rw [if_pos h1]; exact h2
end Go.Proofs.Ytlfppmdehkhjiaa.Pl
