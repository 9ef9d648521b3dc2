/- What is proved here: a directory's words in an arena's bytes; the contracts of set, word, deep, Depth, Entry. Conditions: numbers of their kinds. -/
import Derived.Test.YtpbalilnemjeeaaAS
import Derived.Test.YtpbalilnemjeeaaARefuse
import Derived.BigQuiet
namespace Go.Proofs.Ytpbalilnemjeeaa
set_option linter.unusedVariables false
set_option linter.unusedSimpArgs false
open Go.RowKit Pm Pa Pl
namespace Pd
/-- a number of the kind int -/
def isI (e : Int) : Prop := -9223372036854775808 ≤ e ∧ e ≤ 9223372036854775807
/-- the word of a number -/
def uN (e : Int) : Nat := (IntKind.u64.wrap e).toNat
theorem uN_is (e : Int) : IntKind.u64.wrap e = (uN e : Int) ∧ uN e < 2 ^ 64 := by
  unfold uN
  rw [IntKind.wrap_u64]
  omega
theorem uN_back {e : Int} (h : isI e) : IntKind.i64.wrap (uN e : Int) = e := by
  rw [← (uN_is e).1, IntKind.wrap_u64, IntKind.wrap_i64]
  unfold isI at h
  omega
/-- the bytes of the words -/
def wordsB (es : List Int) : List UInt8 := (es.map fun e => leB 8 (uN e)).flatten
theorem wordsB_snoc (es : List Int) (e : Int) : wordsB (es ++ [e]) = wordsB es ++ leB 8 (uN e) := by simp [wordsB]
theorem wordsB_len (es : List Int) : (wordsB es).length = 8 * es.length := by
  induction es with
  | nil => rfl
  | cons e t ih =>
    have h1 : wordsB (e :: t) = leB 8 (uN e) ++ wordsB t := by simp [wordsB]
    rw [h1, List.length_append, leB_len, ih, List.length_cons]; omega
theorem wordsB_at (es : List Int) (i : Nat) (e : Int) (h : es[i]? = some e) : ((wordsB es).drop (8 * i)).take 8 = leB 8 (uN e) := by
  induction es generalizing i with
  | nil => simp at h
  | cons d t ih =>
    have h1 : wordsB (d :: t) = leB 8 (uN d) ++ wordsB t := by simp [wordsB]
    rw [h1]
    cases i with
    | zero =>
      simp at h
      subst h
      rw [Nat.mul_zero, List.drop_zero, List.take_append_of_le_length (by rw [leB_len]; omega), List.take_of_length_le (by rw [leB_len]; omega)]
    | succ i =>
      simp at h
      rw [List.drop_append, List.drop_of_length_le (by rw [leB_len]; omega), leB_len, show 8 * (i + 1) - 8 = 8 * i by omega, List.nil_append]
      exact ih i h
theorem leN_word (e : Int) : leN (leB 8 (uN e)) = uN e := by
  have h := leN_leB 8 (uN e)
  rw [h]
  exact Nat.mod_eq_of_lt (by have := (uN_is e).2; omega)
end Pd
theorem clsN_ge' (n : Nat) (h1 : 1 ≤ n) (h2 : n ≤ 1048576) : n ≤ clsN (n : Int) := by
  have a := cls_ge (n := (n : Int)) (by omega)
  have b := (clsN_is (n := (n : Int)) (by omega)).1
  omega
open Pd
def dirV (p off d : Nat) : Value := .agg #[.pointer (some ⟨p, 0, none⟩), .int .i64 (off : Int), .int .i64 (d : Int)]
section
variable {w0 w : World} {p : Nat} {x : Loc} {lim : Nat} {ps : Parts} {L : List UInt8}
theorem dir_set' (h : ArAt w p x lim ps L) (off d i : Nat) (e : Int) (hi : Inside ps (off + 8 * i) 8) (hb : off ≤ 134217728 ∧ i ≤ 134217728) (D I : Int) (hD : D = d) (hI : I = i) : Calls Try.prog 86 #[.agg #[.pointer (some ⟨p, 0, none⟩), .int .i64 (off : Int), .int .i64 D], .int .i64 I, .int .i64 e] w fun r w' =>
    r = .returned (.int .i64 0) ∧ ArAt w' p x lim ps (splice L (off + 8 * i) (leB 8 (uN e))) ∧ Turns [x.q] w w' := by
  subst hD hI
  have hu := (uN_is e).1
  have hv := (uN_is e).2
  have hA := Lib.hid (h.alloc (.cells #[.pointer (some ⟨p, 0, none⟩), .int .i64 (off : Int), .int .i64 (d : Int)] 92))
  clear h
  go_enter Try.func86, Try.ntmps86
  go_wp2_with (first
    | (go_at_call 29; refine (ar_store hA.out hi (by decide) (uN e) hv _ _ (by push_cast; omega) rfl).mono ?_; rintro r w1 ⟨rfl, h1, h2⟩)
    | fail)
  go_ret
  exact ⟨rfl, h1, ((Turns.refl _ w).alloc _).trans h2⟩
theorem dir_set (h : AS w0 p x lim ps L w) (off d i : Nat) (e : Int) (hi : Inside ps (off + 8 * i) 8) (hb : off ≤ 134217728 ∧ i ≤ 134217728) (D I : Int) (hD : D = d) (hI : I = i) : Calls Try.prog 86 #[.agg #[.pointer (some ⟨p, 0, none⟩), .int .i64 (off : Int), .int .i64 D], .int .i64 I, .int .i64 e] w fun r w' =>
    r = .returned (.int .i64 0) ∧ AS w0 p x lim ps (splice L (off + 8 * i) (leB 8 (uN e))) w' := by
  refine (dir_set' h.ar off d i e hi hb D I hD hI).mono ?_
  rintro r w1 ⟨rfl, h1, h2⟩
  exact ⟨rfl, h.wrote h2 h1⟩
theorem dir_word' (h : ArAt w p x lim ps L) (off d i : Nat) (e : Int) (hi : Inside ps (off + 8 * i) 8) (hb : off ≤ 134217728 ∧ i ≤ 134217728) (he : (L.drop (off + 8 * i)).take 8 = leB 8 (uN e)) (hie : isI e) (D I : Int) (hD : D = d) (hI : I = i) : Calls Try.prog 88 #[.agg #[.pointer (some ⟨p, 0, none⟩), .int .i64 (off : Int), .int .i64 D], .int .i64 I] w fun r w' =>
    r = .returned (.tuple #[.int .i64 e, .int .i64 0]) ∧ Below w.heap.size w w' := by
  subst hD hI
  have hk := uN_back hie
  have hl : leN ((L.drop (off + 8 * i)).take 8) = uN e := by rw [he, leN_word]
  replace hl := Lib.hid hl
  replace he := Lib.hid he
  have hA := Lib.hid (h.alloc (.cells #[.pointer (some ⟨p, 0, none⟩), .int .i64 (off : Int), .int .i64 (d : Int)] 92))
  clear h
  go_enter Try.func88, Try.ntmps88
  go_wp2_with (first
    | (go_at_call 30; refine (ar_load hA.out hi (by decide) _ _ (by push_cast; omega) rfl (uN e : Int) (by rw [hl.out])).mono ?_; rintro r w1 ⟨rfl, m, rfl⟩)
    | fail)
  go_ret2
  exact ⟨rfl, below_drewN ((Below.refl _ _).alloc (Nat.le_refl _) _) _⟩
theorem dir_word (h : AS w0 p x lim ps L w) (off d i : Nat) (e : Int) (hi : Inside ps (off + 8 * i) 8) (hb : off ≤ 134217728 ∧ i ≤ 134217728) (he : (L.drop (off + 8 * i)).take 8 = leB 8 (uN e)) (hie : isI e) (D I : Int) (hD : D = d) (hI : I = i) : Calls Try.prog 88 #[.agg #[.pointer (some ⟨p, 0, none⟩), .int .i64 (off : Int), .int .i64 D], .int .i64 I] w fun r w' =>
    r = .returned (.tuple #[.int .i64 e, .int .i64 0]) ∧ AS w0 p x lim ps L w' := by
  refine (dir_word' h.ar off d i e hi hb he hie D I hD hI).mono ?_
  rintro r w1 ⟨rfl, h1⟩
  exact ⟨rfl, h.keep h1⟩
theorem dir_deep (off d : Nat) (hd : d ≤ 6) (w : World) (D : Int) (hD : D = d) (P : Value) (O : Value) (hO : ∃ o : Int, O = .int .i64 o) (hP : ∃ a, P = .pointer a) : Calls Try.prog 87 #[.agg #[P, O, .int .i64 D]] w fun r w' => r = .returned (.bool false) ∧ Below w.heap.size w w' := by
  subst hD
  obtain ⟨o, rfl⟩ := hO
  obtain ⟨a, rfl⟩ := hP
  have h1 : ¬ (d : Int) < 0 := by omega
  have h2 : ¬ (6 : Int) < d := by omega
  go_enter Try.func87, Try.ntmps87
  go_wp2_with fail
  go_ret
  exact ⟨rfl, (Below.refl _ _).alloc (Nat.le_refl _) _⟩
theorem dir_depth (w : World) (P O D : Value) (hO : ∃ o : Int, O = .int .i64 o) (hP : ∃ a, P = .pointer a) (hD : ∃ o : Int, D = .int .i64 o) : Calls Try.prog 51 #[.agg #[P, O, D]] w fun r w' => r = .returned D ∧ Below w.heap.size w w' := by
  obtain ⟨o, rfl⟩ := hO
  obtain ⟨a, rfl⟩ := hP
  obtain ⟨d, rfl⟩ := hD
  go_enter Try.func51, Try.ntmps51
  go_wp2_with fail
  go_ret
  exact ⟨rfl, (Below.refl _ _).alloc (Nat.le_refl _) _⟩
end
end Go.Proofs.Ytpbalilnemjeeaa
