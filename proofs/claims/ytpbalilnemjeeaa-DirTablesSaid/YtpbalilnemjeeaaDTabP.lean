/- What is proved here: the first places of the runs of a list of numbers. No condition, no program. -/
import Derived.Test.YtpbalilnemjeeaaDDir
set_option linter.unusedVariables false
set_option linter.unusedSimpArgs false
namespace Go.Proofs.Ytpbalilnemjeeaa.Pd
open Go
/-- does a run begin at i? -/
def isFst (es : List Int) (i : Nat) : Bool := decide (i = 0) || !decide (es.getD i 0 = es.getD (i - 1) 0)
/-- where runs begin, below k -/
def firsts (es : List Int) (k : Nat) : List Nat := (List.range k).filter (isFst es)
theorem firsts_zero (es : List Int) : firsts es 0 = [] := rfl
theorem firsts_succ (es : List Int) (k : Nat) : firsts es (k + 1) = if isFst es k = true then firsts es k ++ [k] else firsts es k := by
  unfold firsts
  rw [List.range_succ, List.filter_append]
  by_cases h : isFst es k = true
  · rw [if_pos h, List.filter_cons_of_pos h]; rfl
  · rw [if_neg h, List.filter_cons_of_neg h]; simp
theorem firsts_lt {es : List Int} {k i : Nat} (h : i ∈ firsts es k) : i < k := by
  unfold firsts at h
  exact List.mem_range.1 (List.mem_filter.1 h).1
theorem firsts_last (es : List Int) (x : Nat) (hx : 1 ≤ x) : ∃ q m, firsts es x = q ++ [m] ∧ m < x ∧ ∀ j, m ≤ j → j < x → es.getD j 0 = es.getD m 0 := by
  induction x with
  | zero => omega
  | succ x ih =>
    rw [firsts_succ]
    by_cases h : isFst es x = true
    · rw [if_pos h]
      exact ⟨firsts es x, x, rfl, by omega, fun j h1 h2 => by rw [show j = x by omega]⟩
    · rw [if_neg h]
      have hx0 : 1 ≤ x := by
        rcases Nat.eq_zero_or_pos x with e | e
        · subst e; exact absurd (by simp [isFst]) h
        · exact e
      obtain ⟨q, m, h1, h2, h3⟩ := ih hx0
      have he : es.getD x 0 = es.getD (x - 1) 0 := by
        unfold isFst at h
        simp at h
        simpa using h.2
      refine ⟨q, m, h1, by omega, fun j hj1 hj2 => ?_⟩
      by_cases e : j = x
      · subst e; rw [he]; exact h3 _ (by omega) (by omega)
      · exact h3 j hj1 (by omega)
theorem fst_ne {es : List Int} {x : Nat} (h : isFst es x = true) (h0 : 1 ≤ x) : es.getD x 0 ≠ es.getD (x - 1) 0 := by
  unfold isFst at h
  simp at h
  rcases h with h | h
  · omega
  · simpa using h
theorem take_snocD (es : List Int) (k : Nat) (h : k < es.length) : es.take (k + 1) = es.take k ++ [es.getD k 0] := by
  rw [List.take_add_one, List.getElem?_eq_getElem h, List.getD_eq_getElem?_getD, List.getElem?_eq_getElem h]; rfl
end Go.Proofs.Ytpbalilnemjeeaa.Pd
