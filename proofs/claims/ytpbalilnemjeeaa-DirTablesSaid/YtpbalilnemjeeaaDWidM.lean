/- What is proved here: make at []int; the cells of the doubled entries; a shift by a small depth. No condition. -/
import Derived.Test.YtpbalilnemjeeaaDWidP
namespace Go.Proofs.Ytpbalilnemjeeaa
set_option linter.unusedVariables false
set_option linter.unusedSimpArgs false
open Go.RowKit Pm Pa Pl Pd
def iv (l : List Int) : Array Value := (l.map (Value.int .i64)).toArray
theorem iv_get (l : List Int) (i : Nat) : (iv l)[i]? = (l[i]?).map (Value.int .i64) := by simp [iv]
theorem made_ints (n : Nat) : madeCells (Value.int .i64 0).cells n = iv (List.replicate n 0) := by
  refine Array.ext_getElem? fun i => ?_
  rw [iv_get]
  simp [madeCells, Value.cells, List.getElem?_replicate, Nat.mod_one]
  by_cases h : i < n
  · simp [h]
  · simp [h]
section
variable {w : World} {ops : Array Oper} {rest : List Oper} {o : Oper} {a : Act} {Q : Exit → Act → World → Prop}
theorem wpList_make_ints (hg : o.guard = none) (l c : Operand) (hop : o.op = Op.makeSlice 29 l c) (L C : Nat) (hl : a.eval l = .int .i64 (L : Int)) (hc : a.eval c = .int .i64 (C : Int)) (h1 : L ≤ C) (h2 : C ≤ 281474976710)
    (h : wpList Try.prog ops Q rest (a.put o.dst (.slice (some ⟨w.heap.size, 0, none⟩) L C)) (w.alloc (.cells (iv (List.replicate C 0)) 3))) : wpList Try.prog ops Q (o :: rest) a w := by
  obtain ⟨i0, hi, hz0, hz1, hz2⟩ := info_parts infoInt
  refine wpList_plain hg fun K hK' => ?_
  have hr := run_make (P := Try.prog) w 29 3 i0 (.int .i64 0) Try.underlying29 hi hz0 .i64 .i64 L C (by omega) (by omega) (by rw [hz2]; omega) (by omega)
  rw [hz1, Nat.mul_one] at hr
  have e : madeCells (Value.int .i64 0).cells (C : Int).toNat = iv (List.replicate C 0) := by rw [Int.toNat_natCast]; exact made_ints _
  rw [e, Int.toNat_natCast, Int.toNat_natCast] at hr
  unfold Oper.wp
  simp [execOp, hop, hl, hc, hr, Result.andThen]
  exact hK' _ _ h
end
/-- the cells behind k rounds of Widen -/
def widC (es : List Int) (N k : Nat) : List Int := dbl (es.take k) ++ List.replicate (N - 2 * k) 0
theorem widC_zero (es : List Int) (N : Nat) : widC es N 0 = List.replicate N 0 := by simp [widC, dbl]
theorem widC_get (es : List Int) (N k : Nat) (hk : k ≤ es.length) (i : Nat) : (widC es N k)[i]? = if i < 2 * k then (dbl es)[i]? else if i < N then some 0 else none := by
  unfold widC
  have hl : (dbl (es.take k)).length = 2 * k := by rw [dbl_len, List.length_take]; omega
  rw [List.getElem?_append, hl]
  by_cases h : i < 2 * k
  · rw [if_pos h, if_pos h]
    obtain ⟨j, hj | hj⟩ : ∃ j, i = 2 * j ∨ i = 2 * j + 1 := ⟨i / 2, by omega⟩
    · subst hj
      rw [(dbl_get _ _).1, (dbl_get _ _).1, List.getElem?_take, if_pos (by omega)]
    · subst hj
      rw [(dbl_get _ _).2, (dbl_get _ _).2, List.getElem?_take, if_pos (by omega)]
  · rw [if_neg h, if_neg h, List.getElem?_replicate]
    by_cases h2 : i < N
    · rw [if_pos (by omega), if_pos h2]
    · rw [if_neg (by omega), if_neg h2]
theorem widC_step (es : List Int) (N k : Nat) (hk : k < es.length) (hN : 2 * (k + 1) ≤ N) (e : Int) (he : es[k]? = some e) : ((iv (widC es N k)).setIfInBounds (2 * k) (.int .i64 e)).setIfInBounds (2 * k + 1) (.int .i64 e) = iv (widC es N (k + 1)) := by
  refine Array.ext_getElem? fun i => ?_
  have hsz : (iv (widC es N k)).size = N := by
    simp [iv, widC, dbl_len]; omega
  rw [iv_get, widC_get es N (k + 1) (by omega), Array.getElem?_setIfInBounds, Array.getElem?_setIfInBounds, Array.size_setIfInBounds, hsz, iv_get, widC_get es N k (by omega)]
  by_cases h1 : 2 * k + 1 = i
  · subst h1
    rw [if_pos rfl, if_pos (by omega), if_pos (by omega), (dbl_get _ _).2, he]; rfl
  · rw [if_neg h1]
    by_cases h2 : 2 * k = i
    · subst h2
      rw [if_pos rfl, if_pos (by omega), if_pos (by omega), (dbl_get _ _).1, he]; rfl
    · rw [if_neg h2]
      by_cases h3 : i < 2 * k
      · rw [if_pos h3, if_pos (by omega)]
      · rw [if_neg h3, if_neg (show ¬ i < 2 * (k + 1) by omega)]
theorem widC_all (es : List Int) : widC es (2 * es.length) es.length = dbl es := by
  refine List.ext_getElem? fun i => ?_
  rw [widC_get es _ _ (Nat.le_refl _)]
  by_cases h : i < 2 * es.length
  · rw [if_pos h]
  · rw [if_neg h, if_neg h, List.getElem?_eq_none (by rw [dbl_len]; omega)]
theorem shl_two (d : Nat) (hd : d ≤ 5) (w : World) : (Op.shift .shl .i64 2 .i64 (d : Int)).run Try.prog w = .ok (.int .i64 ((2 * 2 ^ d : Nat) : Int)) w := by
  have hd7 : d = 0 ∨ d = 1 ∨ d = 2 ∨ d = 3 ∨ d = 4 ∨ d = 5 := by omega
  rcases hd7 with rfl | rfl | rfl | rfl | rfl | rfl <;> rfl
theorem shl_one (d : Nat) (hd : d ≤ 5) (w : World) : (Op.shift .shl .i64 1 .i64 (d : Int)).run Try.prog w = .ok (.int .i64 ((2 ^ d : Nat) : Int)) w := by
  have hd7 : d = 0 ∨ d = 1 ∨ d = 2 ∨ d = 3 ∨ d = 4 ∨ d = 5 := by omega
  rcases hd7 with rfl | rfl | rfl | rfl | rfl | rfl <;> rfl
end Go.Proofs.Ytpbalilnemjeeaa
