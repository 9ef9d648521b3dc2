/- What is proved here: plain facts on splices of lists. No condition. -/
import Derived.Laws.CopyOwn
namespace Go.Proofs.Ytlfppmdehkhjiaa.Ps
set_option linter.unusedVariables false
set_option linter.unusedSimpArgs false
open Go
section
variable {α : Type}
theorem splice_get? (L : List α) (off : Nat) (cs : List α) (h : off + cs.length ≤ L.length) (i : Nat) :
    (splice L off cs)[i]? = if off ≤ i ∧ i < off + cs.length then cs[i - off]? else L[i]? := by
  unfold splice
  by_cases h1 : i < off
  · rw [List.getElem?_append_left (by simp; omega), List.getElem?_take, if_pos h1, if_neg (by omega)]
  · rw [List.getElem?_append_right (by simp; omega)]
    have e : i - (L.take off).length = i - off := by simp; omega
    rw [e]
    by_cases h2 : i < off + cs.length
    · rw [List.getElem?_append_left (by omega), if_pos ⟨by omega, h2⟩]
    · rw [List.getElem?_append_right (by omega), List.getElem?_drop, if_neg (by omega)]
      congr 1; omega
theorem splice_len (L : List α) (off : Nat) (cs : List α) (h : off + cs.length ≤ L.length) : (splice L off cs).length = L.length := length_splice L off cs h
theorem splice_in (L : List α) (off : Nat) (cs : List α) (h : off + cs.length ≤ L.length) (i : Nat) (h1 : off ≤ i) (h2 : i < off + cs.length) : (splice L off cs)[i]? = cs[i - off]? := by
  rw [splice_get? L off cs h, if_pos ⟨h1, h2⟩]
theorem splice_out (L : List α) (off : Nat) (cs : List α) (h : off + cs.length ≤ L.length) (i : Nat) (h1 : i < off ∨ off + cs.length ≤ i) : (splice L off cs)[i]? = L[i]? := by
  rw [splice_get? L off cs h, if_neg (by omega)]
theorem splice_nil (L : List α) (off : Nat) : splice L off [] = L := by simp [splice]
theorem splice_take_step (L : List α) (off : Nat) (cs : List α) (k : Nat) (c : α) (h : off + cs.length ≤ L.length) (hc : cs[k]? = some c) :
    (splice L off (cs.take k)).set (off + k) c = splice L off (cs.take (k + 1)) := by
  have hk : k < cs.length := (List.getElem?_eq_some_iff.1 hc).1
  have l1 : (cs.take k).length = k := by simp; omega
  have l2 : (cs.take (k + 1)).length = k + 1 := by simp; omega
  apply List.ext_getElem?
  intro i
  rw [List.getElem?_set, splice_len _ _ _ (by rw [l1]; omega), splice_get? _ _ _ (by rw [l1]; omega), splice_get? _ _ _ (by rw [l2]; omega), l1, l2]
  by_cases e : off + k = i
  · subst e
    rw [if_pos rfl, if_pos (by omega), if_pos (by omega), List.getElem?_take, if_pos (by omega), show off + k - off = k by omega, hc]
  · rw [if_neg e]
    by_cases e2 : off ≤ i ∧ i < off + k
    · rw [if_pos e2, if_pos (by omega), List.getElem?_take, List.getElem?_take, if_pos (by omega), if_pos (by omega)]
    · rw [if_neg e2, if_neg (by omega)]
theorem splice_splice_next (L : List α) (off : Nat) (a b : List α) (h : off + a.length + b.length ≤ L.length) : splice (splice L off a) (off + a.length) b = splice L off (a ++ b) := by
  apply List.ext_getElem?
  intro i
  rw [splice_get? _ _ _ (by rw [splice_len _ _ _ (by omega)]; omega), splice_get? _ _ _ (by omega), splice_get? _ _ _ (by simp; omega)]
  simp only [List.length_append]
  by_cases h1 : off + a.length ≤ i ∧ i < off + a.length + b.length
  · rw [if_pos h1, if_pos (by omega), List.getElem?_append_right (by omega)]; congr 1; omega
  · rw [if_neg h1]
    by_cases h2 : off ≤ i ∧ i < off + a.length
    · rw [if_pos h2, if_pos (by omega), List.getElem?_append_left (by omega)]
    · rw [if_neg h2, if_neg (by omega)]
theorem splice_map {β : Type} (f : α → β) (L : List α) (off : Nat) (cs : List α) : (splice L off cs).map f = splice (L.map f) off (cs.map f) := by
  simp [splice, List.map_take, List.map_drop]
theorem splice_whole (L cs : List α) (h : cs.length = L.length) : splice L 0 cs = cs := by simp [splice, h]
end
end Go.Proofs.Ytlfppmdehkhjiaa.Ps
