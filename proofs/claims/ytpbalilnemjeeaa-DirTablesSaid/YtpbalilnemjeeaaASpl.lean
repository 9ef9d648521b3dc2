/- What is proved here: a list of parts, parted at one of them: starts, sizes, sums, the dead of a class; a dead part that lives again, a live one that dies. No condition, no program. -/
import Derived.Test.YtpbalilnemjeeaaAPl
set_option linter.unusedVariables false
set_option linter.unusedSimpArgs false
namespace Go.Proofs.Ytpbalilnemjeeaa.Pa
open Go
theorem startsFrom_split (o : Nat) (a b : Parts) : startsFrom o (a ++ b) = startsFrom o a ++ startsFrom (o + total a) b := by
  induction a generalizing o with
  | nil => simp [startsFrom, total]
  | cons x t ih => simp [startsFrom, ih, total_cons, Nat.add_assoc]
theorem deadFrom_split (o : Nat) (a b : Parts) (k : Int) : deadFrom o (a ++ b) k = deadFrom o a k ++ deadFrom (o + total a) b k := by
  induction a generalizing o with
  | nil => simp [deadFrom, total]
  | cons x t ih =>
    simp only [List.cons_append, deadFrom, ih, total_cons]
    rw [Nat.add_assoc]
    split <;> simp
theorem liveSum_split (a b : Parts) : liveSum (a ++ b) = liveSum a + liveSum b := by
  induction a with
  | nil => simp [liveSum]
  | cons x t ih => simp only [List.cons_append, liveSum, ih]; omega
theorem sizeFrom_split (o : Nat) (a b : Parts) (ha : ∀ y ∈ a, 1 ≤ y.1) (k : Int) : sizeFrom o (a ++ b) k = if k < ((o + total a : Nat) : Int) then sizeFrom o a k else sizeFrom (o + total a) b k := by
  induction a generalizing o with
  | nil =>
    rw [List.nil_append]
    by_cases h : k < ((o + total [] : Nat) : Int)
    · rw [if_pos h, sizeFrom_below o b k h]; rfl
    · rw [if_neg h]; rfl
  | cons x t ih =>
    have h1 := ha x (by simp)
    rw [total_cons, List.cons_append]
    have e1 : ∀ u, sizeFrom o (x :: u) k = if k = (o : Int) then (if x.2 = true then some x.1 else none) else sizeFrom (o + x.1) u k := fun u => rfl
    rw [e1, e1, ih _ (fun y hy => ha y (by simp [hy])), Nat.add_assoc]
    by_cases e : k = (o : Int)
    · have e2 : k < ((o + (x.1 + total t) : Nat) : Int) := by omega
      rw [if_pos e, if_pos e2, if_pos e]
    · rw [if_neg e, if_neg e]
theorem dead_split (o : Nat) (ps : Parts) (k : Int) (x : Nat) (r : List Nat) (h : deadFrom o ps k = x :: r) :
    ∃ (a : Parts) (c : Nat) (b : Parts), ps = a ++ (c, false) :: b ∧ k = (c : Int) ∧ deadFrom o a k = [] ∧ x = o + total a ∧ r = deadFrom (o + total a + c) b k := by
  induction ps generalizing o with
  | nil => cases h
  | cons y t ih =>
    obtain ⟨c, l⟩ := y
    unfold deadFrom at h
    by_cases hc : l = false ∧ (c : Int) = k
    · rw [if_pos hc] at h
      injection h with h1 h2
      obtain ⟨rfl, rfl⟩ := hc
      exact ⟨[], c, t, rfl, rfl, rfl, h1.symm, h2.symm⟩
    · rw [if_neg hc] at h
      obtain ⟨a, c', b, rfl, h2, h3, h4, h5⟩ := ih _ h
      refine ⟨(c, l) :: a, c', b, rfl, h2, ?_, ?_, ?_⟩
      · unfold deadFrom; rw [if_neg hc]; exact h3
      · rw [h4, total_cons]; omega
      · rw [h5, total_cons, show o + (c + total a) + c' = o + c + total a + c' by omega]
theorem live_split (o : Nat) (ps : Parts) (k : Int) (c : Nat) (h : sizeFrom o ps k = some c) : ∃ (a b : Parts), ps = a ++ (c, true) :: b ∧ k = ((o + total a : Nat) : Int) := by
  induction ps generalizing o with
  | nil => cases h
  | cons y t ih =>
    obtain ⟨c', l⟩ := y
    unfold sizeFrom at h
    by_cases hk : k = (o : Int)
    · rw [if_pos hk] at h
      cases l with
      | true =>
        rw [if_pos rfl] at h
        injection h with h1
        subst h1
        exact ⟨[], t, rfl, by rw [hk, total_nil]; rfl⟩
      | false => simp at h
    · rw [if_neg hk] at h
      obtain ⟨a, b, rfl, h2⟩ := ih _ h
      exact ⟨(c', l) :: a, b, rfl, by rw [h2, total_cons]; congr 1; omega⟩
section
variable (a b : Parts) (c : Nat)
theorem total_flip (l l' : Bool) : total (a ++ (c, l) :: b) = total (a ++ (c, l') :: b) := by simp [total]
theorem endOf_flip (l l' : Bool) : endOf (a ++ (c, l) :: b) = endOf (a ++ (c, l') :: b) := by unfold endOf; rw [total_flip a b c l l']
theorem starts_flip (l l' : Bool) : starts (a ++ (c, l) :: b) = starts (a ++ (c, l') :: b) := by unfold starts; rw [startsFrom_split, startsFrom_split]; rfl
theorem fst_flip (l l' : Bool) : (a ++ (c, l) :: b).map (·.1) = (a ++ (c, l') :: b).map (·.1) := by simp
theorem len_flip (l l' : Bool) : (a ++ (c, l) :: b).length = (a ++ (c, l') :: b).length := by simp
theorem liveSum_flip : liveSum (a ++ (c, true) :: b) = liveSum (a ++ (c, false) :: b) + c := by
  rw [liveSum_split, liveSum_split]
  simp only [liveSum]
  simp
  omega
theorem sizeFrom_flip (l l' : Bool) (ha : ∀ y ∈ a, 1 ≤ y.1) (hc : 1 ≤ c) (k : Int) : sizeFrom 16 (a ++ (c, l) :: b) k = if k = ((endOf a : Nat) : Int) then (if l = true then some c else none) else sizeFrom 16 (a ++ (c, l') :: b) k := by
  rw [sizeFrom_split 16 a _ ha, sizeFrom_split 16 a _ ha]
  change (if k < ((endOf a : Nat) : Int) then _ else _) = (if k = ((endOf a : Nat) : Int) then _ else if k < ((endOf a : Nat) : Int) then _ else _)
  have e1 : ∀ m : Bool, sizeFrom (16 + total a) ((c, m) :: b) k = if k = ((endOf a : Nat) : Int) then (if m = true then some c else none) else sizeFrom (16 + total a + c) b k := fun m => rfl
  rw [e1 l, e1 l']
  by_cases h1 : k < ((endOf a : Nat) : Int)
  · rw [if_pos h1, if_neg (by omega), if_pos h1]
  · rw [if_neg h1, if_neg h1]
    by_cases h2 : k = ((endOf a : Nat) : Int)
    · rw [if_pos h2, if_pos h2]
    · rw [if_neg h2, if_neg h2, if_neg h2]
theorem szF_live (ha : ∀ y ∈ a, 1 ≤ y.1) (hc : 1 ≤ c) : szF (a ++ (c, true) :: b) = upd (szF (a ++ (c, false) :: b)) ((endOf a : Nat) : Int) (some (.int .i64 (c : Int))) := by
  funext k
  unfold szF upd
  rw [sizeFrom_flip a b c true false ha hc k]
  by_cases e : k = ((endOf a : Nat) : Int)
  · rw [if_pos e, if_pos e]; rfl
  · rw [if_neg e, if_neg e]
theorem szF_dead (ha : ∀ y ∈ a, 1 ≤ y.1) (hc : 1 ≤ c) : szF (a ++ (c, false) :: b) = upd (szF (a ++ (c, true) :: b)) ((endOf a : Nat) : Int) none := by
  funext k
  unfold szF upd
  rw [sizeFrom_flip a b c false true ha hc k]
  by_cases e : k = ((endOf a : Nat) : Int)
  · rw [if_pos e, if_pos e]; rfl
  · rw [if_neg e, if_neg e]
theorem dead_live (k : Int) : deadFrom 16 (a ++ (c, true) :: b) k = deadFrom 16 a k ++ deadFrom (endOf a + c) b k := by
  rw [deadFrom_split]
  change _ ++ deadFrom (endOf a) ((c, true) :: b) k = _
  conv => lhs; arg 2; unfold deadFrom
  rw [if_neg (by simp)]
theorem dead_dead (k : Int) : deadFrom 16 (a ++ (c, false) :: b) k = if k = (c : Int) then deadFrom 16 a k ++ endOf a :: deadFrom (endOf a + c) b k else deadFrom 16 a k ++ deadFrom (endOf a + c) b k := by
  rw [deadFrom_split]
  change _ ++ deadFrom (endOf a) ((c, false) :: b) k = _
  conv => lhs; arg 2; unfold deadFrom
  by_cases e : k = (c : Int)
  · rw [if_pos ⟨rfl, e.symm⟩, if_pos e]
  · rw [if_neg (fun h => e h.2.symm), if_neg e]
theorem size_here (ha : ∀ y ∈ a, 1 ≤ y.1) (hc : 1 ≤ c) : sizeFrom 16 (a ++ (c, true) :: b) ((endOf a : Nat) : Int) = some c := by
  rw [sizeFrom_flip a b c true false ha hc, if_pos rfl, if_pos rfl]
end
theorem dead_range (o : Nat) (ps : Parts) (k : Int) (hp : ∀ y ∈ ps, 1 ≤ y.1) : ∀ x ∈ deadFrom o ps k, o ≤ x ∧ x < o + total ps := by
  induction ps generalizing o with
  | nil => intro x hx; cases hx
  | cons y t ih =>
    obtain ⟨c, l⟩ := y
    have h1 : 1 ≤ c := hp (c, l) (by simp)
    intro x hx
    have h2 := ih (o + c) (fun z hz => hp z (by simp [hz])) x
    unfold deadFrom at hx
    rw [total_cons]
    split at hx
    · rcases List.mem_cons.1 hx with e | e
      · simp only []; omega
      · have := h2 e; simp only []; omega
    · have := h2 hx; simp only []; omega
theorem dead_rise (o : Nat) (ps : Parts) (k : Int) (hp : ∀ y ∈ ps, 1 ≤ y.1) : (deadFrom o ps k).Pairwise (· < ·) := by
  induction ps generalizing o with
  | nil => exact List.Pairwise.nil
  | cons y t ih =>
    obtain ⟨c, l⟩ := y
    have h1 : 1 ≤ c := hp (c, l) (by simp)
    have h2 := ih (o + c) (fun z hz => hp z (by simp [hz]))
    unfold deadFrom
    split
    · refine List.pairwise_cons.2 ⟨fun x hx => ?_, h2⟩
      have := (dead_range (o + c) t k (fun z hz => hp z (by simp [hz])) x hx).1
      omega
    · exact h2
theorem dead_len (o : Nat) (ps : Parts) (k : Int) : (deadFrom o ps k).length ≤ ps.length := by
  induction ps generalizing o with
  | nil => simp [deadFrom]
  | cons y t ih =>
    obtain ⟨c, l⟩ := y
    unfold deadFrom
    have := ih (o + c)
    split <;> simp <;> omega
end Go.Proofs.Ytpbalilnemjeeaa.Pa
