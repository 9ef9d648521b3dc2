/- What is proved here: a list of parts (bytes, live or not), one behind the other from 16 on: starts, ends, sizes, sums. No condition, no program. -/
import Derived.Test.YtpbalilnemjeeaaAMap
set_option linter.unusedVariables false
set_option linter.unusedSimpArgs false
namespace Go.Proofs.Ytpbalilnemjeeaa.Pa
open Go
/-- the parts: bytes, and whether it is live -/
abbrev Parts := List (Nat × Bool)
def total (ps : Parts) : Nat := (ps.map (·.1)).sum
def endOf (ps : Parts) : Nat := 16 + total ps
def startsFrom (o : Nat) : Parts → List Nat
  | [] => []
  | (c, _) :: t => o :: startsFrom (o + c) t
def starts (ps : Parts) : List Nat := startsFrom 16 ps
def sizeFrom (o : Nat) : Parts → Int → Option Nat
  | [], _ => none
  | (c, l) :: t, k => if k = (o : Int) then (if l = true then some c else none) else sizeFrom (o + c) t k
def liveSum : Parts → Nat
  | [] => 0
  | (c, l) :: t => (if l = true then c else 0) + liveSum t
def deadFrom (o : Nat) : Parts → Int → List Nat
  | [], _ => []
  | (c, l) :: t, x => if l = false ∧ (c : Int) = x then o :: deadFrom (o + c) t x else deadFrom (o + c) t x
def szF (ps : Parts) : Int → Option Value := fun k => (sizeFrom 16 ps k).map fun (c : Nat) => Value.int .i64 (c : Int)
theorem total_nil : total [] = 0 := rfl
theorem total_cons (a : Nat × Bool) (t : Parts) : total (a :: t) = a.1 + total t := by simp [total]
theorem total_app (ps qs : Parts) : total (ps ++ qs) = total ps + total qs := by simp [total]
theorem startsFrom_len (o : Nat) (ps : Parts) : (startsFrom o ps).length = ps.length := by
  induction ps generalizing o with
  | nil => rfl
  | cons a t ih => simp [startsFrom, ih]
theorem startsFrom_app (o : Nat) (ps : Parts) (c : Nat) (l : Bool) : startsFrom o (ps ++ [(c, l)]) = startsFrom o ps ++ [o + total ps] := by
  induction ps generalizing o with
  | nil => simp [startsFrom, total]
  | cons a t ih => simp [startsFrom, ih, total_cons, Nat.add_assoc]
theorem starts_app (ps : Parts) (c : Nat) (l : Bool) : starts (ps ++ [(c, l)]) = starts ps ++ [endOf ps] := startsFrom_app 16 ps c l
theorem endOf_app (ps : Parts) (c : Nat) (l : Bool) : endOf (ps ++ [(c, l)]) = endOf ps + c := by simp [endOf, total_app, total]; omega
theorem liveSum_app (ps : Parts) (c : Nat) : liveSum (ps ++ [(c, true)]) = liveSum ps + c := by
  induction ps with
  | nil => simp [liveSum]
  | cons a t ih => simp only [List.cons_append, liveSum, ih]; omega
theorem deadFrom_app (o : Nat) (ps : Parts) (c : Nat) (x : Int) : deadFrom o (ps ++ [(c, true)]) x = deadFrom o ps x := by
  induction ps generalizing o with
  | nil => simp [deadFrom]
  | cons a t ih => simp only [List.cons_append, deadFrom, ih]
theorem sizeFrom_below (o : Nat) (ps : Parts) (k : Int) (h : k < o) : sizeFrom o ps k = none := by
  induction ps generalizing o with
  | nil => rfl
  | cons a t ih => unfold sizeFrom; rw [if_neg (by omega)]; exact ih _ (by omega)
theorem sizeFrom_end (o : Nat) (ps : Parts) (hp : ∀ a ∈ ps, 1 ≤ a.1) (k : Int) (h : (o + total ps : Nat) ≤ k) : sizeFrom o ps k = none := by
  induction ps generalizing o with
  | nil => rfl
  | cons a t ih =>
    have h1 := hp a (by simp)
    rw [total_cons] at h
    unfold sizeFrom
    rw [if_neg (by omega)]
    exact ih _ (fun b hb => hp b (by simp [hb])) (by omega)
theorem sizeFrom_app (o : Nat) (ps : Parts) (hp : ∀ a ∈ ps, 1 ≤ a.1) (c : Nat) (k : Int) : sizeFrom o (ps ++ [(c, true)]) k = if k = ((o + total ps : Nat) : Int) then some c else sizeFrom o ps k := by
  induction ps generalizing o with
  | nil => simp [sizeFrom, total]
  | cons a t ih =>
    have h1 := hp a (by simp)
    rw [List.cons_append]
    unfold sizeFrom
    rw [total_cons]
    by_cases e : k = (o : Int)
    · have e2 : ¬ k = ((o + (a.1 + total t) : Nat) : Int) := by omega
      rw [if_pos e, if_neg e2, if_pos e]
    · rw [if_neg e, if_neg e, ih _ (fun b hb => hp b (by simp [hb])), show o + a.1 + total t = o + (a.1 + total t) by omega]
theorem szF_app (ps : Parts) (hp : ∀ a ∈ ps, 1 ≤ a.1) (c : Nat) : szF (ps ++ [(c, true)]) = upd (szF ps) ((endOf ps : Nat) : Int) (some (.int .i64 (c : Int))) := by
  funext k
  unfold szF upd
  rw [sizeFrom_app 16 ps hp c k]
  by_cases e : k = ((endOf ps : Nat) : Int)
  · have e2 : k = ((16 + total ps : Nat) : Int) := e
    rw [if_pos e, if_pos e2]; rfl
  · have e2 : ¬ k = ((16 + total ps : Nat) : Int) := e
    rw [if_neg e, if_neg e2]
theorem total_ge (ps : Parts) (hp : ∀ a ∈ ps, 16 ≤ a.1) : 16 * ps.length ≤ total ps := by
  induction ps with
  | nil => simp
  | cons a t ih =>
    have h1 := hp a (by simp)
    have := ih (fun b hb => hp b (by simp [hb]))
    rw [total_cons, List.length_cons]; omega
theorem liveSum_le (ps : Parts) : liveSum ps ≤ total ps := by
  induction ps with
  | nil => simp [liveSum]
  | cons a t ih => rw [total_cons]; unfold liveSum; split <;> omega
theorem startsFrom_get (o : Nat) (ps : Parts) (i : Nat) (h : i < ps.length) : (startsFrom o ps)[i]? = some (o + total (ps.take i)) := by
  induction ps generalizing o i with
  | nil => simp at h
  | cons a t ih =>
    cases i with
    | zero => simp [startsFrom, total]
    | succ i => simp only [startsFrom, List.getElem?_cons_succ, List.take_succ_cons, total_cons]; rw [ih _ _ (by simpa using h)]; simp; omega
theorem starts_get (ps : Parts) (i : Nat) (h : i < ps.length) : (starts ps)[i]? = some (16 + total (ps.take i)) := startsFrom_get 16 ps i h
theorem total_take_succ (ps : Parts) (i : Nat) (a : Nat × Bool) (h : ps[i]? = some a) : total (ps.take (i + 1)) = total (ps.take i) + a.1 := by
  rw [List.take_add_one, h]; simp [total_app, total]
theorem total_take_le (ps : Parts) (i : Nat) : total (ps.take i) ≤ total ps := by
  have e : total ps = total (ps.take i) + total (ps.drop i) := by rw [← total_app, List.take_append_drop]
  omega
theorem sizeFrom_at (o : Nat) (ps : Parts) (hp : ∀ a ∈ ps, 1 ≤ a.1) (i c : Nat) (l : Bool) (h : ps[i]? = some (c, l)) : sizeFrom o ps ((o + total (ps.take i) : Nat) : Int) = if l = true then some c else none := by
  induction ps generalizing o i with
  | nil => simp at h
  | cons a t ih =>
    have h1 := hp a (by simp)
    cases i with
    | zero =>
      simp at h
      subst h
      unfold sizeFrom
      rw [if_pos (by simp [total])]
    | succ i =>
      unfold sizeFrom
      rw [List.take_succ_cons, total_cons, if_neg (by omega), show o + (a.1 + total (t.take i)) = o + a.1 + total (t.take i) by omega]
      exact ih _ (fun b hb => hp b (by simp [hb])) i (by simpa using h)
end Go.Proofs.Ytpbalilnemjeeaa.Pa
