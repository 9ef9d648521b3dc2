/- What is proved here: rows of blocks of one class, live and dead: where the next is taken, what Free makes of them. No condition. -/
import Derived.Test.YtpbalilnemjeeaaGF
namespace Go.Proofs.Ytpbalilnemjeeaa
set_option linter.unusedVariables false
set_option linter.unusedSimpArgs false
open Go.RowKit Pm Pa
def rowP (c : Nat) (b : Nat → Bool) (n : Nat) : Parts := (List.range n).map fun i => (c, b i)
def setB (b : Nat → Bool) (i : Nat) (v : Bool) : Nat → Bool := fun j => if j = i then v else b j
theorem rowP_len (c : Nat) (b : Nat → Bool) (n : Nat) : (rowP c b n).length = n := by simp [rowP]
theorem rowP_succ (c : Nat) (b : Nat → Bool) (n : Nat) : rowP c b (n + 1) = rowP c b n ++ [(c, b n)] := by simp [rowP, List.range_succ]
theorem rowP_get (c : Nat) (b : Nat → Bool) (n i : Nat) : (rowP c b n)[i]? = if i < n then some (c, b i) else none := by
  unfold rowP
  rw [List.getElem?_map]
  by_cases h : i < n
  · rw [if_pos h, List.getElem?_range h]; rfl
  · rw [if_neg h, List.getElem?_eq_none (by simpa using h)]; rfl
theorem rowP_congr (c : Nat) (b b' : Nat → Bool) (n : Nat) (h : ∀ i, i < n → b i = b' i) : rowP c b n = rowP c b' n := by
  refine List.ext_getElem? fun i => ?_
  rw [rowP_get, rowP_get]
  by_cases e : i < n
  · rw [if_pos e, if_pos e, h i e]
  · rw [if_neg e, if_neg e]
theorem total_rowP (c : Nat) (b : Nat → Bool) (n : Nat) : total (rowP c b n) = n * c := by
  induction n with
  | zero => simp [rowP, total]
  | succ n ih => rw [rowP_succ, total_app, ih]; simp [total, Nat.add_mul]
theorem end_rowP (c : Nat) (b : Nat → Bool) (n : Nat) : endOf (rowP c b n) = 16 + n * c := by unfold endOf; rw [total_rowP]
theorem rowP_split (c : Nat) (b : Nat → Bool) (n i : Nat) (h : i < n) : ∃ t, (∀ v, rowP c (setB b i v) n = rowP c b i ++ (c, v) :: t) ∧ rowP c b n = rowP c b i ++ (c, b i) :: t := by
  have key : ∀ v, rowP c (setB b i v) n = rowP c b i ++ (c, v) :: (rowP c b n).drop (i + 1) := by
    intro v
    refine List.ext_getElem? fun j => ?_
    rw [rowP_get, List.getElem?_append, rowP_len, rowP_get]
    by_cases h1 : j < i
    · rw [if_pos h1, if_pos (by omega), if_pos h1]; unfold setB; rw [if_neg (by omega)]
    · rw [if_neg h1]
      by_cases h2 : j = i
      · subst h2; rw [if_pos h, Nat.sub_self]; unfold setB; rw [if_pos rfl]; rfl
      · rw [show j - i = (j - i - 1) + 1 by omega, List.getElem?_cons_succ, List.getElem?_drop, rowP_get, show i + 1 + (j - i - 1) = j by omega]
        by_cases h3 : j < n
        · rw [if_pos h3, if_pos h3]; unfold setB; rw [if_neg h2]
        · rw [if_neg h3, if_neg h3]
  refine ⟨_, key, ?_⟩
  rw [← key (b i)]
  exact rowP_congr c _ _ n fun j _ => by unfold setB; split <;> simp_all
theorem dead_rowP (c : Nat) (b : Nat → Bool) (n : Nat) (h : ∀ i, i < n → b i = true) (o : Nat) (k : Int) : deadFrom o (rowP c b n) k = [] := by
  have key : ∀ (l : Parts) (o : Nat), (∀ y ∈ l, y.2 = true) → deadFrom o l k = [] := by
    intro l
    induction l with
    | nil => intro o _; rfl
    | cons y t ih =>
      intro o hl
      obtain ⟨c', l'⟩ := y
      have : l' = true := hl (c', l') (by simp)
      subst this
      simp only [deadFrom]
      rw [if_neg (by simp)]
      exact ih _ fun z hz => hl z (List.mem_cons_of_mem _ hz)
  refine key _ o fun y hy => ?_
  obtain ⟨i, hi, rfl⟩ := List.mem_map.1 hy
  exact h i (by simpa using hi)
theorem live_rowP (c : Nat) (b : Nat → Bool) (n : Nat) (h : ∀ i, i < n → b i = true) : liveSum (rowP c b n) = n * c := by
  induction n with
  | zero => simp [rowP, liveSum]
  | succ n ih =>
    rw [rowP_succ, h n (by omega), liveSum_app, ih (fun i hi => h i (by omega)), Nat.add_mul, Nat.one_mul]
/-- all live: the next lies behind all -/
theorem take_all (c : Nat) (b : Nat → Bool) (n : Nat) (h : ∀ i, i < n → b i = true) (hn : b n = true) : takeP (rowP c b n) c = rowP c b (n + 1) ∧ takeAt (rowP c b n) c = 16 + n * c := by
  have hd := dead_rowP c b n h 16 (c : Int)
  refine ⟨by rw [takeP_new 16 _ c hd, rowP_succ, hn], ?_⟩
  unfold takeAt
  rw [hd, ← end_rowP c b n]; rfl
/-- the lowest dead one is taken -/
theorem take_low (c : Nat) (b : Nat → Bool) (n i : Nat) (hi : i < n) (h : ∀ j, j < i → b j = true) (hb : b i = false) : takeP (rowP c b n) c = rowP c (setB b i true) n ∧ takeAt (rowP c b n) c = 16 + i * c ∧ liveSum (rowP c b n) + c ≤ n * c := by
  obtain ⟨t, h1, h2⟩ := rowP_split c b n i hi
  rw [hb] at h2
  have hd := dead_rowP c b i h 16 (c : Int)
  refine ⟨by rw [h2, h1, takeP_old 16 _ _ c hd], ?_, ?_⟩
  · rcases take_case (rowP c b n) c with ⟨e, _⟩ | ⟨a', b', e0, e1, _, e2, _⟩
    · rw [h2, dead_dead, if_pos rfl, hd] at e; cases e
    · unfold takeAt
      rw [h2, dead_dead, if_pos rfl, hd, List.nil_append, end_rowP]; rfl
  · have h3 := total_rowP c b n
    rw [h2, total_app, total_cons] at h3
    rw [h2, liveSum_split]
    have h4 := liveSum_le (rowP c b i)
    have h5 := liveSum_le t
    simp only [liveSum] at *
    simp at *
    omega
theorem free_rowP (c : Nat) (hc : 1 ≤ c) (b : Nat → Bool) (n i : Nat) (hi : i < n) (hb : b i = true) (E : Int) (hE : E = ((16 + i * c : Nat) : Int)) : freeP (rowP c b n) E = rowP c (setB b i false) n ∧ (sizeFrom 16 (rowP c b n) E).isSome = true := by
  subst hE
  obtain ⟨t, h1, h2⟩ := rowP_split c b n i hi
  rw [hb] at h2
  have ha : ∀ y ∈ rowP c b i, 1 ≤ y.1 := fun y hy => by
    obtain ⟨j, _, rfl⟩ := List.mem_map.1 hy
    exact hc
  have e : ((16 + i * c : Nat) : Int) = ((endOf (rowP c b i) : Nat) : Int) := by rw [end_rowP]
  rw [e, h2, h1]
  exact ⟨freeP_split _ _ c ha, by rw [size_here _ _ c ha hc]; rfl⟩
end Go.Proofs.Ytpbalilnemjeeaa
