/- What is proved here: blocks of given sizes, some of them freed; where they begin; a book of the live ones, and which spans are inside one. No condition, no program. -/
import Derived.Test.YtpbalilnemjeeaaGF
import Derived.Test.YtpbalilnemjeeaaALowL
namespace Go.Proofs.Ytpbalilnemjeeaa
set_option linter.unusedVariables false
set_option linter.unusedSimpArgs false
open Go.RowKit Pm Pa Pl
namespace Pa
def partsB (zs : List Int) (b : Nat → Bool) : Parts := (List.range zs.length).map fun i => (clsN (zs.getD i 0), b i)
theorem partsB_len (zs : List Int) (b : Nat → Bool) : (partsB zs b).length = zs.length := by simp [partsB]
theorem partsB_get (zs : List Int) (b : Nat → Bool) (i : Nat) : (partsB zs b)[i]? = if i < zs.length then some (clsN (zs.getD i 0), b i) else none := by
  unfold partsB
  rw [List.getElem?_map]
  by_cases h : i < zs.length
  · rw [if_pos h, List.getElem?_range h]; rfl
  · rw [if_neg h, List.getElem?_eq_none (by simpa using h)]; rfl
theorem partsB_congr (zs : List Int) (b b' : Nat → Bool) (h : ∀ i, i < zs.length → b i = b' i) : partsB zs b = partsB zs b' := by
  refine List.ext_getElem? fun i => ?_
  rw [partsB_get, partsB_get]
  by_cases e : i < zs.length
  · rw [if_pos e, if_pos e, h i e]
  · rw [if_neg e, if_neg e]
theorem partsB_news (zs : List Int) : partsB zs (fun _ => true) = news zs := by
  refine List.ext_getElem? fun i => ?_
  rw [partsB_get]
  unfold news
  rw [List.getElem?_map]
  by_cases e : i < zs.length
  · rw [if_pos e, List.getD_eq_getElem?_getD, List.getElem?_eq_getElem e]; rfl
  · rw [if_neg e, List.getElem?_eq_none (by omega)]; rfl
theorem partsB_fst (zs : List Int) (b b' : Nat → Bool) : (partsB zs b).map (·.1) = (partsB zs b').map (·.1) := by
  unfold partsB
  rw [List.map_map, List.map_map]; rfl
/-- where block i begins -/
def SI (zs : List Int) (i : Nat) : Nat := stOf (news zs) i
theorem SI_of (zs : List Int) (b : Nat → Bool) (i : Nat) : stOf (partsB zs b) i = SI zs i := by
  unfold SI
  rw [← partsB_news]
  exact stOf_fst (partsB_fst zs b (fun _ => true)) i
theorem SI_end (zs : List Int) (k : Nat) (hk : k ≤ zs.length) : endOf (news (zs.take k)) = SI zs k := by
  unfold SI stOf endOf news
  rw [List.map_take]
theorem take_news (zs : List Int) (k : Nat) (n : Int) (hk : zs[k]? = some n) : takeP (news (zs.take k)) (clsN n) = news (zs.take (k + 1)) ∧ takeAt (news (zs.take k)) (clsN n) = SI zs k := by
  have hnd : noDead (news (zs.take k)) := by
    have := noDead_news [] (fun a ha => by cases ha) (zs.take k)
    simpa using this
  have hd := dead_none 16 _ hnd ((clsN n : Nat) : Int)
  refine ⟨?_, ?_⟩
  · rw [takeP_new 16 _ _ hd, take_snoc zs k n hk, news_app]
  · unfold takeAt
    rw [hd]
    exact SI_end zs k (by have := (List.getElem?_eq_some_iff.1 hk).1; omega)
theorem live_partsNews (zs : List Int) : liveSum (news zs) = need zs := by
  have := live_news [] zs
  simpa [liveSum] using this
/-- block k is freed -/
theorem free_partsB (zs : List Int) (hz : ∀ z ∈ zs, 1 ≤ z ∧ z ≤ 4096) (b : Nat → Bool) (k : Nat) (hk : k < zs.length) : freeP (partsB zs b) ((SI zs k : Nat) : Int) = partsB zs (setB b k false) := by
  have hp : ∀ y ∈ partsB zs b, 16 ≤ y.1 := fun y hy => by
    obtain ⟨i, hi, rfl⟩ := List.mem_map.1 hy
    have hi2 : i < zs.length := by simpa using hi
    have hzi := hz (zs.getD i 0) (by rw [List.getD_eq_getElem?_getD, List.getElem?_eq_getElem hi2]; exact List.getElem_mem hi2)
    exact (clsN_is (by omega)).2.1
  refine List.ext_getElem? fun i => ?_
  unfold freeP
  rw [deadP_get 16 _ (fun y hy => by have := hp y hy; omega), partsB_get, partsB_get]
  by_cases e : i < zs.length
  · rw [if_pos e, if_pos e, Option.map_some]
    have h1 : 16 + total ((partsB zs b).take i) = SI zs i := SI_of zs b i
    rw [h1]
    unfold setB
    by_cases e2 : i = k
    · subst e2; rw [if_pos rfl, if_pos rfl]
    · rw [if_neg e2, if_neg]
      intro e3
      have e4 : SI zs k = SI zs i := by exact_mod_cast e3
      rw [← SI_of zs b, ← SI_of zs b] at e4
      rcases Nat.lt_or_gt_of_ne e2 with e5 | e5
      · have := st_lt _ hp i k e5 (by rw [partsB_len]; omega); omega
      · have := st_lt _ hp k i e5 (by rw [partsB_len]; omega); omega
  · rw [if_neg e, if_neg e]; rfl
theorem size_partsB (zs : List Int) (hz : ∀ z ∈ zs, 1 ≤ z ∧ z ≤ 4096) (b : Nat → Bool) (k : Nat) (hk : k < zs.length) (hb : b k = true) : (sizeFrom 16 (partsB zs b) ((SI zs k : Nat) : Int)).isSome = true := by
  have hp : ∀ y ∈ partsB zs b, 1 ≤ y.1 := fun y hy => by
    obtain ⟨i, hi, rfl⟩ := List.mem_map.1 hy
    have hi2 : i < zs.length := by simpa using hi
    have hzi := hz (zs.getD i 0) (by rw [List.getD_eq_getElem?_getD, List.getElem?_eq_getElem hi2]; exact List.getElem_mem hi2)
    have := (clsN_is (n := zs.getD i 0) (by omega)).2.1
    show 1 ≤ clsN (zs.getD i 0)
    omega
  have h := sizeFrom_at 16 (partsB zs b) hp k (clsN (zs.getD k 0)) (b k) (by rw [partsB_get, if_pos hk])
  have h1 : 16 + total ((partsB zs b).take k) = SI zs k := SI_of zs b k
  rw [h1, hb] at h
  rw [h]; rfl
/-- which blocks are live when k have been looked at -/
def bK (D k : Nat) : Nat → Bool := fun i => !(decide (i < k) && hole D i)
theorem bK_zero (D : Nat) : bK D 0 = fun _ => true := by funext i; simp [bK]
theorem bK_in (D k : Nat) : bK D k k = true := by simp [bK]
theorem bK_stay (D k : Nat) (h : hole D k = false) (i : Nat) : bK D (k + 1) i = bK D k i := by
  unfold bK
  by_cases e : i = k
  · subst e; simp [h]
  · have : decide (i < k + 1) = decide (i < k) := by simp; omega
    rw [this]
theorem bK_free (D k : Nat) (h : hole D k = true) : bK D (k + 1) = setB (bK D k) k false := by
  funext i
  unfold bK setB
  by_cases e : i = k
  · subst e; simp [h]
  · rw [if_neg e]
    have : decide (i < k + 1) = decide (i < k) := by simp; omega
    rw [this]
/-- the book of the live ones among the first k -/
def BL (zs : List Int) (D k : Nat) : List (Nat × Nat) := ((List.range k).filter fun i => !hole D i).map fun i => (SI zs i, clsN (zs.getD i 0))
theorem BL_succ (zs : List Int) (D k : Nat) : BL zs D (k + 1) = if hole D k = true then BL zs D k else BL zs D k ++ [(SI zs k, clsN (zs.getD k 0))] := by
  unfold BL
  rw [List.range_succ, List.filter_append, List.map_append]
  by_cases h : hole D k = true
  · rw [if_pos h]; simp [h]
  · rw [if_neg h]; simp [h]
theorem BL_len (zs : List Int) (D k : Nat) : (BL zs D k).length ≤ k := by
  unfold BL
  rw [List.length_map]
  exact Nat.le_trans (List.length_filter_le _ _) (by simp)
def hC (e : Nat × Nat) : List Value := [.int .i64 (e.1 : Int), .int .i64 (e.2 : Int), .int .u8 0]
def bkC (l : List (Nat × Nat)) : List Value := (l.map hC).flatten
theorem bkC_snoc (l : List (Nat × Nat)) (e : Nat × Nat) : bkC (l ++ [e]) = bkC l ++ hC e := by simp [bkC]
theorem bkC_len (l : List (Nat × Nat)) : (bkC l).length = l.length * 3 := by
  induction l with
  | nil => rfl
  | cons e t ih =>
    have h : bkC (e :: t) = hC e ++ bkC t := rfl
    rw [h, List.length_append, ih, List.length_cons]
    have : (hC e).length = 3 := rfl
    omega
theorem bkC_get (l : List (Nat × Nat)) (j t : Nat) (e : Nat × Nat) (hj : l[j]? = some e) (ht : t < 3) : (bkC l)[j * 3 + t]? = (hC e)[t]? := by
  induction l generalizing j with
  | nil => simp at hj
  | cons d r ih =>
    have h : bkC (d :: r) = hC d ++ bkC r := rfl
    have h3 : (hC d).length = 3 := rfl
    rw [h]
    cases j with
    | zero =>
      simp at hj
      subst hj
      rw [Nat.zero_mul, Nat.zero_add, List.getElem?_append_left (by omega)]
    | succ j =>
      rw [List.getElem?_append_right (by omega), h3, show (j + 1) * 3 + t - 3 = j * 3 + t by omega]
      exact ih j (by simpa using hj)
/-- is the span inside that block? -/
def hitB (off n : Int) (e : Nat × Nat) : Bool := decide (0 ≤ n) && decide (n ≤ e.2) && decide ((e.1 : Int) ≤ off) && decide (off - e.1 ≤ e.2 - n)
theorem hitB_iff (off n : Int) (e : Nat × Nat) : hitB off n e = true ↔ 0 ≤ n ∧ n ≤ e.2 ∧ (e.1 : Int) ≤ off ∧ off - e.1 ≤ e.2 - n := by
  unfold hitB
  simp [and_assoc]
theorem hit_in (zs : List Int) (D : Nat) (off n : Int) : (BL zs D zs.length).any (hitB off n) = true ↔ InP (partsB zs (bK D zs.length)) off n := by
  rw [List.any_eq_true]
  constructor
  · rintro ⟨e, he, hh⟩
    obtain ⟨i, hi, rfl⟩ := List.mem_map.1 he
    obtain ⟨hi1, hi2⟩ := List.mem_filter.1 hi
    have hi3 : i < zs.length := by simpa using hi1
    have hi4 : hole D i = false := by simpa using hi2
    obtain ⟨h1, h2, h3, h4⟩ := (hitB_iff _ _ _).1 hh
    simp only [] at h2 h3 h4
    refine ⟨off.toNat, n.toNat, by omega, by omega, i, clsN (zs.getD i 0), ?_, ?_, ?_⟩
    · rw [partsB_get, if_pos hi3]; simp [bK, hi4]
    · rw [SI_of]; omega
    · rw [SI_of]; omega
  · rintro ⟨o, k, rfl, rfl, i, c, hi, h1, h2⟩
    rw [partsB_get] at hi
    by_cases hi3 : i < zs.length
    · rw [if_pos hi3] at hi
      obtain ⟨rfl, hb⟩ := Prod.mk.inj (Option.some.inj hi)
      rw [SI_of] at h1 h2
      refine ⟨(SI zs i, clsN (zs.getD i 0)), List.mem_map.2 ⟨i, List.mem_filter.2 ⟨by simpa using hi3, ?_⟩, rfl⟩, (hitB_iff _ _ _).2 ⟨?_, ?_, ?_, ?_⟩⟩
      · simp [bK, hi3] at hb; simp [hb]
      · omega
      · simp only []; omega
      · simp only []; omega
      · simp only []; omega
    · rw [if_neg hi3] at hi; cases hi
end Pa
end Go.Proofs.Ytpbalilnemjeeaa
