/- What is proved here: plain facts on eight cells beside a control word. No condition. -/
import Derived.Test.YtakmaedimelaaaaDoorCFirst
import Derived.Test.YtakmaedimelaaaaDoorBlk
set_option linter.unusedVariables false
set_option linter.unusedSimpArgs false
namespace Go.Proofs.YtakmaedimelaaaaDoor
open Go.RowKit Pl
def ci (cs : List Int) : Array Value := (cs.map (Value.int .i64)).toArray
theorem ci_get? (cs : List Int) (i : Nat) : (ci cs)[i]? = (cs[i]?).map (Value.int .i64) := by simp [ci]
theorem ci_set (cs : List Int) (i : Nat) (c : Int) : (ci cs).setIfInBounds i (.int .i64 c) = ci (cs.set i c) := by
  apply Array.ext'
  simp [ci, List.map_set]
namespace Pl
def cwd (c : Int) : Nat := if c = -1 then 128 else if c = -2 then 254 else c.toNat
theorem cwd_lt {c : Int} (h1 : -2 ≤ c) (h2 : c ≤ 127) : cwd c < 256 := by unfold cwd; split; omega; split <;> omega
/-- the cells are what the word's bytes say -/
structure OkC (cs : List Int) (x : Nat) : Prop where
  len : cs.length = 8
  lt : x < 18446744073709551616
  bd : ∀ (i : Nat) (c : Int), cs[i]? = some c → -2 ≤ c ∧ c ≤ 127
  by' : ∀ (i : Nat) (c : Int), cs[i]? = some c → byt x i = cwd c
section
variable {cs : List Int} {x i : Nat} {c : Int}
theorem OkC.ful (h : OkC cs x) (hc : cs[i]? = some c) : ful x i = decide (0 ≤ c) := by
  have := h.bd i c hc
  unfold Pl.ful; rw [h.by' i c hc]; unfold cwd
  by_cases h1 : c = -1
  · subst h1; simp
  by_cases h2 : c = -2
  · subst h2; simp
  rw [if_neg h1, if_neg h2]; simp; omega
theorem OkC.emp (h : OkC cs x) (hc : cs[i]? = some c) : mat x 128 i = decide (c = -1) := by
  have := h.bd i c hc
  unfold mat; rw [h.by' i c hc]; unfold cwd
  rw [Bool.eq_iff_iff]
  by_cases h1 : c = -1
  · subst h1; simp
  by_cases h2 : c = -2
  · subst h2; simp
  rw [if_neg h1, if_neg h2]; simp; omega
theorem OkC.vac (h : OkC cs x) (hc : cs[i]? = some c) : vac x i = decide (c < 0) := by
  have := h.bd i c hc
  unfold Pl.vac mat; rw [h.by' i c hc]; unfold cwd
  rw [Bool.eq_iff_iff]
  by_cases h1 : c = -1
  · subst h1; simp
  by_cases h2 : c = -2
  · subst h2; simp
  rw [if_neg h1, if_neg h2]; simp; omega
theorem OkC.mat (h : OkC cs x) (hc : cs[i]? = some c) (t : Int) : matF x t i = (decide (0 ≤ c) && decide (c = t)) := by
  have := h.bd i c hc
  unfold matF; rw [h.by' i c hc]; unfold cwd
  rw [Bool.eq_iff_iff]
  by_cases h1 : c = -1
  · subst h1; simp; omega
  by_cases h2 : c = -2
  · subst h2; simp; omega
  rw [if_neg h1, if_neg h2]; simp; omega
theorem OkC.get (h : OkC cs x) (hi : i < 8) (hc : cs[i]? = some c) (h0 : 0 ≤ c) : getF x i = c := by
  unfold getF; rw [if_pos (by omega)]
  have := h.by' i c hc
  rw [Int.toNat_natCast, this]; unfold cwd; rw [if_neg (by omega), if_neg (by omega)]; omega
theorem OkC.set (h : OkC cs x) (hi : i < 8) (c : Int) (k : Nat) (h1 : -2 ≤ c) (h2 : c ≤ 127) (hk : k = cwd c) : OkC (cs.set i c) (setN x i k) := by
  subst hk
  refine ⟨by simpa using h.len, setN_lt (cwd_lt h1 h2) hi, fun j d hj => ?_, fun j d hj => ?_⟩
  · rw [List.getElem?_set] at hj
    split at hj
    · split at hj
      · obtain rfl := Option.some.inj hj; exact ⟨h1, h2⟩
      · cases hj
    · exact h.bd j d hj
  · have hj8 : j < 8 := by have := (List.getElem?_eq_some_iff.1 hj).1; simp [h.len] at this; omega
    rw [byt_setN (cwd_lt h1 h2) hi hj8]
    rw [List.getElem?_set] at hj
    split at hj
    · subst i
      split at hj
      · obtain rfl := Option.some.inj hj; rw [if_pos rfl]
      · cases hj
    · rw [if_neg (by omega)]; exact h.by' j d hj
/-- behind Clear -/
theorem OkC.clr (h : OkC cs x) : OkC (cs.map fun c => if c = -2 then -1 else c) (clr x) := by
  refine ⟨by simpa using h.len, clr_lt h.lt, fun j d hj => ?_, fun j d hj => ?_⟩
  · rw [List.getElem?_map] at hj
    obtain ⟨c, hc, rfl⟩ := Option.map_eq_some_iff.1 hj
    have := h.bd j c hc
    split <;> omega
  · have hj8 : j < 8 := by have := (List.getElem?_eq_some_iff.1 hj).1; simp [h.len] at this; omega
    rw [List.getElem?_map] at hj
    obtain ⟨c, hc, rfl⟩ := Option.map_eq_some_iff.1 hj
    have := h.bd j c hc
    rw [byt_clr x hj8, h.by' j c hc]
    unfold cwd
    by_cases h1 : c = -1
    · subst h1; simp
    · by_cases h2 : c = -2
      · subst h2; simp
      · rw [if_neg h1, if_neg h2, if_neg (by omega), if_neg h2, if_neg h1, if_neg h2]
end
theorem OkC.cnt {cs : List Int} {x : Nat} (h : OkC cs x) : cnt (Pl.ful x) + cnt (Pl.vac x) = 8 := by
  have hp : ∀ i, i < 8 → (Pl.ful x i).toNat + (Pl.vac x i).toNat = 1 := by
    intro i hi
    have hc : cs[i]? = some (cs[i]'(by rw [h.len]; exact hi)) := List.getElem?_eq_getElem _
    rw [h.ful hc, h.vac hc]
    by_cases h0 : 0 ≤ cs[i]'(by rw [h.len]; exact hi)
    · simp [h0, show ¬ (cs[i]'(by rw [h.len]; exact hi) < 0) by omega]
    · simp [h0, show (cs[i]'(by rw [h.len]; exact hi) < 0) by omega]
  have := hp 0 (by decide); have := hp 1 (by decide); have := hp 2 (by decide); have := hp 3 (by decide)
  have := hp 4 (by decide); have := hp 5 (by decide); have := hp 6 (by decide); have := hp 7 (by decide)
  unfold Pl.cnt; omega
/-- the first cell that is not full -/
def gap (cs : List Int) : Nat := cs.findIdx fun c => decide (c < 0)
theorem OkC.gap {cs : List Int} {x : Nat} (h : OkC cs x) (k : Nat) (hk : k ≤ 8) (h1 : ∀ (i : Nat) (c : Int), i < k → cs[i]? = some c → 0 ≤ c) (h2 : ∀ c : Int, cs[k]? = some c → c < 0) : fst (Pl.vac x) = k := by
  have hat : ∀ i : Nat, i < 8 → ∃ c : Int, cs[i]? = some c := fun i hi => ⟨_, List.getElem?_eq_getElem (by rw [h.len]; exact hi)⟩
  refine fst_eq _ k hk (fun i hi => ?_) (fun hk8 => ?_)
  · obtain ⟨c, hc⟩ := hat i (by omega)
    rw [h.vac hc]; have := h1 i c hi hc; simp; omega
  · obtain ⟨c, hc⟩ := hat k hk8
    rw [h.vac hc]; have := h2 c hc; simp; omega
theorem OkC.start : OkC (List.replicate 8 (-1)) 9259542123273814144 := by
  refine ⟨rfl, by decide, fun i c hc => ?_, fun i c hc => ?_⟩
  · rw [List.getElem?_replicate] at hc; split at hc
    · obtain rfl := Option.some.inj hc; decide
    · cases hc
  · rw [List.getElem?_replicate] at hc; split at hc
    · rename_i hi
      obtain rfl := Option.some.inj hc
      rw [byt128 hi]; rfl
    · cases hc
theorem map_step (f : Int → Int) (cs : List Int) (k : Nat) (c : Int) (hc : cs[k]? = some c) : (cs.take (k + 1)).map f ++ cs.drop (k + 1) = ((cs.take k).map f ++ cs.drop k).set k (f c) := by
  obtain ⟨hk, rfl⟩ := List.getElem?_eq_some_iff.1 hc
  have hl : ((cs.take k).map f).length = k := by simp; omega
  rw [List.set_append_right _ _ (by rw [hl]; exact Nat.le_refl _), hl, Nat.sub_self, List.drop_eq_getElem_cons hk, List.set_cons_zero, List.take_add_one, List.getElem?_eq_getElem hk, List.map_append, List.append_assoc]
  rfl
theorem map_mid (f : Int → Int) (cs : List Int) (k : Nat) (c : Int) (hc : cs[k]? = some c) : ((cs.take k).map f ++ cs.drop k)[k]? = some c := by
  obtain ⟨hk, rfl⟩ := List.getElem?_eq_some_iff.1 hc
  have hl : ((cs.take k).map f).length = k := by simp; omega
  rw [List.getElem?_append_right (by rw [hl]; exact Nat.le_refl _), hl, Nat.sub_self, List.drop_eq_getElem_cons hk]
  rfl
theorem set_same (l : List Int) (k : Nat) (c : Int) (h : l[k]? = some c) : l.set k c = l := by
  obtain ⟨hk, rfl⟩ := List.getElem?_eq_some_iff.1 h
  exact List.set_getElem_self hk
theorem OkC.emp_pos {cs : List Int} {x : Nat} (h : OkC cs x) : 0 < Pl.cnt (Pl.mat x 128) ∨ Pl.cnt (Pl.mat x 128) = 0 := by omega
end Pl
end Go.Proofs.YtakmaedimelaaaaDoor
