/- What is proved here: parts that are freed, and what an arena is behind it. Conditions: the arena is there. -/
import Derived.Test.YtpbalilnemjeeaaAFreePut
namespace Go.Proofs.Ytpbalilnemjeeaa
set_option linter.unusedVariables false
set_option linter.unusedSimpArgs false
open Go.RowKit Pm Pa
/-- the part that begins at k is dead -/
def deadP (o : Nat) : Parts → Int → Parts
  | [], _ => []
  | y :: t, k => if k = (o : Int) then (y.1, false) :: t else y :: deadP (o + y.1) t k
def freeP (ps : Parts) (k : Int) : Parts := deadP 16 ps k
def freesP (ps : Parts) (l : List Int) : Parts := l.foldl freeP ps
theorem freesP_snoc (ps : Parts) (l : List Int) (k : Int) : freesP ps (l ++ [k]) = freeP (freesP ps l) k := by simp [freesP]
theorem deadP_fst (o : Nat) (ps : Parts) (k : Int) : (deadP o ps k).map (·.1) = ps.map (·.1) := by
  induction ps generalizing o with
  | nil => rfl
  | cons y t ih =>
    unfold deadP
    by_cases e : k = (o : Int)
    · rw [if_pos e]; rfl
    · rw [if_neg e, List.map_cons, List.map_cons, ih]
theorem freesP_fst (ps : Parts) (l : List Int) : (freesP ps l).map (·.1) = ps.map (·.1) := by
  induction l generalizing ps with
  | nil => rfl
  | cons k l ih => show (freesP (freeP ps k) l).map (·.1) = _; rw [ih]; exact deadP_fst 16 ps k
theorem pos_fst {ps qs : Parts} (h : qs.map (·.1) = ps.map (·.1)) {P : Nat → Prop} (hp : ∀ y ∈ ps, P y.1) : ∀ y ∈ qs, P y.1 := by
  intro y hy
  have h1 : y.1 ∈ qs.map (·.1) := List.mem_map.2 ⟨y, hy, rfl⟩
  rw [h] at h1
  obtain ⟨z, hz, e⟩ := List.mem_map.1 h1
  exact e ▸ hp z hz
theorem size_deadP (o : Nat) (ps : Parts) (hp : ∀ y ∈ ps, 1 ≤ y.1) (k j : Int) : sizeFrom o (deadP o ps k) j = if j = k then none else sizeFrom o ps j := by
  induction ps generalizing o with
  | nil => simp [deadP, sizeFrom]
  | cons y t ih =>
    obtain ⟨c, l⟩ := y
    unfold deadP
    by_cases e : k = (o : Int)
    · rw [if_pos e]
      subst e
      simp only [sizeFrom]
      by_cases e2 : j = (o : Int)
      · simp [e2]
      · simp [e2]
    · rw [if_neg e]
      simp only [sizeFrom]
      rw [ih (o + c) (fun y hy => hp y (List.mem_cons_of_mem _ hy))]
      by_cases e2 : j = (o : Int)
      · subst e2
        simp [show ¬ ((o : Int) = k) from fun h => e h.symm]
      · rw [if_neg e2, if_neg e2]
theorem size_freesP (ps : Parts) (hp : ∀ y ∈ ps, 1 ≤ y.1) (l : List Int) (j : Int) : sizeFrom 16 (freesP ps l) j = if j ∈ l then none else sizeFrom 16 ps j := by
  induction l generalizing ps with
  | nil => simp [freesP]
  | cons k l ih =>
    show sizeFrom 16 (freesP (freeP ps k) l) j = _
    rw [ih (freeP ps k) (pos_fst (deadP_fst 16 ps k) hp)]
    unfold freeP
    rw [size_deadP 16 ps hp k j]
    by_cases e : j ∈ l
    · rw [if_pos e, if_pos (List.mem_cons_of_mem _ e)]
    · rw [if_neg e]
      by_cases e2 : j = k
      · rw [if_pos e2, if_pos (by rw [e2]; exact List.mem_cons_self)]
      · rw [if_neg e2, if_neg (by simp [e, e2])]
theorem freeP_split (a b : Parts) (c : Nat) (ha : ∀ y ∈ a, 1 ≤ y.1) : freeP (a ++ (c, true) :: b) ((endOf a : Nat) : Int) = a ++ (c, false) :: b := by
  have key : ∀ (o : Nat) (a : Parts), (∀ y ∈ a, 1 ≤ y.1) → deadP o (a ++ (c, true) :: b) ((o + total a : Nat) : Int) = a ++ (c, false) :: b := by
    intro o a
    induction a generalizing o with
    | nil => intro _; simp [deadP, total]
    | cons y t ih =>
      intro ht
      have h1 := ht y (by simp)
      rw [List.cons_append, total_cons]
      unfold deadP
      rw [if_neg (by omega)]
      have h2 := ih (o + y.1) (fun z hz => ht z (List.mem_cons_of_mem _ hz))
      rw [show o + (y.1 + total t) = o + y.1 + total t by omega, h2]
      rfl
  exact key 16 a ha
theorem Held.fst {lim : Nat} {ps qs : Parts} (hF : Held lim ps) (h : qs.map (·.1) = ps.map (·.1)) : Held lim qs := by
  refine ⟨pos_fst (P := fun c => c ∈ classes) h hF.cl, fun c => ?_⟩
  have key : ∀ (ps qs : Parts), qs.map (·.1) = ps.map (·.1) → clsSum qs c = clsSum ps c := by
    intro ps
    induction ps with
    | nil => intro qs h; rw [List.map_nil, List.map_eq_nil_iff] at h; rw [h]
    | cons y t ih =>
      intro qs h
      cases qs with
      | nil => simp at h
      | cons z s =>
        simp only [List.map_cons, List.cons.injEq] at h
        rw [clsSum_cons, clsSum_cons, ih s h.2, h.1]
  rw [key ps qs h]
  exact hF.sum c
/-- what an arena is when one of its blocks has been freed -/
theorem freed {w w1 w3 w4 w5 : World} {p c : Nat} {x : Loc} {lim : Nat} {a b : Parts} {L : List UInt8} {u v : Value} {V : Int} (h : ArAt w p x lim (a ++ (c, true) :: b) L)
    (hs1 : SM w1 x.bs (a ++ (c, true) :: b).length (upd (szF (a ++ (c, true) :: b)) ((endOf a : Nat) : Int) none)) (t1 : Turns [x.bs] w w1) (hV : V = (liveSum (a ++ (c, true) :: b) : Int) - c)
    (t3 : Turns [] (w1.setCell ⟨p, 1, none⟩ (.int .i64 V)) w3) (hu : ∀ g, g ∈ rows u → g ∈ x.fb) (t4 : Turns (rows u) w3 w4) (hv : ∀ g, g ∈ rows v → g ∈ rows u ∨ (w3.heap.size ≤ g ∧ g < w4.heap.size)) (t5 : Turns [x.bf] w4 w5)
    (hfr : FreeAt w5 x.bf (a ++ (c, false) :: b) (rows v ++ x.fb)) :
    ∃ x', ArAt w5 p x' lim (a ++ (c, false) :: b) L ∧ Turns (x.all p) w w5 ∧ ∀ k, k ∈ x'.all p → k ∈ x.all p ∨ w.heap.size ≤ k := by
  have hpos := h.pos
  have hc := hpos (c, true) (by simp)
  simp only [] at hc
  have hposa : ∀ y ∈ a, 1 ≤ y.1 := fun y hy => by have := (hpos y (by simp [hy])).1; omega
  obtain ⟨lab, l0, l1, l2, l3, l4, l5, l6, l7⟩ := id h.nd
  have t2 : Turns [p] w1 (w1.setCell ⟨p, 1, none⟩ (.int .i64 V)) := (Turns.refl _ _).set p 1 _ (.inl (by simp))
  have s1 : ∀ k, k ∈ [x.bs] → lab k = 3 := by simp [l3]
  have s2 : ∀ k, k ∈ [p] → lab k = 0 := by simp [l0]
  have s4 : ∀ k, k ∈ rows u → lab k = 7 := fun k hk => l7 k (hu k hk)
  have s5 : ∀ k, k ∈ [x.bf] → lab k = 4 := by simp [l4]
  have hd1 := h.hd.turn t1 (fun hk => by have := s1 _ hk; omega)
  have hd2 := hd1.set 1 (.int .i64 V)
  have hd5 := ((hd2.turn t3 (by simp)).turn t4 (fun hk => by have := s4 _ hk; omega)).turn t5 (fun hk => by have := s5 _ hk; omega)
  have hrow : ∀ {size n : Nat} {v : Value} {xs : List Value}, w.ownsRow 0 3 size v n xs → (∀ g, g ∈ rows v → lab g = 5 ∨ lab g = 6) → w5.ownsRow 0 3 size v n xs := by
    intro size n v xs hr hl
    refine row_turn (row_turn (row_turn (row_turn (row_turn hr t1 ?_) t2 ?_) t3 ?_) t4 ?_) t5 ?_
    · intro g hg hk; have := hl g hg; have := s1 g hk; omega
    · intro g hg hk; have := hl g hg; have := s2 g hk; omega
    · simp
    · intro g hg hk; have := hl g hg; have := s4 g hk; omega
    · intro g hg hk; have := hl g hg; have := s5 g hk; omega
  have hsz : w.heap.size ≤ w3.heap.size := Nat.le_trans t1.size (Nat.le_trans t2.size t3.size)
  have hs35 : w3.heap.size ≤ w5.heap.size := Nat.le_trans t4.size t5.size
  have hvf : ∀ g, g ∈ rows v → g ∈ x.fb ∨ (w.heap.size ≤ g ∧ g < w5.heap.size) := fun g hg => by
    rcases hv g hg with e | ⟨e, e'⟩
    · exact .inl (hu g e)
    · exact .inr ⟨by omega, Nat.lt_of_lt_of_le e' t5.size⟩
  have hlive := liveSum_flip a b c
  have hmem : ∀ k, k ∈ [x.bs] ∨ k ∈ [p] ∨ k ∈ rows u ∨ k ∈ [x.bf] → k ∈ x.all p := fun k hk => by
    rcases hk with hk | hk | hk | hk
    · simp only [List.mem_singleton] at hk; subst hk; exact (mem_all _).2 (by simp)
    · simp only [List.mem_singleton] at hk; subst hk; exact (mem_all _).2 (by simp)
    · exact (mem_all _).2 (by simp [hu k hk])
    · simp only [List.mem_singleton] at hk; subst hk; exact (mem_all _).2 (by simp)
  refine ⟨{ x with fb := rows v ++ x.fb }, ⟨?_, ?_, ?_, ?_, ?_, hfr, ?_, ?_, ?_, ?_, h.lm⟩, ?_, ?_⟩
  · subst hV
    rw [hlive] at hd5
    have e : ((liveSum (a ++ (c, false) :: b) + c : Nat) : Int) - c = (liveSum (a ++ (c, false) :: b) : Int) := by omega
    rw [e] at hd5
    simpa using hd5
  · rw [endOf_flip a b c false true]
    refine ((((h.mem.turn t1 ?_ ?_).turn t2 ?_ ?_).turn t3 ?_ ?_).turn t4 ?_ ?_).turn t5 ?_ ?_
    · intro hk; have := s1 _ hk; omega
    · intro hk; have := s1 _ hk; omega
    · intro hk; have := s2 _ hk; omega
    · intro hk; have := s2 _ hk; omega
    · simp
    · simp
    · intro hk; have := s4 _ hk; omega
    · intro hk; have := s4 _ hk; omega
    · intro hk; have := s5 _ hk; omega
    · intro hk; have := s5 _ hk; omega
  · rw [starts_flip a b c false true, len_flip a b c false true]
    exact hrow h.st (fun g hg => .inl (l5 g hg))
  · rw [fst_flip a b c false true, len_flip a b c false true]
    exact hrow h.cl (fun g hg => .inr (l6 g hg))
  · have h9 := hs1
    rw [← szF_dead a b c hposa (by omega)] at h9
    rw [len_flip a b c false true]
    refine (((h9.turn t2 ?_).turn t3 ?_).turn t4 ?_).turn t5 ?_
    · intro hk; have := s2 _ hk; omega
    · simp
    · intro hk; have := s4 _ hk; omega
    · intro hk; have := s5 _ hk; omega
  · exact Tagged.more h.nd (N := w.heap.size) (fun k hk => h.lt k hk) rfl rfl rfl rfl rfl rfl (fun g hg => by
      rcases List.mem_append.1 hg with e | e
      · rcases hvf g e with e | e
        · exact .inl e
        · exact .inr e.1
      · exact .inl e)
  · intro k hk
    rcases List.mem_append.1 hk with e | e
    · rcases hvf k e with e | e
      · exact Nat.lt_of_lt_of_le (h.fl k e) (Nat.le_trans hsz hs35)
      · exact e.2
    · exact Nat.lt_of_lt_of_le (h.fl k e) (Nat.le_trans hsz hs35)
  · intro y hy
    rcases List.mem_append.1 hy with hy | hy
    · exact hpos y (by simp [hy])
    · rcases List.mem_cons.1 hy with rfl | hy
      · exact hc
      · exact hpos y (by simp [hy])
  · have := h.lv; rw [hlive] at this; omega
  · exact ((((t1.more (fun y hy => .inl (hmem y (.inl hy)))).trans (t2.more (fun y hy => .inl (hmem y (.inr (.inl hy)))))).trans (t3.more (fun y hy => by cases hy))).trans (t4.more (fun y hy => .inl (hmem y (.inr (.inr (.inl hy))))))).trans (t5.more (fun y hy => .inl (hmem y (.inr (.inr (.inr hy))))))
  · intro k hk
    rcases (mem_all k).1 hk with e | e | e | e | e | e | e | e
    · exact .inl ((mem_all k).2 (by simp [e]))
    · exact .inl ((mem_all k).2 (by simp at e; simp [e]))
    · exact .inl ((mem_all k).2 (by simp at e; simp [e]))
    · exact .inl ((mem_all k).2 (by simp at e; simp [e]))
    · exact .inl ((mem_all k).2 (by simp at e; simp [e]))
    · exact .inl ((mem_all k).2 (by simp at e; simp [e]))
    · exact .inl ((mem_all k).2 (by simp at e; simp [e]))
    · rcases List.mem_append.1 e with e | e
      · rcases hvf k e with e | e
        · exact .inl ((mem_all k).2 (by simp [e]))
        · exact .inr e.1
      · exact .inl ((mem_all k).2 (by simp [e]))
end Go.Proofs.Ytpbalilnemjeeaa
