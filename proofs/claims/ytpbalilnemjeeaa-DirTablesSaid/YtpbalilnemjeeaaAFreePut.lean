/- What is proved here: the map of the free blocks when a part is put into it. Conditions: the map is there. -/
import Derived.Test.YtpbalilnemjeeaaAInsert
namespace Go.Proofs.Ytpbalilnemjeeaa
set_option linter.unusedVariables false
set_option linter.unusedSimpArgs false
open Go.RowKit Pm Pa
theorem free_row_mono {w : World} {fb fb' : List Nat} {u : Value} {xs : List Nat} (h : FreeRow w fb u xs) (hf : ∀ g, g ∈ rows u → g ∈ fb') : FreeRow w fb' u xs := by
  rcases h with h | ⟨g, o, cap, cur, rfl, e2, e3, e4⟩
  · exact .inl h
  · exact .inr ⟨g, o, cap, cur, rfl, hf g (by simp [rows, Value.ownBlock]), e3, e4⟩
theorem free_row_own {w w' : World} {S fb : List Nat} {u : Value} {xs : List Nat} (h : FreeRow w fb u xs) (ht : Turns S w w') (hf : ∀ g, g ∈ rows u → ¬ g ∈ S) : FreeRow w' fb u xs := by
  rcases h with h | ⟨g, o, cap, cur, rfl, e2, e3, e4⟩
  · exact .inl h
  · exact .inr ⟨g, o, cap, cur, rfl, e2, (ht.block g (Array.getElem?_eq_some_iff.1 e3).1 (hf g (by simp [rows, Value.ownBlock]))).trans e3, e4⟩
theorem free_row_in {w : World} {fb : List Nat} {u : Value} {xs : List Nat} (h : FreeRow w fb u xs) (g : Nat) (hg : g ∈ rows u) : g ∈ fb ∧ g < w.heap.size := by
  rcases h with ⟨rfl, _⟩ | ⟨g', o, cap, cur, rfl, e2, e3, e4⟩
  · simp [rows, Value.ownBlock] at hg
  · simp [rows, Value.ownBlock] at hg
    subst hg
    exact ⟨e2, (Array.getElem?_eq_some_iff.1 e3).1⟩
theorem rows_own {v : Value} {g : Nat} : g ∈ rows v ↔ v.ownBlock = some g := by
  unfold rows; simp [Option.mem_toList]
theorem Tagged.more {x x' : Loc} {p N : Nat} (h : Tagged x p) (hN : ∀ k, k ∈ x.all p → k < N) (hm : x'.m = x.m) (hq : x'.q = x.q) (hbs : x'.bs = x.bs) (hbf : x'.bf = x.bf) (h1 : x'.v1 = x.v1) (h2 : x'.v2 = x.v2)
    (hfb : ∀ g, g ∈ x'.fb → g ∈ x.fb ∨ N ≤ g) : Tagged x' p := by
  obtain ⟨lab, l0, l1, l2, l3, l4, l5, l6, l7⟩ := h
  have hl : ∀ k, k = p ∨ k = x.m ∨ k = x.q ∨ k = x.bs ∨ k = x.bf ∨ k ∈ rows x.v1 ∨ k ∈ rows x.v2 ∨ k ∈ x.fb → k < N := fun k hk => hN k (by simp [Loc.all]; exact hk)
  refine ⟨fun k => if k < N then lab k else 7, ?_, ?_, ?_, ?_, ?_, ?_, ?_, ?_⟩
  · simp only []; rw [if_pos (hl p (by simp)), l0]
  · simp only []; rw [hm, if_pos (hl x.m (by simp)), l1]
  · simp only []; rw [hq, if_pos (hl x.q (by simp)), l2]
  · simp only []; rw [hbs, if_pos (hl x.bs (by simp)), l3]
  · simp only []; rw [hbf, if_pos (hl x.bf (by simp)), l4]
  · intro g hg
    rw [h1] at hg
    simp only []; rw [if_pos (hl g (by simp [hg])), l5 g hg]
  · intro g hg
    rw [h2] at hg
    simp only []; rw [if_pos (hl g (by simp [hg])), l6 g hg]
  · intro g hg
    simp only []
    rcases hfb g hg with e | e
    · rw [if_pos (hl g (by simp [e])), l7 g e]
    · rw [if_neg (by omega)]
/-- the map of the free blocks: a part is put into its class -/
theorem free_put {w : World} {bf c : Nat} {a b : Parts} {fb : List Nat} (h : FreeAt w bf (a ++ (c, true) :: b) fb) (hpos : ∀ y ∈ a ++ (c, true) :: b, 16 ≤ y.1 ∧ y.1 ≤ 1048576) (hlen : (a ++ (c, true) :: b).length < maxLen) (hbf : ¬ bf ∈ fb) :
    ∃ u, (∀ W, Turns [] w W → (Instr.lookup 126 (.map (some bf)) (.int .i64 (c : Int)) false).run Try.prog W = .ok u W) ∧ FreeRow w fb u (deadFrom 16 a c ++ deadFrom (endOf a + c) b c) ∧
      ∀ w1 v, Turns (rows u) w w1 → FreeRow w1 (rows v) v (deadFrom 16 a c ++ endOf a :: deadFrom (endOf a + c) b c) → (∀ g, g ∈ rows v → g ∈ rows u ∨ w.heap.size ≤ g) → (∃ g, v.ownBlock = some g) →
        ∃ w', (Instr.mapUpdate 126 (.map (some bf)) (.int .i64 (c : Int)) v).run Try.prog w1 = .ok () w' ∧ FreeAt w' bf (a ++ (c, false) :: b) (rows v ++ fb) ∧ Turns [bf] w1 w' := by
  obtain ⟨f, h1, h2, h3, h4⟩ := h
  have hc0 := hpos (c, true) (by simp)
  simp only [] at hc0
  have hwc : (Lit.int .i64 (c : Int)).wf = true := WalkArith.wf_i64 (by omega)
  have hr := h2 c hwc
  rw [dead_live] at hr
  have hblt : bf < w.heap.size := h1.lt
  refine ⟨(f c).getD (.slice none 0 0), fun W hW => FM.look (h1.turn hW (by simp)) hwc, hr, fun w1 v hw1 hv hvr hvo => ?_⟩
  have hbu : ¬ bf ∈ rows ((f c).getD (.slice none 0 0)) := fun hk => hbf (free_row_in hr bf hk).1
  have hbv : ¬ bf ∈ rows v := fun hk => by
    rcases hvr bf hk with e | e
    · exact hbu e
    · omega
  obtain ⟨z, hz⟩ : ∃ z, heads v = some z := by
    rcases hv with ⟨rfl, _⟩ | ⟨g, o, cap, cur, rfl, _⟩
    · exact ⟨_, rfl⟩
    · exact ⟨_, rfl⟩
  obtain ⟨w', hrun, hF, hT⟩ := IM.store (R := heads) Try.underlying126 (h1.turn hw1 hbu) hlen hwc hz
  have hkey : ∀ k, (f k).isSome = true → (Lit.int .i64 k).wf = true := fun k hk => by
    obtain ⟨y, hy, rfl⟩ := List.mem_map.1 (h4 k hk)
    have := hpos y hy
    exact WalkArith.wf_i64 (by omega)
  have hin : ∀ (k : Int) (u : Value) (g : Nat), k ≠ (c : Int) → f k = some u → u.ownBlock = some g → g ∈ fb ∧ g < w.heap.size ∧ ¬ g ∈ rows ((f c).getD (.slice none 0 0)) := by
    intro k u g hk hu hg
    have hr2 := h2 k (hkey k (by rw [hu]; rfl))
    rw [hu] at hr2
    obtain ⟨q1, q2⟩ := free_row_in hr2 g (rows_own.2 hg)
    refine ⟨q1, q2, fun e => ?_⟩
    rw [rows_own] at e
    cases hfc : f c with
    | none => rw [hfc] at e; cases e
    | some u' => rw [hfc] at e; exact h3 k c u u' g hk hu hfc hg e
  refine ⟨w', hrun, ⟨_, IM.fit hF ((a ++ (c, false) :: b).map fun y => (y.1 : Int)) (fun k _ hk => ?_) _ (by simp), fun k hk => ?_, fun j k u u' g' hjk hu hu' hgu hgu' => ?_, fun k hk => ?_⟩, hT⟩
  · by_cases e : k = (c : Int)
    · subst e; exact List.mem_map.2 ⟨(c, false), by simp, rfl⟩
    · rw [upd_other _ _ _ _ e] at hk
      have := h4 k hk
      simpa using this
  · by_cases e : k = (c : Int)
    · subst e
      rw [upd_same, dead_dead, if_pos rfl]
      exact free_row_mono (free_row_own hv hT (fun g hg hk => hbv (by simp only [List.mem_singleton] at hk; exact hk ▸ hg))) (fun g hg => List.mem_append_left _ hg)
    · rw [upd_other _ _ _ _ e]
      have e9 : deadFrom 16 (a ++ (c, false) :: b) k = deadFrom 16 (a ++ (c, true) :: b) k := by rw [dead_live, dead_dead, if_neg e]
      rw [e9]
      refine free_row_mono (free_row_own (free_row_own (h2 k hk) hw1 (fun g hg => ?_)) hT (fun g hg hk' => ?_)) (fun g hg => List.mem_append_right _ (free_row_in (h2 k hk) g hg).1)
      · cases hfk : f k with
        | none => rw [hfk] at hg; simp [rows, Value.ownBlock] at hg
        | some u => rw [hfk] at hg; exact (hin k u g e hfk (rows_own.1 hg)).2.2
      · simp only [List.mem_singleton] at hk'
        exact hbf (hk' ▸ (free_row_in (h2 k hk) g hg).1)
  · have key : ∀ (i : Int) (t : Value), i ≠ (c : Int) → upd f c (some v) i = some t → t.ownBlock = some g' → v.ownBlock = some g' → False := by
      intro i t hi ht hg hgv
      rw [upd_other _ _ _ _ hi] at ht
      obtain ⟨q1, q2, q3⟩ := hin i t g' hi ht hg
      rcases hvr g' (rows_own.2 hgv) with e | e
      · exact q3 e
      · omega
    by_cases ej : j = (c : Int)
    · subst ej
      rw [upd_same] at hu
      cases hu
      exact key k u' (fun e => hjk e.symm) hu' hgu' hgu
    · by_cases ek : k = (c : Int)
      · subst ek
        rw [upd_same] at hu'
        cases hu'
        exact key j u ej hu hgu hgu'
      · rw [upd_other _ _ _ _ ej] at hu
        rw [upd_other _ _ _ _ ek] at hu'
        exact h3 j k u u' g' hjk hu hu' hgu hgu'
  · by_cases e : k = (c : Int)
    · subst e; exact List.mem_map.2 ⟨(c, false), by simp, rfl⟩
    · rw [upd_other _ _ _ _ e] at hk
      have := h4 k hk
      simpa using this
end Go.Proofs.Ytpbalilnemjeeaa
