/- What is proved here: an act appended to the reference's acts; the reference's Load and Equal. Conditions: a reference memory that is there. -/
import Derived.Test.YtkchhggbiopffaaPAt
import Derived.Test.YtkchhggbiopffaaMBytes
namespace Go.Proofs.Ytkchhggbiopffaa
set_option linter.unusedVariables false
set_option linter.unusedSimpArgs false
open Go.RowKit Pm
theorem infoAct : (Try.prog.info? 85).map (fun i => (i.zero, i.size, i.bytes)) = some (some (.agg #[.int .i64 0, .int .i64 0, .int .i64 0, .int .i64 0, .int .u8 0, .string ByteArray.empty]), 6, 56) := by kernel_rfl
/-- a row stored into a block: the block's cells, and the rest -/
theorem setCells_block (g : Nat) (t : TypeId) (m : Nat × Nat) : ∀ (vs : List Value) (o : Nat) (w : World) (cur : Array Value), w.heap[g]? = some (.cells cur t m) →
    ∃ cur' : Array Value, (w.setCells g o vs).heap[g]? = some (.cells cur' t m) ∧ cur'.size = cur.size ∧ ∀ i, cur'[i]? = if o ≤ i ∧ i < o + vs.length ∧ i < cur.size then vs[i - o]? else cur[i]?
  | [], o, w, cur, h => ⟨cur, h, rfl, fun i => by rw [if_neg (by simp; omega)]⟩
  | v :: r, o, w, cur, h => by
    have h1 : (w.setCell ⟨g, o, none⟩ v).heap[g]? = some (.cells (cur.setIfInBounds o v) t m) := by simp [World.setCell, Array.getElem?_modify, h]
    obtain ⟨cur', h2, h3, h4⟩ := setCells_block g t m r (o + 1) _ _ h1
    refine ⟨cur', h2, by simpa using h3, fun i => ?_⟩
    rw [h4 i]
    simp only [Array.size_setIfInBounds, List.length_cons]
    by_cases e : i = o
    · subst e
      rw [if_neg (by omega), Array.getElem?_setIfInBounds, if_pos rfl]
      by_cases hc : i < cur.size
      · rw [if_pos hc, if_pos (by omega), Nat.sub_self]; rfl
      · rw [if_neg hc, if_neg (by omega)]
        exact (Array.getElem?_eq_none (by omega)).symm
    · rw [Array.getElem?_setIfInBounds, if_neg (show ¬ o = i from fun h => e h.symm)]
      by_cases hc : o + 1 ≤ i ∧ i < o + 1 + r.length ∧ i < cur.size
      · rw [if_pos hc, if_pos (by omega), show i - o = (i - (o + 1)) + 1 by omega, List.getElem?_cons_succ]
      · rw [if_neg hc, if_neg (by omega)]
theorem setCells_grown (g : Nat) : ∀ (vs : List Value) (o : Nat) (w : World), w.grownBy (w.setCells g o vs) (some g)
  | [], o, w => ⟨rfl, rfl, rfl, Nat.le_refl _, fun _ _ _ => rfl⟩
  | v :: r, o, w => by
    obtain ⟨h1, h2, h3, h4, h5⟩ := setCells_grown g r (o + 1) (w.setCell ⟨g, o, none⟩ v)
    have hs : (w.setCell ⟨g, o, none⟩ v).heap.size = w.heap.size := by simp [World.setCell]
    refine ⟨h1, h2, h3, by rw [hs] at h4; exact h4, fun k hk hne => ?_⟩
    have := h5 k (by rw [hs]; exact hk) hne
    exact this.trans (Below.heap_setCell w ⟨g, o, none⟩ v k (fun e => hne (by rw [e])))
theorem row_glue (C C' X : List Value) (N c m : Nat) (hl : C.length = c) (hX : X.length = 6) (hc : N + 6 ≤ c) (hm : m = N + 6) (h : ∀ i, C'[i]? = if N ≤ i ∧ i < N + 6 ∧ i < c then X[i - N]? else C[i]?) : C'.take m = C.take N ++ X := by
  subst hm
  apply List.ext_getElem?
  intro i
  rw [List.getElem?_take, List.getElem?_append, List.length_take, List.getElem?_take, h i, hl, Nat.min_eq_left (show N ≤ c by omega)]
  by_cases h1 : i < N
  · rw [if_pos (show i < N + 6 by omega), if_neg (show ¬ (N ≤ i ∧ i < N + 6 ∧ i < c) by omega), if_pos h1, if_pos h1]
  · rw [if_neg h1]
    by_cases h2 : i < N + 6
    · rw [if_pos h2, if_pos (show N ≤ i ∧ i < N + 6 ∧ i < c by omega)]
    · rw [if_neg h2, List.getElem?_eq_none (by omega)]
section
variable {w : World} {ops : Array Oper} {rest : List Oper} {o : Oper} {a : Act} {Q : Exit → Act → World → Prop}
theorem wpList_append_act (hgd : o.guard = none) (s x : Operand) (ho : o.op = .call { callee := .builtin .append, args := #[s, x], argTypes := #[76, 76] })
    (V : Value) (n : Nat) (xs : List Value) (hs : a.eval s = V) (hown : w.ownsRow 0 85 6 V n xs)
    (ad : Nat) (ac : ActV) (hx : a.eval x = .slice (some ⟨ad, 0, none⟩) 1 1) (hz : ∀ j u, ac.cells[j]? = some u → w.cell? ⟨ad, j, none⟩ = some u) (hl : n ≤ 1000000000000)
    (h : ∀ v' w', w'.ownsRow 0 85 6 v' (n + 1) (xs ++ ac.cells) → w.grownBy w' V.ownBlock → (v'.ownBlock = V.ownBlock ∨ ∃ k, v'.ownBlock = some k ∧ w.heap.size ≤ k) → wpList Try.prog ops Q rest (a.put o.dst v') w') : wpList Try.prog ops Q (o :: rest) a w := by
  obtain ⟨i0, hi, hz0, hz1, hz2⟩ := info_parts infoAct
  have hnews : ∀ j u, ac.cells[j]? = some u → w.cell? ((⟨ad, 0, none⟩ : Addr).add j) = some u := by
    intro j u hu
    rw [Addr.add_lit, Nat.zero_add]; exact hz j u hu
  have h1c : ∀ u ∈ ac.cells, u.oneCell' = true := by
    intro u hu
    simp [ActV.cells] at hu
    rcases hu with rfl | rfl | rfl | rfl | rfl | rfl <;> rfl
  rcases hown.2 with ⟨rfl, rfl⟩ | ⟨g, cap, cur, rfl, hbg, hg, hnc, hcm, hcs, htake⟩
  · have hxs : xs = [] := List.eq_nil_of_length_eq_zero (by simpa using hown.1)
    subst hxs
    refine wpList_append_own w hgd s x _ ho w.heap.size 85 i0 (.agg #[.int .i64 0, .int .i64 0, .int .i64 0, .int .i64 0, .int .u8 0, .string ByteArray.empty]) 6 56 Try.underlying76 hi hz0 hz1 hz2 rfl (by decide) _ 0 [] hs (World.ownsRow_nil _ _ _ _) ⟨ad, 0, none⟩ 1 1 _ hx rfl hnews h1c (by decide) (by decide) (Nat.le_refl _) (fun v' w' h1 h2 h3 => ?_)
    refine h v' w' (h1.mono (Nat.zero_le _)) h2 (.inr ?_)
    rcases h1.2 with ⟨_, h0⟩ | ⟨g', cap', cur', rfl, h4, _⟩
    · omega
    · exact ⟨g', rfl, h4⟩
  · refine wpList_append_arg w hgd s x _ ho 85 i0 (.agg #[.int .i64 0, .int .i64 0, .int .i64 0, .int .i64 0, .int .u8 0, .string ByteArray.empty]) 6 56 Try.underlying76 hi hz0 hz1 hz2 rfl (by decide) g 0 n cap xs hs hown.1 ?_ ⟨ad, 0, none⟩ 1 1 ac.cells hx rfl hnews h1c ?_ (by unfold maxLen; omega) (by omega) ?_ ?_
    · intro j u hu
      have := hown.cells (g := g) rfl j u hu
      rw [Addr.add_lit] at this; exact this
    · intro hr j hj
      have hj6 : j < 6 := hj
      have hlt : 0 + n * 6 + j < cur.size := by omega
      refine ⟨by simp [World.cell?, hg]; omega, by simp [World.frozen?, hg]⟩
    · intro hr
      have hx1 : xs.length = n * 6 := by simpa using hown.1
      have h6 : ac.cells.length = 6 := rfl
      obtain ⟨cur', hh, hsz, hget⟩ := setCells_block g 85 (0, 0) ac.cells (0 + n * 6) w cur hg
      refine h _ _ ⟨by rw [List.length_append, hx1, h6]; omega, .inr ⟨g, cap, cur', by simp, hbg, hh, hr, hcm, by rw [hsz]; exact hcs, ?_⟩⟩ (setCells_grown g _ _ _) (.inl rfl)
      rw [← htake]
      have hs2 : cur.toList.length = cap * 6 := by simpa using hcs
      have hs3 : cur.size = cap * 6 := hcs
      refine row_glue cur.toList cur'.toList ac.cells (n * 6) (cap * 6) ((n + 1) * 6) hs2 h6 (by omega) (by omega) (fun i => ?_)
      have := hget i
      rw [Nat.zero_add, h6, hs3] at this
      simpa using this
    · intro hr v' w' h1 h2
      refine h v' w' (h1.mono (Nat.zero_le _)) ⟨h2.os, h2.tape, h2.output, h2.size, fun k hk _ => h2.block k hk (by simp)⟩ (.inr ?_)
      rcases h1.2 with ⟨_, h0⟩ | ⟨g', cap', cur', rfl, h4, _⟩
      · omega
      · exact ⟨g', rfl, h4⟩
end
end Go.Proofs.Ytkchhggbiopffaa
