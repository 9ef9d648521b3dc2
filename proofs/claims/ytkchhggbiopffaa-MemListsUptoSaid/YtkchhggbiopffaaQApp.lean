/- What is proved here: a page appended to a book. Conditions: a book that is there. -/
import Derived.Test.YtkchhggbiopffaaQTurned
import Derived.Test.YtkchhggbiopffaaPApp
namespace Go.Proofs.Ytkchhggbiopffaa
set_option linter.unusedVariables false
set_option linter.unusedSimpArgs false
open Go.RowKit Pm
theorem infoPage : (Try.prog.info? 73).map (fun i => (i.zero, i.size, i.bytes)) = some (some (.agg #[.slice none 0 0, .slice none 0 0, .slice none 0 0, .slice none 0 0, .int .u8 0]), 5, 104) := by kernel_rfl
theorem row_glue5 (C C' X : List Value) (N c m : Nat) (hl : C.length = c) (hX : X.length = 5) (hc : N + 5 ≤ c) (hm : m = N + 5) (h : ∀ i, C'[i]? = if N ≤ i ∧ i < N + 5 ∧ i < c then X[i - N]? else C[i]?) : C'.take m = C.take N ++ X := by
  subst hm
  apply List.ext_getElem?
  intro i
  rw [List.getElem?_take, List.getElem?_append, List.length_take, List.getElem?_take, h i, hl, Nat.min_eq_left (show N ≤ c by omega)]
  by_cases h1 : i < N
  · rw [if_pos (show i < N + 5 by omega), if_neg (show ¬ (N ≤ i ∧ i < N + 5 ∧ i < c) by omega), if_pos h1, if_pos h1]
  · rw [if_neg h1]
    by_cases h2 : i < N + 5
    · rw [if_pos h2, if_pos (show N ≤ i ∧ i < N + 5 ∧ i < c by omega)]
    · rw [if_neg h2, List.getElem?_eq_none (by omega)]
section
variable {w : World} {ops : Array Oper} {rest : List Oper} {o : Oper} {a : Act} {Q : Exit → Act → World → Prop}
theorem wpList_append_page (hgd : o.guard = none) (s x : Operand) (ho : o.op = .call { callee := .builtin .append, args := #[s, x], argTypes := #[55, 55] })
    {base : Nat} (hbase : base ≤ w.heap.size) (V : Value) (n : Nat) (xs : List Value) (hs : a.eval s = V) (hown : w.ownsRow base 73 5 V n xs)
    (ad : Nat) (ac : PageV) (hx : a.eval x = .slice (some ⟨ad, 0, none⟩) 1 1) (ac_one : ∀ u ∈ ac.cells, u.oneCell' = true) (hz : ∀ j u, ac.cells[j]? = some u → w.cell? ⟨ad, j, none⟩ = some u) (hl : n ≤ 1000000000000)
    (h : ∀ v' w', w'.ownsRow base 73 5 v' (n + 1) (xs ++ ac.cells) → w.grownBy w' V.ownBlock → (v'.ownBlock = V.ownBlock ∨ ∃ k, v'.ownBlock = some k ∧ w.heap.size ≤ k) → wpList Try.prog ops Q rest (a.put o.dst v') w') : wpList Try.prog ops Q (o :: rest) a w := by
  obtain ⟨i0, hi, hz0, hz1, hz2⟩ := info_parts infoPage
  have hnews : ∀ j u, ac.cells[j]? = some u → w.cell? ((⟨ad, 0, none⟩ : Addr).add j) = some u := by
    intro j u hu
    rw [Addr.add_lit, Nat.zero_add]; exact hz j u hu
  have h1c : ∀ u ∈ ac.cells, u.oneCell' = true := by
    intro u hu
    exact ac_one u hu
  rcases hown.2 with ⟨rfl, rfl⟩ | ⟨g, cap, cur, rfl, hbg, hg, hnc, hcm, hcs, htake⟩
  · have hxs : xs = [] := List.eq_nil_of_length_eq_zero (by simpa using hown.1)
    subst hxs
    refine wpList_append_own w hgd s x _ ho w.heap.size 73 i0 (.agg #[.slice none 0 0, .slice none 0 0, .slice none 0 0, .slice none 0 0, .int .u8 0]) 5 104 Try.underlying55 hi hz0 hz1 hz2 rfl (by decide) _ 0 [] hs (World.ownsRow_nil _ _ _ _) ⟨ad, 0, none⟩ 1 1 _ hx rfl hnews h1c (by decide) (by decide) (Nat.le_refl _) (fun v' w' h1 h2 h3 => ?_)
    refine h v' w' (h1.mono hbase) h2 (.inr ?_)
    rcases h1.2 with ⟨_, h0⟩ | ⟨g', cap', cur', rfl, h4, _⟩
    · omega
    · exact ⟨g', rfl, h4⟩
  · refine wpList_append_arg w hgd s x _ ho 73 i0 (.agg #[.slice none 0 0, .slice none 0 0, .slice none 0 0, .slice none 0 0, .int .u8 0]) 5 104 Try.underlying55 hi hz0 hz1 hz2 rfl (by decide) g 0 n cap xs hs hown.1 ?_ ⟨ad, 0, none⟩ 1 1 ac.cells hx rfl hnews h1c ?_ (by unfold maxLen; omega) (by omega) ?_ ?_
    · intro j u hu
      have := hown.cells (g := g) rfl j u hu
      rw [Addr.add_lit] at this; exact this
    · intro hr j hj
      have hj5 : j < 5 := hj
      have hlt : 0 + n * 5 + j < cur.size := by omega
      refine ⟨by simp [World.cell?, hg]; omega, by simp [World.frozen?, hg]⟩
    · intro hr
      have hx1 : xs.length = n * 5 := by simpa using hown.1
      have h5 : ac.cells.length = 5 := rfl
      obtain ⟨cur', hh, hsz, hget⟩ := setCells_block g 73 (0, 0) ac.cells (0 + n * 5) w cur hg
      refine h _ _ ⟨by rw [List.length_append, hx1, h5]; omega, .inr ⟨g, cap, cur', by simp, hbg, hh, hr, hcm, by rw [hsz]; exact hcs, ?_⟩⟩ (setCells_grown g _ _ _) (.inl rfl)
      rw [← htake]
      have hs2 : cur.toList.length = cap * 5 := by simpa using hcs
      have hs3 : cur.size = cap * 5 := hcs
      refine row_glue5 cur.toList cur'.toList ac.cells (n * 5) (cap * 5) ((n + 1) * 5) hs2 h5 (by omega) (by omega) (fun i => ?_)
      have := hget i
      rw [Nat.zero_add, h5, hs3] at this
      simpa using this
    · intro hr v' w' h1 h2
      refine h v' w' (h1.mono hbase) ⟨h2.os, h2.tape, h2.output, h2.size, fun k hk _ => h2.block k hk (by simp)⟩ (.inr ?_)
      rcases h1.2 with ⟨_, h0⟩ | ⟨g', cap', cur', rfl, h4, _⟩
      · omega
      · exact ⟨g', rfl, h4⟩
end
end Go.Proofs.Ytkchhggbiopffaa
