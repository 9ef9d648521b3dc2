/- What is proved here: a list of ints appended to a row of the call's own. No condition but the list's length. -/
import Derived.Test.YtpbalilnemjeeaaDEntry
import Derived.Laws.AppendOwnNone
namespace Go.Proofs.Ytpbalilnemjeeaa
set_option linter.unusedVariables false
set_option linter.unusedSimpArgs false
open Go.RowKit Pm Pa Pl Pd
theorem wpList_append_ints {w : World} {ops : Array Oper} {rest : List Oper} {o : Oper} {a : Act} {Q : Exit → Act → World → Prop} (hgd : o.guard = none) (s x : Operand)
    (ho : o.op = .call { callee := .builtin .append, args := #[s, x], argTypes := #[29, 29] })
    (base : Nat) (v : Value) (n : Nat) (xs : List Value) (hs : a.eval s = v) (hown : w.ownsRow base 3 1 v n xs)
    (A : Option Addr) (m c : Nat) (zs : List Int) (hx : a.eval x = .slice A m c) (hm : zs.length = m) (hz : IntsIn w A zs) (hA : A = none → m = 0 ∧ c = 0)
    (hbytes : (n + m) * 8 ≤ 140737488355328) (hbase : base ≤ w.heap.size)
    (h : ∀ v' w', w'.ownsRow base 3 1 v' (n + m) (xs ++ zs.map (Value.int .i64)) → w.grownBy w' v.ownBlock → wpList Try.prog ops Q rest (a.put o.dst v') w') : wpList Try.prog ops Q (o :: rest) a w := by
  obtain ⟨i0, hi, hz0, hz1, hz2⟩ := info_parts infoInt
  cases A with
  | none =>
    obtain ⟨rfl, rfl⟩ := hA rfl
    have e : zs = [] := List.eq_nil_of_length_eq_zero hm
    subst e
    refine wpList_append_own_none hgd s x _ ho base 3 i0 1 Try.underlying29 hi v n xs hs hown hx ?_
    exact h v w (by simpa using hown) ⟨rfl, rfl, rfl, Nat.le_refl _, fun _ _ _ => rfl⟩
  | some ad =>
    refine wpList_append_own w hgd s x _ ho base 3 i0 (.int .i64 0) 1 8 Try.underlying29 hi hz0 hz1 hz2 rfl (by decide) v n xs hs hown ad m c (zs.map (Value.int .i64)) hx (by simp [hm]) ?_ (fun u hu => by obtain ⟨z, _, rfl⟩ := List.mem_map.1 hu; rfl) (by unfold maxLen; omega) hbytes hbase (fun v' w' h1 h2 _ => h v' w' h1 h2)
    intro j u hu
    rw [List.getElem?_map] at hu
    obtain ⟨z, hz', rfl⟩ := Option.map_eq_some_iff.1 hu
    obtain ⟨g, o', he, hc⟩ := hz j z hz'
    obtain rfl := Option.some.inj he
    rw [Addr.add_lit]; exact hc
/-- a row of the call's own, as a slice -/
theorem own_slice {w : World} {base n : Nat} {v : Value} {zs : List Int} (h : w.ownsRow base 3 1 v n (zs.map (Value.int .i64))) : ∃ A cap, v = .slice A n cap ∧ IntsIn w A zs ∧ (∀ g o, A = some ⟨g, o, none⟩ → base ≤ g) ∧ (A = none → n = 0 ∧ cap = 0) ∧ zs.length = n := by
  have hc := fun g => h.cells (g := g)
  have hl : zs.length = n := by have := h.1; simpa using this
  rcases h.2 with ⟨rfl, h0⟩ | ⟨g, cap, cur, rfl, h1, _, h2, _⟩
  · have e : zs = [] := List.eq_nil_of_length_eq_zero (by omega)
    subst e
    exact ⟨none, 0, by rw [h0], (fun i z hz => by simp at hz), (fun g o e => by cases e), fun _ => ⟨h0, rfl⟩, hl⟩
  · refine ⟨some ⟨g, 0, none⟩, cap, rfl, fun i z hz => ⟨g, 0, rfl, ?_⟩, fun g' o e => ?_, (fun e => by cases e), hl⟩
    · have := hc g rfl i (.int .i64 z) (by rw [List.getElem?_map, hz]; rfl)
      rw [Addr.add_lit] at this
      simpa using this
    · injection e with e
      injection e with e1 _
      rw [← e1]; exact h1
theorem ints_below {w w' : World} {A : Option Addr} {zs : List Int} (h : IntsIn w A zs) (hb : Below w.heap.size w w') : IntsIn w' A zs := fun i z hi => by
  obtain ⟨g, o, rfl, hc⟩ := h i z hi
  exact ⟨g, o, rfl, (hb.cell (p := ⟨g, o + i, none⟩) (World.block_lt_of_cell? w _ hc)).trans hc⟩
end Go.Proofs.Ytpbalilnemjeeaa
