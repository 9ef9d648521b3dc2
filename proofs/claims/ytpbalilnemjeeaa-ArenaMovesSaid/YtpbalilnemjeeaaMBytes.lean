/- What is proved here: bytes in a block of the call's own, marked or not: a string turned into bytes; one byte appended; rows of the call's own that stay apart. No condition. -/
import Derived.Test.YtpbalilnemjeeaaConv
import Derived.ArgAppend
import Derived.WalkSmall
import Derived.Deep.Onto
namespace Go.Proofs.Ytpbalilnemjeeaa
set_option linter.unusedVariables false
set_option linter.unusedSimpArgs false
open Go.RowKit Pm
theorem infoBs : (Try.prog.info? 131).map (fun i => (i.zero, i.size, i.bytes)) = some (some (.slice none 0 0), 1, 24) := by kernel_rfl
/-- block g: room for c bytes, none of them marked, X the first of them -/
def BB (W : World) (g : Nat) (X : List UInt8) (c : Nat) : Prop :=
  ∃ (cur : Array Value) (m : Nat × Nat), W.heap[g]? = some (.cells cur 5 m) ∧ cur.size = c ∧ (∀ j, j < c → (decide (m.1 ≤ j) && decide (j < m.2)) = false) ∧ X.length ≤ c ∧ ∀ (j : Nat) (b : UInt8), X[j]? = some b → cur[j]? = some (Value.int .u8 (b.toNat : Int))
section
variable {w w' : World} {g c : Nat} {X : List UInt8}
theorem BB.lt (h : BB w g X c) : g < w.heap.size := by
  obtain ⟨cur, m, hg, _⟩ := h
  exact (Array.getElem?_eq_some_iff.1 hg).1
theorem BB.len (h : BB w g X c) : X.length ≤ c := h.choose_spec.choose_spec.2.2.2.1
theorem BB.cell (h : BB w g X c) (j : Nat) (b : UInt8) (hj : X[j]? = some b) : w.cell? ⟨g, j, none⟩ = some (.int .u8 (b.toNat : Int)) := by
  obtain ⟨cur, m, hg, _, _, _, hc⟩ := h
  have := hc j b hj
  simp only [World.cell?, hg]
  simpa using this
theorem BB.room (h : BB w g X c) (j : Nat) (hj : j < c) : (w.cell? ⟨g, j, none⟩).isSome = true ∧ w.frozen? ⟨g, j, none⟩ = false := by
  obtain ⟨cur, m, hg, hs, hf, _, _⟩ := h
  subst hs
  refine ⟨?_, ?_⟩
  · simp [World.cell?, hg, hj]
  · have := hf j hj
    simp only [World.frozen?, hg]
    exact this
theorem BB.at (h : BB w g X c) (he : w'.heap[g]? = w.heap[g]?) : BB w' g X c := by
  obtain ⟨cur, m, hg, r⟩ := h
  exact ⟨cur, m, he.trans hg, r⟩
theorem BB.keep (h : BB w g X c) (hb : Below w.heap.size w w') : BB w' g X c := h.at (hb.block g h.lt)
theorem BB.part (h : BB w g X c) (k : Nat) (hk : k ≤ X.length) : BB w g (X.take k) c := by
  obtain ⟨cur, m, hg, hs, hf, hl, hc⟩ := h
  refine ⟨cur, m, hg, hs, hf, by rw [List.length_take]; omega, fun j b hj => hc j b ?_⟩
  rw [List.getElem?_take] at hj
  split at hj
  · exact hj
  · cases hj
/-- one byte more, in its place -/
theorem BB.put (h : BB w g X c) (b : UInt8) (hr : X.length < c) : BB (w.setCell ⟨g, X.length, none⟩ (.int .u8 (b.toNat : Int))) g (X ++ [b]) c := by
  obtain ⟨cur, m, hg, hs, hf, hl, hc⟩ := h
  refine ⟨cur.setIfInBounds X.length (.int .u8 (b.toNat : Int)), m, by simp [World.setCell, Array.getElem?_modify, hg], by simpa using hs, hf, by simp; omega, fun j y hj => ?_⟩
  rw [Array.getElem?_setIfInBounds]
  by_cases h1 : X.length = j
  · subst h1
    rw [List.getElem?_append_right (Nat.le_refl _), Nat.sub_self] at hj
    obtain rfl : b = y := by simpa using hj
    rw [if_pos rfl, if_pos (by omega)]
  · rw [if_neg h1]
    have h2 : j < X.length := by
      have := (List.getElem?_eq_some_iff.1 hj).1
      simp at this; omega
    rw [List.getElem?_append_left h2] at hj
    exact hc j y hj
end
section
variable {w : World} {ops : Array Oper} {rest : List Oper} {o : Oper} {a : Act} {Q : Exit → Act → World → Prop}
/-- []byte(s), all that is known of it -/
theorem wpList_to_bytes2 (hg : o.guard = none) (x : Operand) (hop : o.op = Op.convert 9 131 x) (s : ByteArray) (hx : a.eval x = .string s)
    (h : ∀ w' c, w'.heap.size = w.heap.size + 1 → Below w.heap.size w w' → BB w' w.heap.size s.data.toList c →
      wpList Try.prog ops Q rest (a.put o.dst (.slice (some ⟨w.heap.size, 0, none⟩) s.size c)) w') : wpList Try.prog ops Q (o :: rest) a w := by
  refine wpList_plain hg fun K hK' => ?_
  have hr := Lib.run_convert_string_bytes (P := Try.prog) w 9 131 5 s Try.underlying9 Try.underlying131 Try.underlying5
  unfold Oper.wp
  simp [execOp, hop, hx, hr, Result.andThen]
  refine hK' _ _ (h _ _ (Lib.bytesWorld_size _ _ _) (bytes_below _ _ _) ?_)
  have hge := grownCap_ge w s.size 0 5
  have hsz : (Lib.bytesCells w 5 s).size = grownCap w s.size 0 5 := by
    simp [Lib.bytesCells]; omega
  refine ⟨_, _, Lib.bytesWorld_at_new _ _ _, hsz, fun j hj => by simp; omega, by simpa using hge, fun j b hj => ?_⟩
  have hj2 : j < s.size := by have := (List.getElem?_eq_some_iff.1 hj).1; simpa using this
  have hc := bytes_cells w s j b hj
  simp only [World.cell?, Lib.bytesWorld_at_new] at hc
  simpa using hc
/-- one byte appended -/
theorem wpList_append_byte (hgd : o.guard = none) (s x : Operand) (ho : o.op = .call { callee := .builtin .append, args := #[s, x], argTypes := #[131, 131] })
    (g c n : Nat) (X : List UInt8) (hs : a.eval s = .slice (some ⟨g, 0, none⟩) n c) (hn : X.length = n) (hb : BB w g X c)
    (ad : Nat) (z : UInt8) (Z : Int) (hZ : Z = (z.toNat : Int)) (hx : a.eval x = .slice (some ⟨ad, 0, none⟩) 1 1) (hz : w.cell? ⟨ad, 0, none⟩ = some (.int .u8 Z)) (hl : n ≤ 140737488355327)
    (h : ∀ g' c' w', BB w' g' (X ++ [z]) c' → (g' = g ∨ w.heap.size ≤ g') → w.grownBy w' (some g) → wpList Try.prog ops Q rest (a.put o.dst (.slice (some ⟨g', 0, none⟩) (n + 1) c')) w') : wpList Try.prog ops Q (o :: rest) a w := by
  subst hZ; subst hn
  obtain ⟨i0, hi, hz0, hz1, hz2⟩ := info_parts infoU8
  refine wpList_append_arg w hgd s x _ ho 5 i0 (.int .u8 0) 1 1 Try.underlying131 hi hz0 hz1 hz2 rfl (by decide) g 0 X.length c (X.map fun b => Value.int .u8 (b.toNat : Int)) hs (by simp) ?_ ⟨ad, 0, none⟩ 1 1 [.int .u8 (z.toNat : Int)] hx rfl ?_ (by intro u hu; simp at hu; subst hu; rfl) ?_ (by unfold maxLen; omega) (by omega) ?_ ?_
  · intro j u hu
    rw [List.getElem?_map] at hu
    obtain ⟨b, hb', rfl⟩ := Option.map_eq_some_iff.1 hu
    rw [Nat.zero_add]; exact hb.cell j b hb'
  · intro j u hu
    cases j with
    | zero =>
      obtain rfl := Option.some.inj hu
      rw [Addr.add_lit]; exact hz
    | succ j => simp at hu
  · intro hr j hj
    have : j = 0 := by simpa using hj
    subst this
    simpa using hb.room X.length (by omega)
  · intro hr
    have e : w.setCells g (0 + X.length * 1) [.int .u8 (z.toNat : Int)] = w.setCell ⟨g, X.length, none⟩ (.int .u8 (z.toNat : Int)) := by simp [World.setCells]
    rw [e]
    exact h g c _ (hb.put z (by omega)) (.inl rfl) ⟨rfl, rfl, rfl, by simp [World.setCell], fun k hk hne => Below.heap_setCell w ⟨g, X.length, none⟩ _ k (fun e => hne (by rw [e]))⟩
  · intro hr v' w' hown hgrow
    rcases hown.2 with ⟨rfl, h0⟩ | ⟨g', cap, cur, rfl, h1, h2, h3, h4, h5, h6⟩
    · omega
    · refine h g' cap w' ⟨cur, (0, 0), h2, by simpa using h5, fun j _ => by simp, by simpa using h3, fun j b hj => ?_⟩ (.inr h1) ⟨hgrow.os, hgrow.tape, hgrow.output, hgrow.size, fun k hk _ => hgrow.block k hk (by simp)⟩
      have e : ((X.map fun b => Value.int .u8 (b.toNat : Int)) ++ [Value.int .u8 (z.toNat : Int)]) = (X ++ [z]).map fun b => Value.int .u8 (b.toNat : Int) := by simp
      rw [e] at h6
      have hj' : ((X ++ [z]).map fun b => Value.int .u8 (b.toNat : Int))[j]? = some (.int .u8 (b.toNat : Int)) := by rw [List.getElem?_map, hj]; rfl
      rw [← h6, List.getElem?_take] at hj'
      split at hj'
      · simpa using hj'
      · cases hj'
/-- a list of bytes appended to a row of the call's own; its block is the old one or new -/
theorem wpList_append_list (hgd : o.guard = none) (s x : Operand) (ho : o.op = .call { callee := .builtin .append, args := #[s, x], argTypes := #[130, 130] })
    (base : Nat) (v : Value) (n : Nat) (xs : List Value) (hs : a.eval s = v) (hown : w.ownsRow base 131 1 v n xs)
    (ad : Nat) (A : Option Addr) (m c : Nat) (hx : a.eval x = .slice (some ⟨ad, 0, none⟩) 1 1) (hz : w.cell? ⟨ad, 0, none⟩ = some (.slice A m c)) (hl : n ≤ 1000000000000) (hbase : base ≤ w.heap.size)
    (h : ∀ v' w', w'.ownsRow base 131 1 v' (n + 1) (xs ++ [.slice A m c]) → w.grownBy w' v.ownBlock → (v'.ownBlock = v.ownBlock ∨ ∃ k, v'.ownBlock = some k ∧ w.heap.size ≤ k) → wpList Try.prog ops Q rest (a.put o.dst v') w') : wpList Try.prog ops Q (o :: rest) a w := by
  obtain ⟨i0, hi, hz0, hz1, hz2⟩ := info_parts infoBs
  have hnews : ∀ j u, [Value.slice A m c][j]? = some u → w.cell? ((⟨ad, 0, none⟩ : Addr).add j) = some u := by
    intro j u hu
    cases j with
    | zero =>
      obtain rfl := Option.some.inj hu
      rw [Addr.add_lit]; exact hz
    | succ j => simp at hu
  have h1c : ∀ u ∈ [Value.slice A m c], u.oneCell' = true := by intro u hu; simp at hu; subst hu; rfl
  rcases hown.2 with ⟨rfl, rfl⟩ | ⟨g, cap, cur, rfl, hbg, hg, hnc, hcm, hcs, htake⟩
  · have hxs : xs = [] := List.eq_nil_of_length_eq_zero (by simpa using hown.1)
    subst hxs
    refine wpList_append_own w hgd s x _ ho w.heap.size 131 i0 (.slice none 0 0) 1 24 Try.underlying130 hi hz0 hz1 hz2 rfl (by decide) _ 0 [] hs (World.ownsRow_nil _ _ _ _) ⟨ad, 0, none⟩ 1 1 _ hx rfl hnews h1c (by decide) (by decide) (Nat.le_refl _) (fun v' w' h1 h2 h3 => ?_)
    refine h v' w' (h1.mono hbase) h2 (.inr ?_)
    rcases h1.2 with ⟨_, h0⟩ | ⟨g', cap', cur', rfl, h4, _⟩
    · omega
    · exact ⟨g', rfl, h4⟩
  · refine wpList_append_arg w hgd s x _ ho 131 i0 (.slice none 0 0) 1 24 Try.underlying130 hi hz0 hz1 hz2 rfl (by decide) g 0 n cap xs hs hown.1 ?_ ⟨ad, 0, none⟩ 1 1 [.slice A m c] hx rfl hnews h1c ?_ (by unfold maxLen; omega) (by omega) ?_ ?_
    · intro j u hu
      have := hown.cells (g := g) rfl j u hu
      rw [Addr.add_lit] at this; exact this
    · intro hr j hj
      have : j = 0 := by simpa using hj
      subst this
      have hlt : n < cur.size := by omega
      refine ⟨by simp [World.cell?, hg, hlt], by simp [World.frozen?, hg]⟩
    · intro hr
      have e : w.setCells g (0 + n * 1) [.slice A m c] = w.setCell ⟨g, n, none⟩ (.slice A m c) := by simp [World.setCells]
      rw [e]
      refine h _ _ ⟨by have := hown.1; simp at this ⊢; omega, .inr ⟨g, cap, cur.setIfInBounds n (.slice A m c), by simp, hbg, by simp [World.setCell, Array.getElem?_modify, hg], hr, hcm, by simpa using hcs, ?_⟩⟩ ⟨rfl, rfl, rfl, by simp [World.setCell], fun k hk hne => Below.heap_setCell w ⟨g, n, none⟩ _ k (fun e => hne (by rw [e]; rfl))⟩ (.inl rfl)
      have hx1 : xs.length = n := by simpa using hown.1
      rw [← htake]
      apply List.ext_getElem?
      intro i
      rw [Nat.mul_one, Nat.mul_one, Array.toList_setIfInBounds, List.getElem?_take, List.getElem?_set, List.getElem?_append, List.length_take, List.getElem?_take]
      have hs2 : cur.toList.length = cap := by simpa using hcs
      by_cases h1 : i < n
      · rw [if_pos (by omega), if_neg (by omega), if_pos (by omega), if_pos h1]
      · by_cases h2 : i = n
        · subst h2
          rw [if_pos (by omega), if_pos rfl, if_pos (by omega), if_neg (by omega), show i - min i cur.toList.length = 0 by omega]; rfl
        · rw [if_neg (by omega), if_neg (by omega), List.getElem?_eq_none (by simp; omega)]
    · intro hr v' w' h1 h2
      refine h v' w' (h1.mono hbase) ⟨h2.os, h2.tape, h2.output, h2.size, fun k hk _ => h2.block k hk (by simp)⟩ (.inr ?_)
      rcases h1.2 with ⟨_, h0⟩ | ⟨g', cap', cur', rfl, h4, _⟩
      · omega
      · exact ⟨g', rfl, h4⟩
end
/-- a list of strings in memory -/
def StrsAt (w : World) (A : Option Addr) (ss : List ByteArray) : Prop := ∀ i s, ss[i]? = some s → ∃ g o, A = some ⟨g, o, none⟩ ∧ w.cell? ⟨g, o + i, none⟩ = some (.string s)
section
variable {W W' : World} {base : Nat}
theorem BB.grown {g c : Nat} {X : List UInt8} {lv : Value} {n : Nat} {xs : List Value} (h : BB W g X c) (hown : W.ownsRow base 131 1 lv n xs) (hg : W.grownBy W' lv.ownBlock) : BB W' g X c := by
  refine h.at (hg.block g h.lt ?_)
  intro e
  obtain ⟨cur, m, hc, _⟩ := h
  rcases hown.2 with ⟨rfl, _⟩ | ⟨g', cap, cur', rfl, _, hc', _⟩
  · simp [Value.ownBlock] at e
  · obtain rfl : g = g' := by simpa [Value.ownBlock] using e
    rw [hc] at hc'
    simp at hc'
end
theorem grownBy_of_below {W W' : World} (hb : Below W.heap.size W W') : W.grownBy W' none := ⟨hb.os, hb.tape, hb.output, hb.size, fun k hk _ => hb.block k hk⟩
end Go.Proofs.Ytpbalilnemjeeaa
