/- What is proved here: Write of a list of texts; parts that are free; AllocAll and Alloc, whatever is free; refusals. No condition but those that each lemma names. -/
import Derived.Test.YtpbalilnemjeeaaGM
import Derived.Lib.ConvBytes
import Derived.ArgAppend
import Derived.WalkSmall
import Derived.Deep.Onto
import Derived.Test.YtpbalilnemjeeaaGA
import Derived.StillTailTactics
/- What is proved here: a string turned into bytes, as a step. No condition. -/
namespace Go.Proofs.Ytpbalilnemjeeaa
set_option linter.unusedVariables false
set_option linter.unusedSimpArgs false
open Go.RowKit Pm
section
variable {w : World} {ops : Array Oper} {rest : List Oper} {o : Oper} {a : Act} {Q : Exit → Act → World → Prop}
theorem bytes_below (w : World) (e : TypeId) (s : ByteArray) : Below w.heap.size w (Lib.bytesWorld w e s) :=
  ⟨by unfold Lib.bytesWorld World.freeze; rw [if_neg (by decide)]; rfl, by unfold Lib.bytesWorld World.freeze; rw [if_neg (by decide)]; rfl, by unfold Lib.bytesWorld World.freeze; rw [if_neg (by decide)]; rfl, by rw [Lib.bytesWorld_size]; omega, fun k hk => Lib.bytesWorld_at_old w e s k hk⟩
theorem bytes_cells (w : World) (s : ByteArray) (j : Nat) (b : UInt8) (h : s.data.toList[j]? = some b) : (Lib.bytesWorld w 5 s).cell? ⟨w.heap.size, j, none⟩ = some (.int .u8 (b.toNat : Int)) := by
  have hj : j < s.size := by have := (List.getElem?_eq_some_iff.1 h).1; simpa using this
  rw [Lib.bytesWorld_cell w _ s j hj]
  rw [List.getD, h]; rfl
theorem bytes_free (w : World) (s : ByteArray) (j : Nat) (hj : j < s.size) : (Lib.bytesWorld w 5 s).frozen? ⟨w.heap.size, j, none⟩ = false := by
  have hs : s.size ≤ (Lib.bytesCells w 5 s).size := by simp [Lib.bytesCells]
  simp only [World.frozen?, Lib.bytesWorld_at_new]
  simp; omega
/-- []byte(s) -/
theorem wpList_to_bytes (hg : o.guard = none) (x : Operand) (hop : o.op = Op.convert 9 131 x) (s : ByteArray) (hx : a.eval x = .string s)
    (h : ∀ w' c, w'.heap.size = w.heap.size + 1 → Below w.heap.size w w' → (∀ j b, s.data.toList[j]? = some b → w'.cell? ⟨w.heap.size, j, none⟩ = some (.int .u8 (b.toNat : Int))) → (∀ j, j < s.size → w'.frozen? ⟨w.heap.size, j, none⟩ = false) →
      wpList Try.prog ops Q rest (a.put o.dst (.slice (some ⟨w.heap.size, 0, none⟩) s.size c)) w') : wpList Try.prog ops Q (o :: rest) a w := by
  refine wpList_plain hg fun K hK' => ?_
  have hr := Lib.run_convert_string_bytes (P := Try.prog) w 9 131 5 s Try.underlying9 Try.underlying131 Try.underlying5
  unfold Oper.wp
  simp [execOp, hop, hx, hr, Result.andThen]
  exact hK' _ _ (h _ _ (Lib.bytesWorld_size _ _ _) (bytes_below _ _ _) (bytes_cells w s) (bytes_free w s))
end
end Go.Proofs.Ytpbalilnemjeeaa
/- What is proved here: bytes in a block of the call's own, marked or not: a string turned into bytes; one byte appended; rows of the call's own that stay apart. No condition. -/
namespace Go.Proofs.Ytpbalilnemjeeaa
set_option linter.unusedVariables false
set_option linter.unusedSimpArgs false
open Go.RowKit Pm
theorem infoBs : (Try.prog.info? 131).map (fun i => (i.zero, i.size, i.bytes)) = some (some (.slice none 0 0), 1, 24) := by kernel_rfl
/-- block g: room for c bytes, none of them marked, X the first of them -/
def BB (W : World) (g : Nat) (X : List UInt8) (c : Nat) : Prop :=
  ∃ (cur : Array Value) (m : Nat × Nat), W.heap[g]? = some (.cells cur 5 m) ∧ cur.size = c ∧ (∀ j, j < c → (decide (m.1 ≤ j) && decide (j < m.2)) = false) ∧ X.length ≤ c ∧ ∀ (j : Nat) (b : UInt8), X[j]? = some b → cur[j]? = some (Value.int .u8 (b.toNat : Int))
section
variable {w w' : World} {g c : Nat} {X : List UInt8}
theorem BB.lt (h : BB w g X c) : g < w.heap.size := by
  obtain ⟨cur, m, hg, _⟩ := h
  exact (Array.getElem?_eq_some_iff.1 hg).1
theorem BB.len (h : BB w g X c) : X.length ≤ c := h.choose_spec.choose_spec.2.2.2.1
theorem BB.cell (h : BB w g X c) (j : Nat) (b : UInt8) (hj : X[j]? = some b) : w.cell? ⟨g, j, none⟩ = some (.int .u8 (b.toNat : Int)) := by
  obtain ⟨cur, m, hg, _, _, _, hc⟩ := h
  have := hc j b hj
  simp only [World.cell?, hg]
  simpa using this
theorem BB.room (h : BB w g X c) (j : Nat) (hj : j < c) : (w.cell? ⟨g, j, none⟩).isSome = true ∧ w.frozen? ⟨g, j, none⟩ = false := by
  obtain ⟨cur, m, hg, hs, hf, _, _⟩ := h
  subst hs
  refine ⟨?_, ?_⟩
  · simp [World.cell?, hg, hj]
  · have := hf j hj
    simp only [World.frozen?, hg]
    exact this
theorem BB.at (h : BB w g X c) (he : w'.heap[g]? = w.heap[g]?) : BB w' g X c := by
  obtain ⟨cur, m, hg, r⟩ := h
  exact ⟨cur, m, he.trans hg, r⟩
theorem BB.keep (h : BB w g X c) (hb : Below w.heap.size w w') : BB w' g X c := h.at (hb.block g h.lt)
theorem BB.part (h : BB w g X c) (k : Nat) (hk : k ≤ X.length) : BB w g (X.take k) c := by
  obtain ⟨cur, m, hg, hs, hf, hl, hc⟩ := h
  refine ⟨cur, m, hg, hs, hf, by rw [List.length_take]; omega, fun j b hj => hc j b ?_⟩
  rw [List.getElem?_take] at hj
  split at hj
  · exact hj
  · cases hj
/-- one byte more, in its place -/
theorem BB.put (h : BB w g X c) (b : UInt8) (hr : X.length < c) : BB (w.setCell ⟨g, X.length, none⟩ (.int .u8 (b.toNat : Int))) g (X ++ [b]) c := by
  obtain ⟨cur, m, hg, hs, hf, hl, hc⟩ := h
  refine ⟨cur.setIfInBounds X.length (.int .u8 (b.toNat : Int)), m, by simp [World.setCell, Array.getElem?_modify, hg], by simpa using hs, hf, by simp; omega, fun j y hj => ?_⟩
  rw [Array.getElem?_setIfInBounds]
  by_cases h1 : X.length = j
  · subst h1
    rw [List.getElem?_append_right (Nat.le_refl _), Nat.sub_self] at hj
    obtain rfl : b = y := by simpa using hj
    rw [if_pos rfl, if_pos (by omega)]
  · rw [if_neg h1]
    have h2 : j < X.length := by
      have := (List.getElem?_eq_some_iff.1 hj).1
      simp at this; omega
    rw [List.getElem?_append_left h2] at hj
    exact hc j y hj
end
section
variable {w : World} {ops : Array Oper} {rest : List Oper} {o : Oper} {a : Act} {Q : Exit → Act → World → Prop}
/-- []byte(s), all that is known of it -/
theorem wpList_to_bytes2 (hg : o.guard = none) (x : Operand) (hop : o.op = Op.convert 9 131 x) (s : ByteArray) (hx : a.eval x = .string s)
    (h : ∀ w' c, w'.heap.size = w.heap.size + 1 → Below w.heap.size w w' → BB w' w.heap.size s.data.toList c →
      wpList Try.prog ops Q rest (a.put o.dst (.slice (some ⟨w.heap.size, 0, none⟩) s.size c)) w') : wpList Try.prog ops Q (o :: rest) a w := by
  refine wpList_plain hg fun K hK' => ?_
  have hr := Lib.run_convert_string_bytes (P := Try.prog) w 9 131 5 s Try.underlying9 Try.underlying131 Try.underlying5
  unfold Oper.wp
  simp [execOp, hop, hx, hr, Result.andThen]
  refine hK' _ _ (h _ _ (Lib.bytesWorld_size _ _ _) (bytes_below _ _ _) ?_)
  have hge := grownCap_ge w s.size 0 5
  have hsz : (Lib.bytesCells w 5 s).size = grownCap w s.size 0 5 := by
    simp [Lib.bytesCells]; omega
  refine ⟨_, _, Lib.bytesWorld_at_new _ _ _, hsz, fun j hj => by simp; omega, by simpa using hge, fun j b hj => ?_⟩
  have hj2 : j < s.size := by have := (List.getElem?_eq_some_iff.1 hj).1; simpa using this
  have hc := bytes_cells w s j b hj
  simp only [World.cell?, Lib.bytesWorld_at_new] at hc
  simpa using hc
/-- one byte appended -/
theorem wpList_append_byte (hgd : o.guard = none) (s x : Operand) (ho : o.op = .call { callee := .builtin .append, args := #[s, x], argTypes := #[131, 131] })
    (g c n : Nat) (X : List UInt8) (hs : a.eval s = .slice (some ⟨g, 0, none⟩) n c) (hn : X.length = n) (hb : BB w g X c)
    (ad : Nat) (z : UInt8) (Z : Int) (hZ : Z = (z.toNat : Int)) (hx : a.eval x = .slice (some ⟨ad, 0, none⟩) 1 1) (hz : w.cell? ⟨ad, 0, none⟩ = some (.int .u8 Z)) (hl : n ≤ 140737488355327)
    (h : ∀ g' c' w', BB w' g' (X ++ [z]) c' → (g' = g ∨ w.heap.size ≤ g') → w.grownBy w' (some g) → wpList Try.prog ops Q rest (a.put o.dst (.slice (some ⟨g', 0, none⟩) (n + 1) c')) w') : wpList Try.prog ops Q (o :: rest) a w := by
  subst hZ; subst hn
  obtain ⟨i0, hi, hz0, hz1, hz2⟩ := info_parts infoU8
  refine wpList_append_arg w hgd s x _ ho 5 i0 (.int .u8 0) 1 1 Try.underlying131 hi hz0 hz1 hz2 rfl (by decide) g 0 X.length c (X.map fun b => Value.int .u8 (b.toNat : Int)) hs (by simp) ?_ ⟨ad, 0, none⟩ 1 1 [.int .u8 (z.toNat : Int)] hx rfl ?_ (by intro u hu; simp at hu; subst hu; rfl) ?_ (by unfold maxLen; omega) (by omega) ?_ ?_
  · intro j u hu
    rw [List.getElem?_map] at hu
    obtain ⟨b, hb', rfl⟩ := Option.map_eq_some_iff.1 hu
    rw [Nat.zero_add]; exact hb.cell j b hb'
  · intro j u hu
    cases j with
    | zero =>
      obtain rfl := Option.some.inj hu
      rw [Addr.add_lit]; exact hz
    | succ j => simp at hu
  · intro hr j hj
    have : j = 0 := by simpa using hj
    subst this
    simpa using hb.room X.length (by omega)
  · intro hr
    have e : w.setCells g (0 + X.length * 1) [.int .u8 (z.toNat : Int)] = w.setCell ⟨g, X.length, none⟩ (.int .u8 (z.toNat : Int)) := by simp [World.setCells]
    rw [e]
    exact h g c _ (hb.put z (by omega)) (.inl rfl) ⟨rfl, rfl, rfl, by simp [World.setCell], fun k hk hne => Below.heap_setCell w ⟨g, X.length, none⟩ _ k (fun e => hne (by rw [e]))⟩
  · intro hr v' w' hown hgrow
    rcases hown.2 with ⟨rfl, h0⟩ | ⟨g', cap, cur, rfl, h1, h2, h3, h4, h5, h6⟩
    · omega
    · refine h g' cap w' ⟨cur, (0, 0), h2, by simpa using h5, fun j _ => by simp, by simpa using h3, fun j b hj => ?_⟩ (.inr h1) ⟨hgrow.os, hgrow.tape, hgrow.output, hgrow.size, fun k hk _ => hgrow.block k hk (by simp)⟩
      have e : ((X.map fun b => Value.int .u8 (b.toNat : Int)) ++ [Value.int .u8 (z.toNat : Int)]) = (X ++ [z]).map fun b => Value.int .u8 (b.toNat : Int) := by simp
      rw [e] at h6
      have hj' : ((X ++ [z]).map fun b => Value.int .u8 (b.toNat : Int))[j]? = some (.int .u8 (b.toNat : Int)) := by rw [List.getElem?_map, hj]; rfl
      rw [← h6, List.getElem?_take] at hj'
      split at hj'
      · simpa using hj'
      · cases hj'
/-- a list of bytes appended to a row of the call's own; its block is the old one or new -/
theorem wpList_append_list (hgd : o.guard = none) (s x : Operand) (ho : o.op = .call { callee := .builtin .append, args := #[s, x], argTypes := #[130, 130] })
    (base : Nat) (v : Value) (n : Nat) (xs : List Value) (hs : a.eval s = v) (hown : w.ownsRow base 131 1 v n xs)
    (ad : Nat) (A : Option Addr) (m c : Nat) (hx : a.eval x = .slice (some ⟨ad, 0, none⟩) 1 1) (hz : w.cell? ⟨ad, 0, none⟩ = some (.slice A m c)) (hl : n ≤ 1000000000000) (hbase : base ≤ w.heap.size)
    (h : ∀ v' w', w'.ownsRow base 131 1 v' (n + 1) (xs ++ [.slice A m c]) → w.grownBy w' v.ownBlock → (v'.ownBlock = v.ownBlock ∨ ∃ k, v'.ownBlock = some k ∧ w.heap.size ≤ k) → wpList Try.prog ops Q rest (a.put o.dst v') w') : wpList Try.prog ops Q (o :: rest) a w := by
  obtain ⟨i0, hi, hz0, hz1, hz2⟩ := info_parts infoBs
  have hnews : ∀ j u, [Value.slice A m c][j]? = some u → w.cell? ((⟨ad, 0, none⟩ : Addr).add j) = some u := by
    intro j u hu
    cases j with
    | zero =>
      obtain rfl := Option.some.inj hu
      rw [Addr.add_lit]; exact hz
    | succ j => simp at hu
  have h1c : ∀ u ∈ [Value.slice A m c], u.oneCell' = true := by intro u hu; simp at hu; subst hu; rfl
  rcases hown.2 with ⟨rfl, rfl⟩ | ⟨g, cap, cur, rfl, hbg, hg, hnc, hcm, hcs, htake⟩
  · have hxs : xs = [] := List.eq_nil_of_length_eq_zero (by simpa using hown.1)
    subst hxs
    refine wpList_append_own w hgd s x _ ho w.heap.size 131 i0 (.slice none 0 0) 1 24 Try.underlying130 hi hz0 hz1 hz2 rfl (by decide) _ 0 [] hs (World.ownsRow_nil _ _ _ _) ⟨ad, 0, none⟩ 1 1 _ hx rfl hnews h1c (by decide) (by decide) (Nat.le_refl _) (fun v' w' h1 h2 h3 => ?_)
    refine h v' w' (h1.mono hbase) h2 (.inr ?_)
    rcases h1.2 with ⟨_, h0⟩ | ⟨g', cap', cur', rfl, h4, _⟩
    · omega
    · exact ⟨g', rfl, h4⟩
  · refine wpList_append_arg w hgd s x _ ho 131 i0 (.slice none 0 0) 1 24 Try.underlying130 hi hz0 hz1 hz2 rfl (by decide) g 0 n cap xs hs hown.1 ?_ ⟨ad, 0, none⟩ 1 1 [.slice A m c] hx rfl hnews h1c ?_ (by unfold maxLen; omega) (by omega) ?_ ?_
    · intro j u hu
      have := hown.cells (g := g) rfl j u hu
      rw [Addr.add_lit] at this; exact this
    · intro hr j hj
      have : j = 0 := by simpa using hj
      subst this
      have hlt : n < cur.size := by omega
      refine ⟨by simp [World.cell?, hg, hlt], by simp [World.frozen?, hg]⟩
    · intro hr
      have e : w.setCells g (0 + n * 1) [.slice A m c] = w.setCell ⟨g, n, none⟩ (.slice A m c) := by simp [World.setCells]
      rw [e]
      refine h _ _ ⟨by have := hown.1; simp at this ⊢; omega, .inr ⟨g, cap, cur.setIfInBounds n (.slice A m c), by simp, hbg, by simp [World.setCell, Array.getElem?_modify, hg], hr, hcm, by simpa using hcs, ?_⟩⟩ ⟨rfl, rfl, rfl, by simp [World.setCell], fun k hk hne => Below.heap_setCell w ⟨g, n, none⟩ _ k (fun e => hne (by rw [e]; rfl))⟩ (.inl rfl)
      have hx1 : xs.length = n := by simpa using hown.1
      rw [← htake]
      apply List.ext_getElem?
      intro i
      rw [Nat.mul_one, Nat.mul_one, Array.toList_setIfInBounds, List.getElem?_take, List.getElem?_set, List.getElem?_append, List.length_take, List.getElem?_take]
      have hs2 : cur.toList.length = cap := by simpa using hcs
      by_cases h1 : i < n
      · rw [if_pos (by omega), if_neg (by omega), if_pos (by omega), if_pos h1]
      · by_cases h2 : i = n
        · subst h2
          rw [if_pos (by omega), if_pos rfl, if_pos (by omega), if_neg (by omega), show i - min i cur.toList.length = 0 by omega]; rfl
        · rw [if_neg (by omega), if_neg (by omega), List.getElem?_eq_none (by simp; omega)]
    · intro hr v' w' h1 h2
      refine h v' w' (h1.mono hbase) ⟨h2.os, h2.tape, h2.output, h2.size, fun k hk _ => h2.block k hk (by simp)⟩ (.inr ?_)
      rcases h1.2 with ⟨_, h0⟩ | ⟨g', cap', cur', rfl, h4, _⟩
      · omega
      · exact ⟨g', rfl, h4⟩
end
/-- a list of strings in memory -/
def StrsAt (w : World) (A : Option Addr) (ss : List ByteArray) : Prop := ∀ i s, ss[i]? = some s → ∃ g o, A = some ⟨g, o, none⟩ ∧ w.cell? ⟨g, o + i, none⟩ = some (.string s)
section
variable {W W' : World} {base : Nat}
theorem BB.grown {g c : Nat} {X : List UInt8} {lv : Value} {n : Nat} {xs : List Value} (h : BB W g X c) (hown : W.ownsRow base 131 1 lv n xs) (hg : W.grownBy W' lv.ownBlock) : BB W' g X c := by
  refine h.at (hg.block g h.lt ?_)
  intro e
  obtain ⟨cur, m, hc, _⟩ := h
  rcases hown.2 with ⟨rfl, _⟩ | ⟨g', cap, cur', rfl, _, hc', _⟩
  · simp [Value.ownBlock] at e
  · obtain rfl : g = g' := by simpa [Value.ownBlock] using e
    rw [hc] at hc'
    simp at hc'
end
theorem grownBy_of_below {W W' : World} (hb : Below W.heap.size W W') : W.grownBy W' none := ⟨hb.os, hb.tape, hb.output, hb.size, fun k hk _ => hb.block k hk⟩
end Go.Proofs.Ytpbalilnemjeeaa
/- What is proved here: the contract of the arena's Write of a list of strings inside one live block. Conditions: the list lies in memory. -/
namespace Go.Proofs.Ytpbalilnemjeeaa
set_option linter.unusedVariables false
set_option linter.unusedSimpArgs false
open Go.RowKit Pm Pa Pl
/-- the list of the bytes, behind some rounds -/
structure Wl (w : World) (ss : List (List UInt8)) (lv : Value) (xs : List Value) (W : World) : Prop where
  below : Below w.heap.size w W
  l : W.ownsRow w.heap.size 131 1 lv ss.length xs
  parts : ∀ (i : Nat) (s : List UInt8), ss[i]? = some s → ∃ g c, xs[i]? = some (.slice (some ⟨g, 0, none⟩) s.length c) ∧ w.heap.size ≤ g ∧ BB W g s c
section
variable {w W W' : World} {ss : List (List UInt8)} {lv lv' : Value} {xs : List Value}
theorem Wl.keep (h : Wl w ss lv xs W) (hb : Below W.heap.size W W') : Wl w ss lv xs W' :=
  ⟨Below.then h.below hb, h.l.kept (grownBy_of_below hb) (by cases lv.ownBlock <;> simp), fun i s hi => by
    obtain ⟨g, c, h1, h2, h3⟩ := h.parts i s hi
    exact ⟨g, c, h1, h2, h3.keep hb⟩⟩
theorem Wl.step {s : List UInt8} {g c : Nat} (h : Wl w ss lv xs W) (hb : BB W g s c) (hg : w.heap.size ≤ g) (h1 : W'.ownsRow w.heap.size 131 1 lv' (ss.length + 1) (xs ++ [.slice (some ⟨g, 0, none⟩) s.length c])) (h2 : W.grownBy W' lv.ownBlock) :
    Wl w (ss ++ [s]) lv' (xs ++ [.slice (some ⟨g, 0, none⟩) s.length c]) W' := by
  have hxl : xs.length = ss.length := by have := h.l.1; omega
  refine ⟨h.below.grown h2 h.below.size (fun k hk => (h.l.lt k hk).1), by rw [List.length_append]; exact h1, fun i t hi => ?_⟩
  by_cases e : i < ss.length
  · rw [List.getElem?_append_left e] at hi
    obtain ⟨g', c', e1, e2, e3⟩ := h.parts i t hi
    exact ⟨g', c', by rw [List.getElem?_append_left (by omega)]; exact e1, e2, e3.grown h.l h2⟩
  · have hi2 : i < ss.length + 1 := by have := (List.getElem?_eq_some_iff.1 hi).1; simp at this; omega
    obtain rfl : i = ss.length := by omega
    rw [List.getElem?_append_right (Nat.le_refl _), Nat.sub_self] at hi
    obtain rfl : s = t := by simpa using hi
    refine ⟨g, c, ?_, hg, hb.grown h.l h2⟩
    rw [List.getElem?_append_right (by omega), hxl, Nat.sub_self]; rfl
end
theorem flat_snoc (ss : List ByteArray) (k : Nat) (s : ByteArray) (h : ss[k]? = some s) : (ss.take (k + 1)).map (fun s => s.data.toList) = (ss.take k).map (fun s => s.data.toList) ++ [s.data.toList] := by
  rw [List.take_add_one, h]; simp
set_option maxHeartbeats 4000000 in
set_option maxRecDepth 100000 in
theorem as_write {w0 w : World} {p : Nat} {x : Loc} {lim : Nat} {ps : Parts} {L : List UInt8} (h : AS w0 p x lim ps L w) (ss : List ByteArray) (A : Option Addr) (cc : Nat) (ha : StrsAt w A ss) (hl : ss.length ≤ 100000000) {off : Nat} {T : List UInt8} (hT : (ss.map fun s => s.data.toList).flatten = T)
    (hi : Inside ps off T.length) (O : Int) (hO : O = off) (N : Nat) (hN : ss.length = N) : Calls Try.prog 22 #[.pointer (some ⟨p, 0, none⟩), .int .i64 O, .slice A N cc] w fun e w' => e = .returned (.int .i64 0) ∧ AS w0 p x lim ps (splice L off T) w' ∧ Turns [x.q] w w' := by
  subst hN
  have hA := Lib.hid h
  have hin := h.ar.inside hi
  have hend := h.ar.endle
  have hqlt : x.q < w.heap.size := h.ar.mem.dat.lt
  have hT134 : T.length ≤ 134217728 := by omega
  obtain ⟨i0, hi0, hz0, hz1, hz2⟩ := info_parts infoBs
  have hib : i0.bytes * ss.length ≤ 281474976710656 := by rw [hz2]; omega
  replace hi0 := Lib.hid hi0
  replace hz0 := Lib.hid hz0
  replace hz1 := Lib.hid hz1
  replace hz2 := Lib.hid hz2
  replace ha := Lib.hid ha
  replace hT := Lib.hid hT
  clear h
  go_enter Try.func22, Try.ntmps22
  go_wp2_with (first
    | (at_make; refine wpList_make_own _ rfl _ _ _ rfl w.heap.size 131 i0 (.slice none 0 0) 1 Try.underlying130 hi0.out hz0.out hz1.out .i64 .i64 _ ss.length rfl rfl rfl hib (by unfold maxLen; omega) (by simp) ?_; intro w2 hrow hgr)
    | fail)
  have hW0 : Wl w [] (.slice (some ⟨w.heap.size, 0, none⟩) 0 ss.length) [] w2 := ⟨⟨hgr.os, hgr.tape, hgr.output, hgr.size, fun k hk => hgr.block k (by omega) (by simp)⟩, hrow, fun i s hi => by simp at hi⟩
  obtain ⟨v0, hv0⟩ : ∃ v, Hid (v = Value.slice (some ⟨w.heap.size, 0, none⟩) 0 ss.length) := ⟨_, rfl⟩
  rw [← hv0.out] at hW0 ⊢
  clear hrow hgr hv0 hib
  replace hW0 := Lib.hid hW0
  obtain ⟨wo, rfl⟩ : ∃ wo : World, wo = w := ⟨_, rfl⟩
  go_loopw [7, 8, 16] (fun a7 a8 a16 wr => ∃ (k : Nat) (v : Value) (xs : List Value), k ≤ ss.length ∧ a16 = .int .i64 (k : Int) ∧ a7 = .int .i64 ((((ss.take k).map fun s => s.data.toList).flatten.length : Nat) : Int) ∧ v = a8 ∧ Hid (Wl wo ((ss.take k).map fun s => s.data.toList) v xs wr)) (fun _ _ i _ => (ss.length - (intOf i).toNat))
  case atStart => exact ⟨0, v0, [], Nat.zero_le _, rfl, rfl, rfl, hW0⟩
  case round =>
    obtain ⟨k, v, xs, hk, rfl, rfl, rfl, hW⟩ := hrel
    by_cases hlt : k < ss.length
    · obtain ⟨s, hs⟩ : ∃ s, Hid (ss[k]? = some s) := ⟨_, List.getElem?_eq_getElem hlt⟩
      obtain ⟨g, o, rfl, hc0⟩ := ha.out k s hs.out
      have hc : wr.cell? ⟨g, o + k, none⟩ = some (.string s) := (hW.out.below.cell (p := ⟨g, o + k, none⟩) (World.block_lt_of_cell? wo _ hc0)).trans hc0
      have hsn := Lib.hid (flat_snoc ss k s hs.out)
      have hfl : (((ss.take (k + 1)).map fun s => s.data.toList).flatten.length) ≤ T.length := by
        rw [← hT.out]
        have e : ss.map (fun s => s.data.toList) = (ss.take (k + 1)).map (fun s => s.data.toList) ++ (ss.drop (k + 1)).map (fun s => s.data.toList) := by rw [← List.map_append, List.take_append_drop]
        rw [e, List.flatten_append, List.length_append]; omega
      rw [hsn.out, List.flatten_append, List.length_append] at hfl
      have hs1 : ([s.data.toList].flatten).length = s.size := by simp
      rw [hs1] at hfl
      have hml : ((ss.take k).map fun s => s.data.toList).length = k := by rw [List.length_map, List.length_take]; omega
      obtain ⟨M, hM⟩ : ∃ M, Hid (M = ((ss.take k).map fun s => s.data.toList).flatten.length) := ⟨_, rfl⟩
      rw [← hM.out] at hfl ⊢
      have k0 : (0 : Int) ≤ k := by omega
      have k1 : (k : Int) < ss.length := by omega
      go_wp2_with (first
        | ((with_reducible show wpList _ _ _ (⟨some 26, _, _, _, _, _⟩ :: _) _ _); refine wpList_to_bytes2 rfl _ rfl s rfl ?_; intro w5 c5 h5s h5b h5; have hW5 := (hW.out.keep h5b).keep ((Below.refl _ _).alloc (Nat.le_refl _) (.cells #[.slice (some ⟨wr.heap.size, 0, none⟩) s.size c5] 131)); have h5' := h5.keep ((Below.refl _ _).alloc (Nat.le_refl _) (.cells #[.slice (some ⟨wr.heap.size, 0, none⟩) s.size c5] 131)); have hc5 := (Blk.new w5 #[.slice (some ⟨wr.heap.size, 0, none⟩) s.size c5] 131).cell 0; rw [h5s] at hc5)
        | (at_builtin; refine wpList_append_list rfl _ _ rfl wo.heap.size _ k xs rfl (by rw [← hml]; exact hW5.l) (wr.heap.size + 1) (some ⟨wr.heap.size, 0, none⟩) s.size c5 rfl hc5 (by omega) (by have := hW5.below.size; exact this) ?_; intro v6 w6 hown hgrow hloc)
        | fail)
      have hstep := Wl.step (s := s.data.toList) hW5 h5' (by have := hW.out.below.size; exact this) (by rw [hml, Array.length_toList]; exact hown) hgrow
      refine ⟨⟨k + 1, v6, xs ++ [.slice (some ⟨wr.heap.size, 0, none⟩) s.data.toList.length c5], by omega, by go_num, ?_, rfl, ?_⟩, by simp [intOf]; omega⟩
      · rw [hsn.out, List.flatten_append, List.length_append, hs1, ← hM.out]
        push_cast
        rfl
      · rw [hsn.out]; exact hstep
    · obtain rfl : k = ss.length := by omega
      rw [List.take_length] at hW ⊢
      rw [hT.out]
      have hAr := Lib.hid (hA.out.keep hW.out.below)
      obtain ⟨d0, d1, d2, d3, d4, d5, d6⟩ := hAr.out.ar.cells
      clear d0 d1 d3 d4 d5 d6 hk hlt
      have hml : (ss.map fun s => s.data.toList).length = ss.length := by simp
      have hpv : ∃ PA pc, v = .slice PA ss.length pc ∧ PartsAt wr x.q PA (ss.map fun s => s.data.toList) := by
        have hown := hW.out.l
        have hcl := fun g => hown.cells (g := g)
        rcases hown.2 with ⟨e, h0⟩ | ⟨g, cap, cur, e, h1, _, _⟩
        · rw [hml] at h0
          refine ⟨none, 0, by rw [e, h0], fun i t hit => ?_⟩
          have := (List.getElem?_eq_some_iff.1 hit).1
          omega
        · rw [hml] at e
          refine ⟨_, cap, e, fun i t hit => ?_⟩
          obtain ⟨g', c', e1, e2, e3⟩ := hW.out.parts i t hit
          have hc := hcl g (by rw [e]; rfl) i _ e1
          rw [Addr.add_lit] at hc
          refine ⟨g, 0, _, rfl, by omega, by simpa using hc, some ⟨g', 0, none⟩, c', rfl, fun _ => ⟨g', 0, rfl, by omega, fun j b hj => ?_⟩⟩
          rw [Nat.zero_add]
          exact e3.cell j b hj
      obtain ⟨PA, pc, rfl, hps⟩ := hpv
      replace hps := Lib.hid hps
      replace hW := Lib.hid hW.out.below
      have tok1 : True := trivial
      go_wp2_with (first
        | (go_at_call 66; have _t := tok1; refine (good_yes hAr.out.ar hi _ _ (by first | rfl | omega) rfl).mono ?_; rintro e w' ⟨rfl, m1, rfl⟩; clear tok1)
        | (go_at_call 67; have hwr := write_in (hAr.out.drewN m1).ar.mem off PA pc (ss.map fun s => s.data.toList) (hps.out.turn ((Turns.refl [x.q] wr).drewN m1)) (by rw [hml]; omega) (by rw [hT.out]; exact hin); rw [hml, hT.out] at hwr; subst hO; refine hwr.mono ?_; rintro e w9 ⟨rfl, hm9, ht9⟩)
        | fail)
      go_ret
      exact ⟨rfl, (hAr.out.drewN m1).wrote ht9 ((hAr.out.drewN m1).ar.wrote hm9 ht9), ((Turns.of_below hW.out).drewN m1).trans ht9⟩
end Go.Proofs.Ytpbalilnemjeeaa
/- What is proved here: the contract of the law's own repeat. Conditions: a number of bytes, at most 4096. -/
namespace Go.Proofs.Ytpbalilnemjeeaa
set_option linter.unusedVariables false
set_option linter.unusedSimpArgs false
open Go.RowKit Pm Pa Pl
theorem rep_set (b : UInt8) (n k : Nat) (h : k < n) : (List.replicate k b ++ List.replicate (n - k) 0).set k b = List.replicate (k + 1) b ++ List.replicate (n - (k + 1)) (0 : UInt8) := by
  apply List.ext_getElem?
  intro i
  rw [List.getElem?_set, List.getElem?_append, List.getElem?_append, List.length_append, List.length_replicate, List.length_replicate, List.length_replicate]
  by_cases e : k = i
  · subst e
    rw [if_pos rfl, if_pos (by omega), if_pos (by omega), List.getElem?_replicate, if_pos (by omega)]
  · rw [if_neg e]
    by_cases h1 : i < k
    · rw [if_pos h1, if_pos (by omega), List.getElem?_replicate, List.getElem?_replicate, if_pos h1, if_pos (by omega)]
    · rw [if_neg h1, if_neg (by omega), List.getElem?_replicate, List.getElem?_replicate]
      by_cases h2 : i < n
      · rw [if_pos (by omega), if_pos (by omega)]
      · rw [if_neg (by omega), if_neg (by omega)]
set_option maxHeartbeats 1000000 in
theorem repeat_to (b : UInt8) (n : Nat) (hn : n ≤ 4096) (S : ByteArray) (hS : S.data.toList = List.replicate n b) (w : World) (B N : Int) (hB : B = b.toNat) (hN : N = n) :
    Calls Try.prog 27 #[.int .u8 B, .int .i64 N] w fun e w' => e = .returned (.string S) ∧ Below w.heap.size w w' := by
  subst hB hN
  replace hS := Lib.hid hS
  go_enter Try.func27, Try.ntmps27
  go_wp2_with (first
    | (at_make; refine wpList_make_bytes rfl _ _ rfl n n rfl rfl (Nat.le_refl _) (by omega) ?_)
    | fail)
  have hB0 : Blk (w.alloc (.cells (bv (List.replicate n 0)) 5)) w.heap.size (bv (List.replicate n 0)) 5 := Blk.new _ _ _
  have hW0 : Below w.heap.size w (w.alloc (.cells (bv (List.replicate n 0)) 5)) := (Below.refl _ _).alloc (Nat.le_refl _) _
  obtain ⟨G, hG⟩ : ∃ G, Hid (G = w.heap.size) := ⟨_, rfl⟩
  obtain ⟨wo, rfl⟩ : ∃ wo : World, wo = w := ⟨_, rfl⟩
  rw [← hG.out] at hB0 ⊢
  have hGl : wo.heap.size ≤ G := by rw [hG.out]; exact Nat.le_refl _
  generalize World.alloc wo _ = wz at hB0 hW0 ⊢
  go_wp2_with fail
  go_loopw [6] (fun i wr => ∃ k : Nat, k ≤ n ∧ i = .int .i64 (k : Int) ∧ Hid (Below wo.heap.size wo wr) ∧ Hid (Blk wr G (bv (List.replicate k b ++ List.replicate (n - k) 0)) 5)) (fun i _ => (n - (intOf i).toNat))
  case atStart => exact ⟨0, Nat.zero_le _, rfl, hW0, hB0⟩
  case round =>
    obtain ⟨k, hk, rfl, hbl, hBk⟩ := hrel
    by_cases hlt : k < n
    · have ck : wr.cell? ⟨G, k, none⟩ = some (.int .u8 0) := by
        rw [hBk.out.cell, bv_get?, List.getElem?_append_right (by simp), List.getElem?_replicate, if_pos (by simp; omega)]
        rfl
      have fk := hBk.out.free k
      have k0 : (0 : Int) ≤ k := by omega
      have k1 : (k : Int) < n := by omega
      go_wp2_with fail
      go_roundw
      case rel =>
        refine ⟨k + 1, by omega, by go_num, hbl.out.setCell (p := ⟨G, k, none⟩) hGl _, ?_⟩
        have h9 := hBk.out.set k (.int .u8 (b.toNat : Int))
        rw [bv_set, rep_set b n k hlt] at h9
        exact h9
      case measure => simp [intOf]; omega
    · obtain rfl : k = n := by omega
      have hBn : Blk wr G (bv (List.replicate k b)) 5 := by
        have h9 := hBk.out
        rw [Nat.sub_self, List.replicate_zero, List.append_nil] at h9
        exact h9
      have hcv := conv_bytes wr G k k (List.replicate k b) S hS.out (by simp) hBn
      clear hBn
      go_wp2_with fail
      go_ret
      exact ⟨rfl, hbl.out⟩
end Go.Proofs.Ytpbalilnemjeeaa
/- What is proved here: a list of parts, parted at one of them: starts, sizes, sums, the dead of a class; a dead part that lives again, a live one that dies. No condition, no program. -/
set_option linter.unusedVariables false
set_option linter.unusedSimpArgs false
namespace Go.Proofs.Ytpbalilnemjeeaa.Pa
open Go
theorem startsFrom_split (o : Nat) (a b : Parts) : startsFrom o (a ++ b) = startsFrom o a ++ startsFrom (o + total a) b := by
  induction a generalizing o with
  | nil => simp [startsFrom, total]
  | cons x t ih => simp [startsFrom, ih, total_cons, Nat.add_assoc]
theorem deadFrom_split (o : Nat) (a b : Parts) (k : Int) : deadFrom o (a ++ b) k = deadFrom o a k ++ deadFrom (o + total a) b k := by
  induction a generalizing o with
  | nil => simp [deadFrom, total]
  | cons x t ih =>
    simp only [List.cons_append, deadFrom, ih, total_cons]
    rw [Nat.add_assoc]
    split <;> simp
theorem liveSum_split (a b : Parts) : liveSum (a ++ b) = liveSum a + liveSum b := by
  induction a with
  | nil => simp [liveSum]
  | cons x t ih => simp only [List.cons_append, liveSum, ih]; omega
theorem sizeFrom_split (o : Nat) (a b : Parts) (ha : ∀ y ∈ a, 1 ≤ y.1) (k : Int) : sizeFrom o (a ++ b) k = if k < ((o + total a : Nat) : Int) then sizeFrom o a k else sizeFrom (o + total a) b k := by
  induction a generalizing o with
  | nil =>
    rw [List.nil_append]
    by_cases h : k < ((o + total [] : Nat) : Int)
    · rw [if_pos h, sizeFrom_below o b k h]; rfl
    · rw [if_neg h]; rfl
  | cons x t ih =>
    have h1 := ha x (by simp)
    rw [total_cons, List.cons_append]
    have e1 : ∀ u, sizeFrom o (x :: u) k = if k = (o : Int) then (if x.2 = true then some x.1 else none) else sizeFrom (o + x.1) u k := fun u => rfl
    rw [e1, e1, ih _ (fun y hy => ha y (by simp [hy])), Nat.add_assoc]
    by_cases e : k = (o : Int)
    · have e2 : k < ((o + (x.1 + total t) : Nat) : Int) := by omega
      rw [if_pos e, if_pos e2, if_pos e]
    · rw [if_neg e, if_neg e]
theorem dead_split (o : Nat) (ps : Parts) (k : Int) (x : Nat) (r : List Nat) (h : deadFrom o ps k = x :: r) :
    ∃ (a : Parts) (c : Nat) (b : Parts), ps = a ++ (c, false) :: b ∧ k = (c : Int) ∧ deadFrom o a k = [] ∧ x = o + total a ∧ r = deadFrom (o + total a + c) b k := by
  induction ps generalizing o with
  | nil => cases h
  | cons y t ih =>
    obtain ⟨c, l⟩ := y
    unfold deadFrom at h
    by_cases hc : l = false ∧ (c : Int) = k
    · rw [if_pos hc] at h
      injection h with h1 h2
      obtain ⟨rfl, rfl⟩ := hc
      exact ⟨[], c, t, rfl, rfl, rfl, h1.symm, h2.symm⟩
    · rw [if_neg hc] at h
      obtain ⟨a, c', b, rfl, h2, h3, h4, h5⟩ := ih _ h
      refine ⟨(c, l) :: a, c', b, rfl, h2, ?_, ?_, ?_⟩
      · unfold deadFrom; rw [if_neg hc]; exact h3
      · rw [h4, total_cons]; omega
      · rw [h5, total_cons, show o + (c + total a) + c' = o + c + total a + c' by omega]
theorem live_split (o : Nat) (ps : Parts) (k : Int) (c : Nat) (h : sizeFrom o ps k = some c) : ∃ (a b : Parts), ps = a ++ (c, true) :: b ∧ k = ((o + total a : Nat) : Int) := by
  induction ps generalizing o with
  | nil => cases h
  | cons y t ih =>
    obtain ⟨c', l⟩ := y
    unfold sizeFrom at h
    by_cases hk : k = (o : Int)
    · rw [if_pos hk] at h
      cases l with
      | true =>
        rw [if_pos rfl] at h
        injection h with h1
        subst h1
        exact ⟨[], t, rfl, by rw [hk, total_nil]; rfl⟩
      | false => simp at h
    · rw [if_neg hk] at h
      obtain ⟨a, b, rfl, h2⟩ := ih _ h
      exact ⟨(c', l) :: a, b, rfl, by rw [h2, total_cons]; congr 1; omega⟩
section
variable (a b : Parts) (c : Nat)
theorem total_flip (l l' : Bool) : total (a ++ (c, l) :: b) = total (a ++ (c, l') :: b) := by simp [total]
theorem endOf_flip (l l' : Bool) : endOf (a ++ (c, l) :: b) = endOf (a ++ (c, l') :: b) := by unfold endOf; rw [total_flip a b c l l']
theorem starts_flip (l l' : Bool) : starts (a ++ (c, l) :: b) = starts (a ++ (c, l') :: b) := by unfold starts; rw [startsFrom_split, startsFrom_split]; rfl
theorem fst_flip (l l' : Bool) : (a ++ (c, l) :: b).map (·.1) = (a ++ (c, l') :: b).map (·.1) := by simp
theorem len_flip (l l' : Bool) : (a ++ (c, l) :: b).length = (a ++ (c, l') :: b).length := by simp
theorem liveSum_flip : liveSum (a ++ (c, true) :: b) = liveSum (a ++ (c, false) :: b) + c := by
  rw [liveSum_split, liveSum_split]
  simp only [liveSum]
  simp
  omega
theorem sizeFrom_flip (l l' : Bool) (ha : ∀ y ∈ a, 1 ≤ y.1) (hc : 1 ≤ c) (k : Int) : sizeFrom 16 (a ++ (c, l) :: b) k = if k = ((endOf a : Nat) : Int) then (if l = true then some c else none) else sizeFrom 16 (a ++ (c, l') :: b) k := by
  rw [sizeFrom_split 16 a _ ha, sizeFrom_split 16 a _ ha]
  change (if k < ((endOf a : Nat) : Int) then _ else _) = (if k = ((endOf a : Nat) : Int) then _ else if k < ((endOf a : Nat) : Int) then _ else _)
  have e1 : ∀ m : Bool, sizeFrom (16 + total a) ((c, m) :: b) k = if k = ((endOf a : Nat) : Int) then (if m = true then some c else none) else sizeFrom (16 + total a + c) b k := fun m => rfl
  rw [e1 l, e1 l']
  by_cases h1 : k < ((endOf a : Nat) : Int)
  · rw [if_pos h1, if_neg (by omega), if_pos h1]
  · rw [if_neg h1, if_neg h1]
    by_cases h2 : k = ((endOf a : Nat) : Int)
    · rw [if_pos h2, if_pos h2]
    · rw [if_neg h2, if_neg h2, if_neg h2]
theorem szF_live (ha : ∀ y ∈ a, 1 ≤ y.1) (hc : 1 ≤ c) : szF (a ++ (c, true) :: b) = upd (szF (a ++ (c, false) :: b)) ((endOf a : Nat) : Int) (some (.int .i64 (c : Int))) := by
  funext k
  unfold szF upd
  rw [sizeFrom_flip a b c true false ha hc k]
  by_cases e : k = ((endOf a : Nat) : Int)
  · rw [if_pos e, if_pos e]; rfl
  · rw [if_neg e, if_neg e]
theorem szF_dead (ha : ∀ y ∈ a, 1 ≤ y.1) (hc : 1 ≤ c) : szF (a ++ (c, false) :: b) = upd (szF (a ++ (c, true) :: b)) ((endOf a : Nat) : Int) none := by
  funext k
  unfold szF upd
  rw [sizeFrom_flip a b c false true ha hc k]
  by_cases e : k = ((endOf a : Nat) : Int)
  · rw [if_pos e, if_pos e]; rfl
  · rw [if_neg e, if_neg e]
theorem dead_live (k : Int) : deadFrom 16 (a ++ (c, true) :: b) k = deadFrom 16 a k ++ deadFrom (endOf a + c) b k := by
  rw [deadFrom_split]
  change _ ++ deadFrom (endOf a) ((c, true) :: b) k = _
  conv => lhs; arg 2; unfold deadFrom
  rw [if_neg (by simp)]
theorem dead_dead (k : Int) : deadFrom 16 (a ++ (c, false) :: b) k = if k = (c : Int) then deadFrom 16 a k ++ endOf a :: deadFrom (endOf a + c) b k else deadFrom 16 a k ++ deadFrom (endOf a + c) b k := by
  rw [deadFrom_split]
  change _ ++ deadFrom (endOf a) ((c, false) :: b) k = _
  conv => lhs; arg 2; unfold deadFrom
  by_cases e : k = (c : Int)
  · rw [if_pos ⟨rfl, e.symm⟩, if_pos e]
  · rw [if_neg (fun h => e h.2.symm), if_neg e]
theorem size_here (ha : ∀ y ∈ a, 1 ≤ y.1) (hc : 1 ≤ c) : sizeFrom 16 (a ++ (c, true) :: b) ((endOf a : Nat) : Int) = some c := by
  rw [sizeFrom_flip a b c true false ha hc, if_pos rfl, if_pos rfl]
end
theorem dead_range (o : Nat) (ps : Parts) (k : Int) (hp : ∀ y ∈ ps, 1 ≤ y.1) : ∀ x ∈ deadFrom o ps k, o ≤ x ∧ x < o + total ps := by
  induction ps generalizing o with
  | nil => intro x hx; cases hx
  | cons y t ih =>
    obtain ⟨c, l⟩ := y
    have h1 : 1 ≤ c := hp (c, l) (by simp)
    intro x hx
    have h2 := ih (o + c) (fun z hz => hp z (by simp [hz])) x
    unfold deadFrom at hx
    rw [total_cons]
    split at hx
    · rcases List.mem_cons.1 hx with e | e
      · simp only []; omega
      · have := h2 e; simp only []; omega
    · have := h2 hx; simp only []; omega
theorem dead_rise (o : Nat) (ps : Parts) (k : Int) (hp : ∀ y ∈ ps, 1 ≤ y.1) : (deadFrom o ps k).Pairwise (· < ·) := by
  induction ps generalizing o with
  | nil => exact List.Pairwise.nil
  | cons y t ih =>
    obtain ⟨c, l⟩ := y
    have h1 : 1 ≤ c := hp (c, l) (by simp)
    have h2 := ih (o + c) (fun z hz => hp z (by simp [hz]))
    unfold deadFrom
    split
    · refine List.pairwise_cons.2 ⟨fun x hx => ?_, h2⟩
      have := (dead_range (o + c) t k (fun z hz => hp z (by simp [hz])) x hx).1
      omega
    · exact h2
theorem dead_len (o : Nat) (ps : Parts) (k : Int) : (deadFrom o ps k).length ≤ ps.length := by
  induction ps generalizing o with
  | nil => simp [deadFrom]
  | cons y t ih =>
    obtain ⟨c, l⟩ := y
    unfold deadFrom
    have := ih (o + c)
    split <;> simp <;> omega
end Go.Proofs.Ytpbalilnemjeeaa.Pa
/- What is proved here: a map of ints has no more entries than keys it may hold; so a bound for a store. No condition. -/
set_option linter.unusedVariables false
set_option linter.unusedSimpArgs false
set_option linter.unusedSectionVars false
namespace Go.Proofs.Ytpbalilnemjeeaa
open Go.RowKit Go.Maps
open Go.WideElems (Fit rd rg pl rd_val rd_key rg_of elemAt)
open Go.WideShapes (sorted_perm)
theorem len_of_sub : ∀ (l K : List Int), l.Nodup → (∀ x ∈ l, x ∈ K) → l.length ≤ K.length
  | [], K, _, _ => by simp
  | a :: t, K, hn, h => by
    have ha := h a (by simp)
    have hn2 := List.nodup_cons.1 hn
    have h1 := len_of_sub t (K.erase a) hn2.2 (fun x hx => by
      have h3 := h x (by simp [hx])
      have h4 : x ≠ a := fun e => hn2.1 (e ▸ hx)
      exact (List.mem_erase_of_ne h4).2 h3)
    rw [List.length_erase_of_mem ha] at h1
    have := List.length_pos_of_mem ha
    simp only [List.length_cons]
    omega
def keyInt : Value → Int
  | .int _ n => n
  | _ => 0
theorem key_inv {v : Value} {l : Lit} (h : keyOf Try.prog 3 v = some l) : ∃ k : Int, v = .int .i64 k ∧ l = .int .i64 k ∧ (Lit.int .i64 k).wf = true := by
  rw [keyOf_int Try.underlying3] at h
  cases v <;> simp [mapKey, Try.underlying3] at h
  obtain ⟨⟨rfl, h2⟩, rfl⟩ := h
  exact ⟨_, rfl, rfl, h2⟩
section
variable {T E : TypeId} {R : Value → Option (DataW Unit × List MemPlace)} {zero : Value} {w w1 : World} {b n : Nat} {f : Int → Option Value}
theorem IM.fit (h : IM T E R zero w b n f) (K : List Int) (hK : ∀ k, (Lit.int .i64 k).wf = true → (f k).isSome = true → k ∈ K) (n' : Nat) (hn : K.length = n') : IM T E R zero w b n' f := by
  obtain ⟨D, ⟨es, clock, hb, F, hs, rfl⟩, h2⟩ := h
  refine ⟨_, ⟨es, clock, hb, F, ?_, rfl⟩, h2⟩
  have hkeys : ∀ x ∈ es.toList, ∃ k : Int, x.key = .int .i64 k ∧ (rg Try.prog 3 R x).1 = .int .i64 k ∧ (Lit.int .i64 k).wf = true := by
    intro x hx
    obtain ⟨y, hy⟩ := F.reads x hx
    obtain ⟨k, e1, e2, e3⟩ := key_inv (rd_key hy)
    exact ⟨k, e1, by rw [rg_of hy, e2], e3⟩
  have hlit : ∀ x ∈ es.toList, (rg Try.prog 3 R x).1 = .int .i64 (keyInt x.key) ∧ (Lit.int .i64 (keyInt x.key)).wf = true := by
    intro x hx
    obtain ⟨k, e1, e2, e3⟩ := hkeys x hx
    rw [e1]; exact ⟨e2, e3⟩
  have hap := Maps.fit_apart int_keyed' F
  have h1 : (es.toList.map fun x => keyInt x.key).Nodup := by
    rw [List.nodup_iff_pairwise_ne, List.pairwise_map]
    rw [List.pairwise_map] at hap
    refine hap.imp_of_mem (fun {x y} hx hy hne e => hne ?_)
    rw [(hlit x hx).1, (hlit y hy).1, e]
  have h3 := len_of_sub _ K h1 (fun k hk => by
    obtain ⟨x, hx, rfl⟩ := List.mem_map.1 hk
    obtain ⟨e1, e2⟩ := hlit x hx
    refine hK _ e2 ?_
    rw [← (h2 _ e2).1, has_eq, List.any_eq_true]
    refine ⟨rg Try.prog 3 R x, ?_, ?_⟩
    · exact (sorted_perm _).mem_iff.2 (List.mem_map.2 ⟨x, hx, rfl⟩)
    · rw [e1]; simp [Lit.sameKey])
  simp only [List.length_map, Array.length_toList] at h3
  omega
end
end Go.Proofs.Ytpbalilnemjeeaa
/- What is proved here: the contract of the arena's take where a block of the class is free: the lowest such part lives again, all zero. No condition. -/
namespace Go.Proofs.Ytpbalilnemjeeaa
set_option linter.unusedVariables false
set_option linter.unusedSimpArgs false
open Go.RowKit Pm Pa
theorem fill_zero {w : World} {p q n : Nat} {L : List UInt8} (h : MemAt w p q L n) (off k : Nat) (hf : off + k ≤ n) (O K B : Int) (hO : O = off) (hK : K = k) (hB : B = 0) : Calls Try.prog 71 #[.pointer (some ⟨p, 0, none⟩), .int .i64 O, .int .i64 K, .int .u8 B] w fun e w' =>
    e = .returned (.int .i64 0) ∧ MemAt w' p q (splice L off (List.replicate k 0)) n ∧ Turns [q] w w' := by
  subst hO hK hB
  exact fill_in h off k 0 hf
theorem free_row_turn {w w' : World} {S fb : List Nat} {u : Value} {xs : List Nat} (h : FreeRow w fb u xs) (ht : Turns S w w') (hf : ∀ g, g ∈ fb → ¬ g ∈ S) : FreeRow w' fb u xs := by
  rcases h with h | ⟨g, o, cap, cur, e1, e2, e3, e4⟩
  · exact .inl h
  · exact .inr ⟨g, o, cap, cur, e1, e2, (ht.block g (Array.getElem?_eq_some_iff.1 e3).1 (hf g e2)).trans e3, e4⟩
theorem sz_starts (ps : Parts) (k : Int) (h : (szF ps k).isSome = true) : k ∈ (starts ps).map fun (x : Nat) => (x : Int) := by
  unfold szF at h
  rw [Option.isSome_map] at h
  obtain ⟨c, hc⟩ := Option.isSome_iff_exists.1 h
  obtain ⟨a, b, rfl, rfl⟩ := live_split 16 ps k c hc
  refine List.mem_map.2 ⟨16 + total a, ?_, rfl⟩
  unfold starts
  rw [startsFrom_split]
  exact List.mem_append_right _ (by simp [startsFrom])
theorem sz_fit {w : World} {b n : Nat} {ps : Parts} (h : SM w b n (szF ps)) : SM w b ps.length (szF ps) :=
  IM.fit h ((starts ps).map fun (x : Nat) => (x : Int)) (fun k _ hk => sz_starts ps k hk) _ (by simp [starts, startsFrom_len])
/-- the map of the free blocks: the head of a class is taken off -/
theorem free_head {w : World} {bf c : Nat} {a b : Parts} {fb : List Nat} (h : FreeAt w bf (a ++ (c, false) :: b) fb) (hd : deadFrom 16 a c = []) (hwc : (Lit.int .i64 (c : Int)).wf = true) (hlen : (a ++ (c, false) :: b).length < maxLen) (hbf : ¬ bf ∈ fb) :
    ∃ g o o' n cap, (if cap = 0 then some (⟨g, o, none⟩ : Addr) else some ⟨g, o + 1, none⟩) = some ⟨g, o', none⟩ ∧ (Instr.lookup 126 (.map (some bf)) (.int .i64 (c : Int)) false).run Try.prog w = .ok (.slice (some ⟨g, o, none⟩) (n + 1) (cap + 1)) w ∧ w.cell? ⟨g, o, none⟩ = some (.int .i64 (endOf a : Int)) ∧ n ≤ cap ∧
      ∀ w1, Turns [] w w1 → ∃ w', (Instr.mapUpdate 126 (.map (some bf)) (.int .i64 (c : Int)) (.slice (some ⟨g, o', none⟩) n cap)).run Try.prog w1 = .ok () w' ∧ FreeAt w' bf (a ++ (c, true) :: b) fb ∧ Turns [bf] w1 w' := by
  obtain ⟨f, h1, h2, h3, h4⟩ := h
  have hr := h2 c hwc
  have hdd : deadFrom 16 (a ++ (c, false) :: b) c = endOf a :: deadFrom (endOf a + c) b c := by rw [dead_dead, if_pos rfl, hd, List.nil_append]
  rw [hdd] at hr
  have hlk := FM.look h1 hwc
  rcases hr with ⟨_, e⟩ | ⟨g, o, cap, cur, e1, e2, e3, e4, e5, e7, e6⟩
  · cases e
  · rw [e1] at hlk
    have hfc : f c = some (.slice (some ⟨g, o, none⟩) (endOf a :: deadFrom (endOf a + c) b c).length cap) := by
      cases hfc : f c with
      | none => rw [hfc] at e1; cases e1
      | some u => rw [hfc] at e1; exact congrArg some e1
    simp only [List.length_cons] at e5 hlk hfc
    obtain ⟨cap, rfl⟩ : ∃ k, cap = k + 1 := ⟨cap - 1, by omega⟩
    have hblk : Blk w g cur 3 := e3
    obtain ⟨o', ho', ho1, ho2⟩ : ∃ o', (if cap = 0 then some (⟨g, o, none⟩ : Addr) else some ⟨g, o + 1, none⟩) = some ⟨g, o', none⟩ ∧ o' + cap ≤ cur.size ∧ (cap = 0 ∨ o' = o + 1) := by
      by_cases e : cap = 0
      · exact ⟨o, by rw [if_pos e], by omega, .inl e⟩
      · exact ⟨o + 1, by rw [if_neg e], by omega, .inr rfl⟩
    refine ⟨g, o, o', _, cap, ho', hlk, ?_, by omega, ?_⟩
    · clear ho' ho1 ho2
      rw [hblk.cell o]
      have := e6 0 _ rfl
      simpa using this
    · intro w1 hw1
      replace h1 := h1.turn hw1 (by simp)
      obtain ⟨w', hrun, hF, hT⟩ := IM.store (R := heads) Try.underlying126 h1 hlen hwc (v := .slice (some ⟨g, o', none⟩) (deadFrom (endOf a + c) b c).length cap) (z := _) rfl
      refine ⟨w', hrun, ⟨_, IM.fit hF ((a ++ (c, true) :: b).map fun y => (y.1 : Int)) (fun k _ hk => ?_) _ (by simp), fun k hk => ?_, fun j k u v g' hjk hu hv hgu hgv => ?_, fun k hk => ?_⟩, hT⟩
      · by_cases e : k = (c : Int)
        · subst e; exact List.mem_map.2 ⟨(c, true), by simp, rfl⟩
        · rw [upd_other _ _ _ _ e] at hk
          have := h4 k hk
          simpa using this
      · by_cases e : k = (c : Int)
        · subst e
          rw [upd_same, dead_live, hd, List.nil_append]
          refine .inr ⟨g, o', cap, cur, rfl, e2, ?_, ho1, by omega, by omega, fun i y hi => ?_⟩
          · exact ((hT.block g (Nat.lt_of_lt_of_le hblk.lt hw1.size) (by simp; exact fun e => hbf (e ▸ e2))).trans (hw1.block g hblk.lt (by simp))).trans e3
          · have h9 := e6 (i + 1) y (by simpa using hi)
            have h8 := (List.getElem?_eq_some_iff.1 hi).1
            rw [show o' + i = o + (i + 1) by omega]; exact h9
        · rw [upd_other _ _ _ _ e]
          have e9 : deadFrom 16 (a ++ (c, true) :: b) k = deadFrom 16 (a ++ (c, false) :: b) k := by rw [dead_live, dead_dead, if_neg e]
          rw [e9]
          exact free_row_turn (free_row_turn (h2 k hk) hw1 (by simp)) hT (fun g' hg' => by simp; exact fun e => hbf (e ▸ hg'))
      · have key : ∀ (i : Int) (u : Value) (gg : Nat), upd f c (some (.slice (some ⟨g, o', none⟩) (deadFrom (endOf a + c) b c).length cap)) i = some u → u.ownBlock = some gg → ∃ u', f i = some u' ∧ u'.ownBlock = some gg := by
          intro i u gg hi hg
          by_cases e : i = (c : Int)
          · subst e
            rw [upd_same] at hi
            cases hi
            exact ⟨_, hfc, hg⟩
          · rw [upd_other _ _ _ _ e] at hi
            exact ⟨u, hi, hg⟩
        obtain ⟨u', hu', hgu'⟩ := key j u g' hu hgu
        obtain ⟨v', hv', hgv'⟩ := key k v g' hv hgv
        exact h3 j k u' v' g' hjk hu' hv' hgu' hgv'
      · by_cases e : k = (c : Int)
        · subst e; exact List.mem_map.2 ⟨(c, true), by simp, rfl⟩
        · rw [upd_other _ _ _ _ e] at hk
          have := h4 k hk
          simpa using this
set_option maxHeartbeats 4000000 in
set_option maxRecDepth 100000 in
theorem take_old {w : World} {p c : Nat} {x : Loc} {lim : Nat} {a b : Parts} {L : List UInt8} (h : ArAt w p x lim (a ++ (c, false) :: b) L) (hd : deadFrom 16 a c = []) (hlim : liveSum (a ++ (c, false) :: b) + c ≤ lim) (C : Int) (hC : C = c) :
    Calls Try.prog 65 #[.pointer (some ⟨p, 0, none⟩), .int .i64 C] w fun e w' =>
      e = .returned (.tuple #[.int .i64 (endOf a : Int), .int .i64 0]) ∧ ArAt w' p x lim (a ++ (c, true) :: b) (splice L (endOf a) (List.replicate c 0)) ∧ Turns (x.all p) w w' := by
  subst hC
  obtain ⟨c0, c1, c2, c3, c4, c5, c6⟩ := h.cells
  have hpos := h.pos (c, false) (by simp)
  have hposa : ∀ y ∈ a, 1 ≤ y.1 := fun y hy => by have := (h.pos y (by simp [hy])).1; omega
  have hlen := h.len
  have hlv := h.lv
  have hlm := h.lm
  have hel := h.endle
  have hea : endOf a + c ≤ endOf (a ++ (c, false) :: b) := by unfold endOf; rw [total_app, total_cons]; simp only []; omega
  simp only [] at hpos
  have hwc : (Lit.int .i64 (c : Int)).wf = true := WalkArith.wf_i64 (by omega)
  have hwe : (Lit.int .i64 (endOf a : Int)).wf = true := WalkArith.wf_i64 (by omega)
  obtain ⟨lab, l0, l1, l2, l3, l4, l5, l6, l7⟩ := id h.nd
  have hbf : ¬ x.bf ∈ x.fb := fun hk => by have := l7 _ hk; omega
  obtain ⟨g, o, o', n, cap, hoo, hlk, hcell, hncap, hup⟩ := free_head h.fr hd hwc (by unfold maxLen; omega) hbf
  obtain ⟨w3, hrun, hfr, hT3⟩ := hup w.drew (Turns.refl _ _).drew
  clear hup
  replace hT3 := (Turns.refl [x.bf] w).drew.trans hT3
  have hA := Lib.hid h
  clear h
  obtain ⟨E, hE⟩ : ∃ E, Hid (E = endOf a) := ⟨_, rfl⟩
  rw [← hE.out] at hwe hcell hea ⊢
  obtain ⟨EE, hEE⟩ : ∃ E, Hid (E = endOf (a ++ (c, false) :: b)) := ⟨_, rfl⟩
  replace hfr := Lib.hid hfr
  replace hT3 := Lib.hid hT3
  replace hoo := Lib.hid hoo
  have i1 : (1 : Int) ≤ n + 1 := by omega
  go_enter Try.func65, Try.ntmps65
  go_upto_region 5 with (first
    | (go_at_call 33; refine (ar_end hA.out).mono ?_; rintro e w' ⟨rfl, rfl⟩; rw [← hEE.out])
    | fail)
  go_still_tail 7, (by kernel_rfl)
  rw [hoo.out]
  have hd3 := hA.out.hd.turn hT3.out (fun hk => by simp only [List.mem_singleton] at hk; rw [hk] at l0; omega)
  have hm3 := hA.out.mem.turn hT3.out (fun hk => by simp only [List.mem_singleton] at hk; rw [hk] at l1; omega) (fun hk => by simp only [List.mem_singleton] at hk; rw [hk] at l2; omega)
  have c2 := hd3.cell 2
  replace hd3 := Lib.hid hd3
  replace hm3 := Lib.hid hm3
  clear c0 c1 c3 c4 c5 c6 hcell
  rw [← hEE.out] at hea hel
  go_upto_region 12 with (first
    | (go_at_call 71; refine (fill_zero hm3.out E c (by rw [← hEE.out]; exact hea) _ _ _ rfl rfl rfl).mono ?_; rintro e w4 ⟨rfl, hm4, hT4⟩)
    | fail)
  have hS4 : ∀ k, k ∈ [x.q] → lab k = 2 := by simp [l2]
  have hd4 := hd3.out.turn hT4 (fun hk => by have := hS4 _ hk; omega)
  have hsz4 := (hA.out.sz.turn hT3.out (fun hk => by simp only [List.mem_singleton] at hk; rw [hk] at l3; omega)).turn hT4 (fun hk => by have := hS4 _ hk; omega)
  obtain ⟨w5, hrun5, hsz5, hT5⟩ := SM.store hsz4 (by unfold maxLen; omega) hwe hwc
  have hd5 := hd4.turn hT5 (fun hk => by simp only [List.mem_singleton] at hk; rw [hk] at l0; omega)
  have c5 := hd4.cell 5
  have c1 := hd5.cell 1
  have f1 := hd5.free 1
  clear c2 hsz4
  replace hd5 := Lib.hid hd5
  replace hd4 := Lib.hid hd4
  replace hsz5 := Lib.hid hsz5
  replace hT5 := Lib.hid hT5
  replace hT4 := Lib.hid hT4
  replace hm4 := Lib.hid hm4
  go_wp2_with fail
  go_ret2
  have hTf : Turns [p] w5 (w5.setCell ⟨p, 1, none⟩ (.int .i64 ((liveSum (a ++ (c, false) :: b) : Int) + c))) := (Turns.refl _ _).set p 1 _ (.inl (by simp))
  have s3 : ∀ k, k ∈ [x.bf] → lab k = 4 := by simp [l4]
  have s5 : ∀ k, k ∈ [x.bs] → lab k = 3 := by simp [l3]
  have sf : ∀ k, k ∈ [p] → lab k = 0 := by simp [l0]
  have hrow : ∀ {size n : Nat} {v : Value} {xs : List Value}, w.ownsRow 0 3 size v n xs → (∀ g, g ∈ rows v → lab g = 5 ∨ lab g = 6) → (w5.setCell ⟨p, 1, none⟩ (.int .i64 ((liveSum (a ++ (c, false) :: b) : Int) + c))).ownsRow 0 3 size v n xs := by
    intro size n v xs hr hl
    refine row_turn (row_turn (row_turn (row_turn hr hT3.out ?_) hT4.out ?_) hT5.out ?_) hTf ?_
    · intro g hg hk; have := hl g hg; have := s3 g hk; omega
    · intro g hg hk; have := hl g hg; have := hS4 g hk; omega
    · intro g hg hk; have := hl g hg; have := s5 g hk; omega
    · intro g hg hk; have := hl g hg; have := sf g hk; omega
  have hlive := liveSum_flip a b c
  refine ⟨rfl, ⟨?_, ?_, ?_, ?_, ?_, ?_, hA.out.nd, ?_, ?_, ?_, hlm⟩, ?_⟩
  · have h9 := hd5.out.set 1 (.int .i64 ((liveSum (a ++ (c, false) :: b) : Int) + c))
    rw [hlive, Int.natCast_add]
    simpa using h9
  · rw [endOf_flip a b c true false]
    exact ((hm4.out.turn hT5.out (fun hk => by have := s5 _ hk; omega) (fun hk => by have := s5 _ hk; omega)).turn hTf (fun hk => by have := sf _ hk; omega) (fun hk => by have := sf _ hk; omega))
  · rw [starts_flip a b c true false, len_flip a b c true false]
    exact hrow hA.out.st (fun g hg => .inl (l5 g hg))
  · rw [fst_flip a b c true false, len_flip a b c true false]
    exact hrow hA.out.cl (fun g hg => .inr (l6 g hg))
  · have h9 := hsz5.out
    rw [hE.out, ← szF_live a b c hposa (by omega)] at h9
    exact (sz_fit h9).turn hTf (fun hk => by have := sf _ hk; omega)
  · refine free_turn (free_turn (free_turn hfr.out hT4.out ?_ ?_) hT5.out ?_ ?_) hTf ?_ ?_
    · intro hk; have := hS4 _ hk; omega
    · intro g hg hk; have := hS4 _ hk; have := l7 g hg; omega
    · intro hk; have := s5 _ hk; omega
    · intro g hg hk; have := s5 _ hk; have := l7 g hg; omega
    · intro hk; have := sf _ hk; omega
    · intro g hg hk; have := sf _ hk; have := l7 g hg; omega
  · intro k hk
    exact Nat.lt_of_lt_of_le (hA.out.fl k hk) (Nat.le_trans hT3.out.size (Nat.le_trans hT4.out.size (Nat.le_trans hT5.out.size hTf.size)))
  · intro y hy
    rcases List.mem_append.1 hy with hy | hy
    · exact hA.out.pos y (by simp [hy])
    · rcases List.mem_cons.1 hy with rfl | hy
      · exact hpos
      · exact hA.out.pos y (by simp [hy])
  · rw [hlive]; exact hlim
  · refine (((hT3.out.more (fun y hy => .inl ?_)).trans (hT4.out.more (fun y hy => .inl ?_))).trans (hT5.out.more (fun y hy => .inl ?_))).trans (hTf.more (fun y hy => .inl ?_))
    · simp only [List.mem_singleton] at hy; subst hy; exact (mem_all _).2 (by simp)
    · simp only [List.mem_singleton] at hy; subst hy; exact (mem_all _).2 (by simp)
    · simp only [List.mem_singleton] at hy; subst hy; exact (mem_all _).2 (by simp)
    · simp only [List.mem_singleton] at hy; subst hy; exact (mem_all _).2 (by simp)
end Go.Proofs.Ytpbalilnemjeeaa
/- What is proved here: what a take makes of the parts and of the bytes; why the room is always enough; the contract of the arena's take. No condition. -/
namespace Go.Proofs.Ytpbalilnemjeeaa
set_option linter.unusedVariables false
set_option linter.unusedSimpArgs false
open Go.RowKit Pm Pa Pl
namespace Pa
/-- the parts behind a take of class c -/
def takeP : Parts → Nat → Parts
  | [], c => [(c, true)]
  | (d, l) :: t, c => if l = false ∧ d = c then (c, true) :: t else (d, l) :: takeP t c
/-- the offset that a take of class c answers -/
def takeAt (ps : Parts) (c : Nat) : Nat := (deadFrom 16 ps (c : Int)).headD (endOf ps)
/-- the bytes behind a take of class c -/
def takeB (M : List UInt8) (ps : Parts) (c : Nat) : List UInt8 :=
  match deadFrom 16 ps (c : Int) with
  | [] => M ++ List.replicate c 0
  | o :: _ => splice M o (List.replicate c 0)
theorem takeP_new (o : Nat) (ps : Parts) (c : Nat) (h : deadFrom o ps (c : Int) = []) : takeP ps c = ps ++ [(c, true)] := by
  induction ps generalizing o with
  | nil => rfl
  | cons y t ih =>
    obtain ⟨d, l⟩ := y
    unfold deadFrom at h
    by_cases hc : l = false ∧ (d : Int) = c
    · rw [if_pos hc] at h; cases h
    · rw [if_neg hc] at h
      unfold takeP
      rw [if_neg (fun e => hc ⟨e.1, by rw [e.2]⟩), ih _ h]; rfl
theorem takeP_old (o : Nat) (a b : Parts) (c : Nat) (h : deadFrom o a (c : Int) = []) : takeP (a ++ (c, false) :: b) c = a ++ (c, true) :: b := by
  induction a generalizing o with
  | nil => simp [takeP]
  | cons y t ih =>
    obtain ⟨d, l⟩ := y
    unfold deadFrom at h
    by_cases hc : l = false ∧ (d : Int) = c
    · rw [if_pos hc] at h; cases h
    · rw [if_neg hc] at h
      rw [List.cons_append]
      unfold takeP
      rw [if_neg (fun e => hc ⟨e.1, by rw [e.2]⟩), ih _ h]; rfl
theorem take_case (ps : Parts) (c : Nat) : (deadFrom 16 ps (c : Int) = [] ∧ takeP ps c = ps ++ [(c, true)] ∧ takeAt ps c = endOf ps ∧ ∀ M, takeB M ps c = M ++ List.replicate c 0) ∨
    ∃ a b, ps = a ++ (c, false) :: b ∧ deadFrom 16 a (c : Int) = [] ∧ takeP ps c = a ++ (c, true) :: b ∧ takeAt ps c = endOf a ∧ ∀ M, takeB M ps c = splice M (endOf a) (List.replicate c 0) := by
  cases h : deadFrom 16 ps (c : Int) with
  | nil => exact .inl ⟨rfl, takeP_new 16 ps c h, by unfold takeAt; rw [h]; rfl, fun M => by unfold takeB; rw [h]⟩
  | cons o r =>
    obtain ⟨a, c', b, rfl, e, h1, h2, h3⟩ := dead_split 16 ps c o r h
    have e2 : c' = c := by omega
    subst e2
    exact .inr ⟨a, b, rfl, h1, takeP_old 16 a b _ h1, by unfold takeAt; rw [h]; exact h2, fun M => by unfold takeB; rw [h, h2]; rfl⟩
theorem live_takeP (ps : Parts) (c : Nat) : liveSum (takeP ps c) = liveSum ps + c := by
  rcases take_case ps c with ⟨_, h, _⟩ | ⟨a, b, rfl, _, h, _⟩
  · rw [h, liveSum_app]
  · rw [h, liveSum_flip]
def classes : List Nat := (List.range 17).map (fun j => 16 * 2 ^ j) ++ (List.range 17).map (fun j => 48 * 2 ^ j)
theorem classes_len : classes.length = 34 := by decide
theorem clsN_class {n : Int} (h : 1 ≤ n ∧ n ≤ 1048576) : clsN n ∈ classes := by
  obtain ⟨c, b, o, j, H⟩ := cls_at h.1 h.2
  have h1 : clsN n = c.toNat := by unfold clsN; rw [H.cls]
  have hp : ((2 : Int) ^ j) = ((2 ^ j : Nat) : Int) := by norm_cast
  have hm := H.mul
  rw [hp] at hm
  unfold classes
  rw [h1]
  rcases H.odd with e | e
  · subst e
    exact List.mem_append_left _ (List.mem_map.2 ⟨j, List.mem_range.2 (by have := H.jle; omega), by omega⟩)
  · subst e
    exact List.mem_append_right _ (List.mem_map.2 ⟨j, List.mem_range.2 (by have := H.jle; omega), by omega⟩)
def clsSum (ps : Parts) (c : Nat) : Nat := total (ps.filter fun a => a.1 == c)
theorem clsSum_cons (y : Nat × Bool) (t : Parts) (c : Nat) : clsSum (y :: t) c = (if y.1 = c then y.1 else 0) + clsSum t c := by
  unfold clsSum
  by_cases e : y.1 = c
  · rw [List.filter_cons_of_pos (by simpa using e), total_cons, if_pos e]
  · rw [List.filter_cons_of_neg (by simpa using e), if_neg e, Nat.zero_add]
theorem clsSum_app (a b : Parts) (c : Nat) : clsSum (a ++ b) c = clsSum a c + clsSum b c := by
  unfold clsSum
  rw [List.filter_append, total_app]
theorem clsSum_live (o : Nat) (ps : Parts) (c : Nat) (h : deadFrom o ps (c : Int) = []) : clsSum ps c ≤ liveSum ps := by
  induction ps generalizing o with
  | nil => exact Nat.le_refl _
  | cons y t ih =>
    obtain ⟨d, l⟩ := y
    unfold deadFrom at h
    by_cases hc : l = false ∧ (d : Int) = c
    · rw [if_pos hc] at h; cases h
    · rw [if_neg hc] at h
      have := ih _ h
      rw [clsSum_cons]
      unfold liveSum
      simp only []
      by_cases e : d = c
      · rw [if_pos e, if_pos (by cases l with | true => rfl | false => exact absurd ⟨rfl, by rw [e]⟩ hc)]; omega
      · rw [if_neg e]; omega
theorem sum_ind (K : List Nat) (d : Nat) (h : d ∈ K) (g : Nat → Nat) : d + (K.map g).sum ≤ (K.map fun c => (if d = c then d else 0) + g c).sum := by
  induction K with
  | nil => cases h
  | cons k t ih =>
    simp only [List.map_cons, List.sum_cons]
    have hmono : ∀ t : List Nat, (t.map g).sum ≤ (t.map fun c => (if d = c then d else 0) + g c).sum := by
      intro t
      induction t with
      | nil => simp
      | cons k t ih => simp only [List.map_cons, List.sum_cons]; omega
    have h1 := hmono t
    by_cases e : d = k
    · rw [if_pos e]; omega
    · rcases List.mem_cons.1 h with h | h
      · exact absurd h e
      · have := ih h
        rw [if_neg e]; omega
theorem total_cls (ps : Parts) (K : List Nat) (h : ∀ a ∈ ps, a.1 ∈ K) : total ps ≤ (K.map (clsSum ps)).sum := by
  induction ps with
  | nil => exact Nat.zero_le _
  | cons y t ih =>
    have h1 := ih (fun a ha => h a (by simp [ha]))
    have h2 := sum_ind K y.1 (h y (by simp)) (clsSum t)
    have e : (K.map (clsSum (y :: t))) = K.map fun c => (if y.1 = c then y.1 else 0) + clsSum t c := List.map_congr_left fun c _ => clsSum_cons y t c
    rw [total_cons, e]
    omega
theorem sum_le (K : List Nat) (g : Nat → Nat) (m : Nat) (h : ∀ c, g c ≤ m) : (K.map g).sum ≤ K.length * m := by
  induction K with
  | nil => simp
  | cons k t ih =>
    simp only [List.map_cons, List.sum_cons, List.length_cons, Nat.add_mul, Nat.one_mul]
    have := h k
    omega
/-- no class has more bytes than the limit -/
structure Held (lim : Nat) (ps : Parts) : Prop where
  cl : ∀ a ∈ ps, a.1 ∈ classes
  sum : ∀ c, clsSum ps c ≤ lim
theorem Held.nil (lim : Nat) : Held lim [] := ⟨(fun a ha => by cases ha), fun c => Nat.zero_le _⟩
theorem Held.bound {lim : Nat} {ps : Parts} (h : Held lim ps) (hl : lim ≤ 2097152) : endOf ps ≤ 134217728 := by
  have h1 := total_cls ps classes h.cl
  have h2 := sum_le classes (clsSum ps) lim h.sum
  rw [classes_len] at h2
  unfold endOf
  omega
theorem Held.flip {lim : Nat} {a b : Parts} {c : Nat} {l : Bool} (l' : Bool) (h : Held lim (a ++ (c, l) :: b)) : Held lim (a ++ (c, l') :: b) := by
  refine ⟨fun y hy => ?_, fun d => ?_⟩
  · rcases List.mem_append.1 hy with hy | hy
    · exact h.cl y (by simp [hy])
    · rcases List.mem_cons.1 hy with rfl | hy
      · exact h.cl (c, l) (by simp)
      · exact h.cl y (by simp [hy])
  · have := h.sum d
    rw [clsSum_app, clsSum_cons] at this ⊢
    exact this
theorem Held.take {lim : Nat} {ps : Parts} (h : Held lim ps) (c : Nat) (hc : c ∈ classes) (hl : liveSum ps + c ≤ lim) : Held lim (takeP ps c) := by
  rcases take_case ps c with ⟨hd, e, _⟩ | ⟨a, b, rfl, _, e, _⟩
  · rw [e]
    refine ⟨fun y hy => ?_, fun d => ?_⟩
    · rcases List.mem_append.1 hy with hy | hy
      · exact h.cl y hy
      · simp only [List.mem_singleton] at hy; subst hy; exact hc
    · rw [clsSum_app, clsSum_cons]
      have h0 : clsSum ([] : Parts) d = 0 := rfl
      simp only []
      rw [h0]
      by_cases e2 : c = d
      · subst e2
        have := clsSum_live 16 ps c hd
        rw [if_pos rfl]; omega
      · have := h.sum d
        rw [if_neg e2]; omega
  · rw [e]; exact h.flip true
theorem class_bounds : ∀ c ∈ classes, 16 ≤ c := by decide
theorem splice_take (L : List UInt8) (e o : Nat) (cs : List UInt8) (h : o + cs.length ≤ e) (hL : e ≤ L.length) : (splice L o cs).take e = splice (L.take e) o cs := by
  apply List.ext_getElem?
  intro i
  have hl : (L.take e).length = e := by rw [List.length_take]; omega
  rw [List.getElem?_take]
  by_cases hi : i < e
  · rw [if_pos hi]
    by_cases hin : o ≤ i ∧ i < o + cs.length
    · rw [splice_in _ _ _ (by omega) _ hin.1 hin.2, splice_in _ _ _ (by rw [hl]; exact h) _ hin.1 hin.2]
    · rw [splice_out _ _ _ (by omega) _ (by omega), splice_out _ _ _ (by rw [hl]; exact h) _ (by omega), List.getElem?_take, if_pos hi]
  · rw [if_neg hi]
    symm
    rw [List.getElem?_eq_none_iff, splice_len _ _ _ (by rw [hl]; exact h), hl]; omega
end Pa
/-- take, whatever is free -/
theorem take_any {w : World} {p : Nat} {x : Loc} {lim : Nat} {ps : Parts} {L : List UInt8} (h : ArAt w p x lim ps L) (hF : Held lim ps) (c : Nat) (hcl : c ∈ classes) (hc : 16 ≤ c ∧ c ≤ 1048576) (hlim : liveSum ps + c ≤ lim) (C O : Int) (hC : C = c) (hO : O = takeAt ps c) :
    Calls Try.prog 65 #[.pointer (some ⟨p, 0, none⟩), .int .i64 C] w fun e w' =>
      e = .returned (.tuple #[.int .i64 O, .int .i64 0]) ∧ ∃ x' L', ArAt w' p x' lim (takeP ps c) L' ∧ L'.take (endOf (takeP ps c)) = takeB (L.take (endOf ps)) ps c ∧ Turns (x.all p) w w' ∧ ∀ k, k ∈ x'.all p → k ∈ x.all p ∨ w.heap.size ≤ k := by
  subst hO
  have hFt := hF.take c hcl hlim
  rcases take_case ps c with ⟨hd, e1, e2, e3⟩ | ⟨a, b, rfl, hd, e1, e2, e3⟩
  · have hb := hFt.bound h.lm
    rw [e1, endOf_app] at hb
    refine (take_new h c hc hd hb hlim C hC).mono ?_
    rintro e w' ⟨rfl, x', L', h1, h2, h3, h4⟩
    refine ⟨by rw [e2], x', L', by rw [e1]; exact h1, by rw [e1, e3, endOf_app]; exact h2, h3, h4⟩
  · refine (take_old h hd hlim C hC).mono ?_
    rintro e w' ⟨rfl, h1, h3⟩
    refine ⟨by rw [e2], x, _, by rw [e1]; exact h1, ?_, h3, fun k hk => .inl hk⟩
    rw [e1, e3, endOf_flip a b c true false]
    exact splice_take L _ _ _ (by rw [List.length_replicate]; unfold endOf; rw [total_app, total_cons]; simp only []; omega) h.mem.le
end Go.Proofs.Ytpbalilnemjeeaa
/- What is proved here: the contracts of AllocAll and Alloc, whatever is free. No condition. -/
namespace Go.Proofs.Ytpbalilnemjeeaa
set_option linter.unusedVariables false
set_option linter.unusedSimpArgs false
open Go.RowKit Pm Pa Pl
namespace Pa
def partsP (ps : Parts) (cs : List Nat) : Parts := cs.foldl takeP ps
def offsP : Parts → List Nat → List Nat
  | _, [] => []
  | ps, c :: t => takeAt ps c :: offsP (takeP ps c) t
def bytesP : List UInt8 → Parts → List Nat → List UInt8
  | M, _, [] => M
  | M, ps, c :: t => bytesP (takeB M ps c) (takeP ps c) t
theorem partsP_snoc (ps : Parts) (cs : List Nat) (c : Nat) : partsP ps (cs ++ [c]) = takeP (partsP ps cs) c := by simp [partsP]
theorem offsP_snoc (ps : Parts) (cs : List Nat) (c : Nat) : offsP ps (cs ++ [c]) = offsP ps cs ++ [takeAt (partsP ps cs) c] := by
  induction cs generalizing ps with
  | nil => rfl
  | cons d t ih => simp only [List.cons_append, offsP, ih]; rfl
theorem bytesP_snoc (M : List UInt8) (ps : Parts) (cs : List Nat) (c : Nat) : bytesP M ps (cs ++ [c]) = takeB (bytesP M ps cs) (partsP ps cs) c := by
  induction cs generalizing ps M with
  | nil => rfl
  | cons d t ih => simp only [List.cons_append, bytesP, ih]; rfl
theorem offsP_len (ps : Parts) (cs : List Nat) : (offsP ps cs).length = cs.length := by
  induction cs generalizing ps with
  | nil => rfl
  | cons d t ih => simp [offsP, ih]
theorem live_partsP (ps : Parts) (cs : List Nat) : liveSum (partsP ps cs) = liveSum ps + cs.sum := by
  induction cs generalizing ps with
  | nil => rfl
  | cons d t ih =>
    have h1 : partsP ps (d :: t) = partsP (takeP ps d) t := rfl
    rw [h1, ih, live_takeP, List.sum_cons]; omega
theorem Held.parts {lim : Nat} {ps : Parts} (h : Held lim ps) (cs : List Nat) (hc : ∀ c ∈ cs, c ∈ classes) (hl : liveSum ps + cs.sum ≤ lim) : Held lim (partsP ps cs) := by
  induction cs generalizing ps with
  | nil => exact h
  | cons d t ih =>
    rw [List.sum_cons] at hl
    exact ih (h.take d (hc d (by simp)) (by omega)) (fun c hct => hc c (by simp [hct])) (by rw [live_takeP]; omega)
theorem need_sum (ns : List Int) : need ns = (ns.map clsN).sum := rfl
end Pa
set_option maxHeartbeats 4000000 in
set_option maxRecDepth 100000 in
theorem allocs_gen {w : World} {p : Nat} {x : Loc} {lim : Nat} {ps : Parts} {L : List UInt8} (h : ArAt w p x lim ps L) (hF : Held lim ps) (ns : List Int) (A : Option Addr) (cap : Nat) (hin : IntsIn w A ns)
    (hAp : ∀ g o, A = some ⟨g, o, none⟩ → ¬ g ∈ x.all p) (hv : ∀ n ∈ ns, 1 ≤ n ∧ n ≤ 1048576) (hl : liveSum ps + need ns ≤ lim) (N : Nat) (hN : N = ns.length) :
    Calls Try.prog 21 #[.pointer (some ⟨p, 0, none⟩), .slice A N cap] w fun e w' => ∃ v x' L', e = .returned (.tuple #[v, .int .i64 0]) ∧ ArAt w' p x' lim (partsP ps (ns.map clsN)) L' ∧
      L'.take (endOf (partsP ps (ns.map clsN))) = bytesP (L.take (endOf ps)) ps (ns.map clsN) ∧ Turns (x.all p) w w' ∧ (∀ k, k ∈ x'.all p → k ∈ x.all p ∨ w.heap.size ≤ k) ∧
      w'.ownsRow w.heap.size 3 1 v ns.length (ints (offsP ps (ns.map clsN))) ∧ ∀ g, g ∈ rows v → ¬ g ∈ x'.all p := by
  subst hN
  have hlen := need_ge ns hv
  have hlm := h.lm
  have hlv := h.lv
  have hns : need [] = 0 := rfl
  obtain ⟨c0, c1, _⟩ := h.cells
  have hA := Lib.hid h
  clear h
  replace hin := Lib.hid hin
  replace hAp := Lib.hid hAp
  replace hF := Lib.hid hF
  replace hv := Lib.hid hv
  obtain ⟨i0, hi, hz0, hz1, hz2⟩ := info_parts infoInt
  have hib : i0.bytes * ns.length ≤ 281474976710656 := by rw [hz2]; omega
  replace hi := Lib.hid hi
  replace hz0 := Lib.hid hz0
  replace hz1 := Lib.hid hz1
  replace hz2 := Lib.hid hz2
  go_enter Try.func21, Try.ntmps21
  go_wp2_with fail
  go_loopw [6, 7, 17] (fun a6 a7 a17 wr => ∃ k : Nat, k ≤ ns.length ∧ a6 = .int .i64 (need (ns.take k) : Int) ∧ a7 = .bool false ∧ a17 = .int .i64 (k : Int) ∧ Hid (wr = w)) (fun _ _ i _ => (ns.length - (intOf i).toNat))
  case atStart => exact ⟨0, Nat.zero_le _, rfl, rfl, rfl, rfl⟩
  case round =>
    obtain ⟨k, hk, rfl, rfl, rfl, hw⟩ := hrel
    obtain rfl := hw.out
    clear hw
    by_cases hlt : k < ns.length
    · obtain ⟨n, hn⟩ : ∃ n, Hid (ns[k]? = some n) := ⟨_, List.getElem?_eq_getElem hlt⟩
      have hvn := hv.out n (List.mem_of_getElem? hn.out)
      obtain ⟨g, o, rfl, hc⟩ := hin.out k n hn.out
      have k0 : (0 : Int) ≤ k := by omega
      have k1 : (k : Int) < ns.length := by omega
      have n1 : ¬ n < 1 := by omega
      have n2 : ¬ 1048576 < n := by omega
      have hnl := need_take_le ns k
      have hcn := (clsN_is hvn).2
      go_wp2_with (first
        | (go_at_call 50; refine (class_to n _ hvn).mono ?_; rintro e w' ⟨rfl, rfl⟩)
        | fail)
      go_roundw
      case rel =>
        refine ⟨k + 1, by omega, ?_, rfl, by go_num, by first | rfl | trivial⟩
        rw [take_snoc ns k n hn.out, need_app]
        go_num
      case measure => simp [intOf]; omega
    · obtain rfl : k = ns.length := by omega
      rw [List.take_length]
      obtain ⟨wo, rfl⟩ : ∃ wo : World, wo = wr := ⟨_, rfl⟩
      have g1 : ¬ ((lim : Int) - (liveSum ps : Int)) < (need ns : Int) := by omega
      go_upto_region 11 with (fail)
      go_quiet (fail)
      all_goals go_upto_block 2 with (first
        | (at_make; refine wpList_make_own _ rfl _ _ _ rfl wo.heap.size 3 i0 (.int .i64 0) 1 Try.underlying29 hi.out hz0.out hz1.out .i64 .i64 _ ns.length rfl rfl rfl hib (by unfold maxLen; omega) (by simp) ?_; intro w2 hrow hgr)
        | fail)
      have hT2 : Turns [] wo w2 := ((Turns.refl [] wo).drewN nq).trans ⟨hgr.os, hgr.tape, hgr.output, hgr.size, fun k hk _ => hgr.block k hk (by simp)⟩
      have hA2 : ArAt w2 p x lim ps L := hA.out.turn hT2 (by simp)
      have hlt0 : ∀ k, k ∈ x.all p → k < wo.heap.size := hA.out.lt
      replace hrow : w2.ownsRow wo.heap.size 3 1 (.slice (some ⟨wo.heap.size, 0, none⟩) 0 ns.length) 0 [] := hrow
      obtain ⟨v0, hv0⟩ : ∃ v, Hid (v = Value.slice (some ⟨wo.heap.size, 0, none⟩) 0 ns.length) := ⟨_, rfl⟩
      have hr0 : ∀ g, g ∈ rows v0 → ¬ g ∈ x.all p := by
        intro g hg hk
        rw [hv0.out] at hg
        simp [rows, Value.ownBlock] at hg
        have := hlt0 g hk
        omega
      rw [← hv0.out] at hrow ⊢
      clear hv0 hgr g1 hlt hk c0 c1 hib
      have hwf : (Lit.int .i64 (0 : Int)).wf = true := by decide
      replace hA2 := Lib.hid hA2
      replace hT2 := Lib.hid hT2
      replace hrow := Lib.hid hrow
      replace hr0 := Lib.hid hr0
      replace hlt0 := Lib.hid hlt0
      go_wp2_with fail
      go_loopw [10, 52] (fun a10 a52 wr => ∃ (k : Nat) (v : Value) (xk : Loc) (Lk : List UInt8), k ≤ ns.length ∧ a52 = .int .i64 (k : Int) ∧ v = a10 ∧ Hid (ArAt wr p xk lim (partsP ps ((ns.take k).map clsN)) Lk) ∧
        Hid (Lk.take (endOf (partsP ps ((ns.take k).map clsN))) = bytesP (L.take (endOf ps)) ps ((ns.take k).map clsN)) ∧ Hid (Turns (x.all p) wo wr) ∧ Hid (∀ y, y ∈ xk.all p → y ∈ x.all p ∨ wo.heap.size ≤ y) ∧
        Hid (wr.ownsRow wo.heap.size 3 1 v k (ints (offsP ps ((ns.take k).map clsN)))) ∧ Hid (∀ g, g ∈ rows v → ¬ g ∈ xk.all p)) (fun _ i _ => (ns.length - (intOf i).toNat))
      case atStart =>
        refine ⟨0, v0, x, L, Nat.zero_le _, rfl, rfl, ?_, ?_, hT2.out.more (by simp), fun y hy => .inl hy, hrow, hr0⟩
        · exact hA2
        · unfold Hid; simp [bytesP, partsP]
      case round =>
        obtain ⟨k, v, xk, Lk, hk, rfl, rfl, hAk, hLk, hTk, hfk, hrk, hdk⟩ := hrel
        by_cases hlt : k < ns.length
        · obtain ⟨n, hn⟩ : ∃ n, Hid (ns[k]? = some n) := ⟨_, List.getElem?_eq_getElem hlt⟩
          have hvn := hv.out n (List.mem_of_getElem? hn.out)
          obtain ⟨g, o, rfl, hc0⟩ := hin.out k n hn.out
          have hc : wr.cell? ⟨g, o + k, none⟩ = some (.int .i64 n) := turn_cell hTk.out (hAp.out g o rfl) hc0
          have hcn := (clsN_is hvn).2
          have hst := take_snoc ns k n hn.out
          have hnl := need_take_le ns (k + 1)
          rw [hst, need_app] at hnl
          have hst' := Lib.hid hst
          clear hst
          have k0 : (0 : Int) ≤ k := by omega
          have k1 : (k : Int) < ns.length := by omega
          have hlk : liveSum (partsP ps ((ns.take k).map clsN)) + clsN n ≤ lim := by rw [live_partsP, ← need_sum]; omega
          have hcs := clsN_class hvn
          obtain ⟨O, hO⟩ : ∃ O : Nat, Hid (O = takeAt (partsP ps ((ns.take k).map clsN)) (clsN n)) := ⟨_, rfl⟩
          have hFk := hF.out.parts ((ns.take k).map clsN) (fun c hc => by obtain ⟨m, hm, rfl⟩ := List.mem_map.1 hc; exact clsN_class (hv.out m (List.mem_of_mem_take hm))) (by rw [← need_sum]; omega)
          go_wp2_with (first
            | (go_at_call 50; refine (class_to n _ hvn).mono ?_; rintro e w' ⟨rfl, rfl⟩)
            | (go_at_call 65; refine (take_any hAk.out hFk (clsN n) hcs hcn hlk _ (O : Int) rfl (by rw [hO.out])).mono ?_; rintro e w5 ⟨rfl, x5, L5, hA5, hL5, hT5, hf5⟩; have hr5 := row_turn hrk.out hT5 hdk.out)
            | (at_builtin; refine wpList_append_own_at _ rfl _ _ 29 rfl wo.heap.size 3 i0 (.int .i64 0) 1 8 Try.underlying29 hi.out hz0.out hz1.out hz2.out rfl (by decide) _ _ _ rfl (hr5.alloc _) ⟨w5.heap.size, 0, none⟩ 1 1 [.int .i64 (O : Int)] rfl rfl (cell_one_new _ _ _) (by simp [Value.oneCell']) (by unfold maxLen; omega) (by omega) (by have := hTk.out.size; have := hT5.size; simp; omega) ?_; intro v6 w6 hown hgrow hnil hloc; clear hnil; obtain ⟨g6, cap6, rfl⟩ := ownsRow_succ hown; replace hloc : some g6 = v.ownBlock ∨ g6 = w5.heap.size + 1 := hloc.imp (fun e => e) (fun e => by simpa [Value.ownBlock] using e))
            | fail)
          have hT6 : Turns (rows v) w5 w6 := ((Turns.refl _ w5).alloc _).trans (turns_grown hgrow)
          have hg6 : g6 ∈ rows v ∨ w5.heap.size ≤ g6 := by
            rcases hloc with e | e
            · exact .inl (by rw [rows, ← e]; simp)
            · right; omega
          have hvl : ∀ y, y ∈ rows v → y < wr.heap.size ∧ wo.heap.size ≤ y := fun y hy => ⟨row_lt hrk.out hy, (hrk.out.lt y (by simpa [rows] using hy)).1⟩
          have hv5 : ∀ y, y ∈ x5.all p → ¬ y ∈ rows v := fun y hy hk => by
            rcases hf5 y hy with e | e
            · exact hdk.out y hk e
            · have := (hvl y hk).1; omega
          have hA6 := hA5.turn hT6 hv5
          refine ⟨⟨k + 1, _, x5, L5, by omega, by go_num, rfl, ?_, ?_, ?_, ?_, ?_, ?_⟩, by simp [intOf]; omega⟩
          · rw [hst'.out, List.map_append, List.map_singleton, partsP_snoc]; exact hA6
          · unfold Hid
            rw [hst'.out, List.map_append, List.map_singleton, partsP_snoc, bytesP_snoc, hL5, hLk.out]
          · refine (Turns.next hTk.out hT5 hfk.out).next hT6 (fun y hy => .inr (hvl y hy).2)
          · intro y hy
            rcases hf5 y hy with e | e
            · exact hfk.out y e
            · have := hTk.out.size; exact .inr (by omega)
          · unfold Hid
            rw [hst'.out, List.map_append, List.map_singleton, offsP_snoc, ints_app, ← hO.out]
            exact hown
          · intro y hy hk
            simp [rows, Value.ownBlock] at hy
            subst hy
            rcases hg6 with e | e
            · exact hv5 y hk e
            · have := hA5.lt y hk; omega
        · obtain rfl : k = ns.length := by omega
          rw [List.take_length] at hAk hLk hrk
          go_wp2_with fail
          go_ret2
          exact ⟨v, xk, Lk, rfl, hAk.out, hLk.out, hTk.out, hfk.out, hrk.out, hdk.out⟩
set_option maxHeartbeats 1000000 in
theorem alloc_gen {w : World} {p : Nat} {x : Loc} {lim : Nat} {ps : Parts} {L : List UInt8} (h : ArAt w p x lim ps L) (hF : Held lim ps) (n : Int) (hv : 1 ≤ n ∧ n ≤ 1048576) (hl : liveSum ps + clsN n ≤ lim) :
    Calls Try.prog 28 #[.pointer (some ⟨p, 0, none⟩), .int .i64 n] w fun e w' => ∃ x' L', e = .returned (.tuple #[.int .i64 (takeAt ps (clsN n) : Int), .int .i64 0]) ∧ ArAt w' p x' lim (takeP ps (clsN n)) L' ∧
      L'.take (endOf (takeP ps (clsN n))) = takeB (L.take (endOf ps)) ps (clsN n) ∧ Turns (x.all p) w w' ∧ (∀ k, k ∈ x'.all p → k ∈ x.all p ∨ w.heap.size ≤ k) := by
  have hlt := h.lt
  have hA := Lib.hid (h.alloc (.cells #[.int .i64 n] 3))
  have hn1 : need [n] = clsN n := by simp [need]
  have hin : IntsIn (w.alloc (.cells #[.int .i64 n] 3)) (some ⟨w.heap.size, 0, none⟩) [n] := by
    intro i m hi
    match i with
    | 0 => simp at hi; subst hi; exact ⟨_, _, rfl, (Blk.new w #[.int .i64 n] 3).cell 0⟩
    | i + 1 => simp at hi
  go_enter Try.func28, Try.ntmps28
  go_wp2_with (first
    | (go_at_call 21; refine (allocs_gen hA.out hF [n] _ 1 hin (fun g o e hk => by cases e; exact Nat.lt_irrefl _ (hlt _ hk)) (by simpa using hv) (by rw [hn1]; exact hl) 1 rfl).mono ?_; rintro e w1 ⟨v, x', L', rfl, hA1, hL1, hT1, hf1, hrow, hd1⟩; obtain ⟨g, cap, rfl⟩ := ownsRow_succ (k := 0) hrow; have hc : w1.cell? ⟨g, 0, none⟩ = some (.int .i64 (takeAt ps (clsN n) : Int)) := hrow.cellAt 0 (by simp))
    | fail)
  go_ret2
  refine ⟨x', L', ?_, hA1, hL1, ?_, ?_⟩
  · simp
  · refine ((Turns.refl _ w).alloc _).trans hT1
  · intro k hk
    rcases hf1 k hk with e | e
    · exact .inl e
    · simp at e; exact .inr (by omega)
end Go.Proofs.Ytpbalilnemjeeaa
/- What is proved here: the refusals of AllocAll and Alloc. No condition but that no list is longer than 2 to the power of 40. -/
namespace Go.Proofs.Ytpbalilnemjeeaa
set_option linter.unusedVariables false
set_option linter.unusedSimpArgs false
open Go.RowKit Pm Pa Pl
namespace Pa
def grN (ns : List Int) : Bool := ns.any fun n => decide (1048576 < n)
theorem grN_app (ns : List Int) (n : Int) : grN (ns ++ [n]) = (grN ns || decide (1048576 < n)) := by simp [grN]
theorem clsN_le (n : Int) : clsN n ≤ 1048576 := by
  by_cases h : 1 ≤ n ∧ n ≤ 1048576
  · exact (clsN_is h).2.2
  · unfold clsN; rw [cls_out (by omega)]; decide
theorem clsN_out (n : Int) (h : n < 1 ∨ 1048576 < n) : clsN n = 0 := by unfold clsN; rw [cls_out h]; rfl
theorem need_le (ns : List Int) : need ns ≤ 1048576 * ns.length := by
  induction ns with
  | nil => simp [need]
  | cons n t ih =>
    have := clsN_le n
    simp [need] at ih ⊢
    omega
end Pa
theorem class_all (n : Int) (w : World) (c : Nat) (h : clsN n = c) : Calls Try.prog 50 #[.int .i64 n] w fun e w' => e = .returned (.int .i64 (c : Int)) ∧ w = w' := by
  subst h
  by_cases hn : 1 ≤ n ∧ n ≤ 1048576
  · exact class_to n w hn
  · have h1 := class_any n w
    rw [cls_out (by omega)] at h1
    rw [clsN_out n (by omega)]
    exact h1
set_option maxHeartbeats 4000000 in
set_option maxRecDepth 100000 in
theorem allocs_ask {w : World} {p : Nat} {x : Loc} {lim : Nat} {ps : Parts} {L : List UInt8} (h : ArAt w p x lim ps L) (ns : List Int) (A : Option Addr) (cap : Nat) (hin : IntsIn w A ns) (hlen : ns.length ≤ 1099511627776) (j : Nat) (hj : j < ns.length) (hbad : ∀ n, ns[j]? = some n → n < 1) (hgood : ∀ i n, i < j → ns[i]? = some n → 1 ≤ n) (N : Nat) (hN : N = ns.length) :
    Calls Try.prog 21 #[.pointer (some ⟨p, 0, none⟩), .slice A N cap] w fun e w' => e = .returned (.tuple #[.slice none 0 0, .int .i64 21]) ∧ w = w' := by
  subst hN
  have hlm := h.lm
  have hlv := h.lv
  obtain ⟨c0, c1, _⟩ := h.cells
  clear h
  replace hin := Lib.hid hin
  replace hbad := Lib.hid hbad
  replace hgood := Lib.hid hgood
  go_enter Try.func21, Try.ntmps21
  go_wp2_with fail
  go_loopw [6, 7, 17] (fun a6 a7 a17 wr => ∃ k : Nat, k ≤ j ∧ a6 = .int .i64 (need (ns.take k) : Int) ∧ a7 = .bool (grN (ns.take k)) ∧ a17 = .int .i64 (k : Int) ∧ Hid (wr = w)) (fun _ _ i _ => (ns.length - (intOf i).toNat))
  case atStart => exact ⟨0, Nat.zero_le _, rfl, rfl, rfl, rfl⟩
  case round =>
    obtain ⟨k, hk, rfl, rfl, rfl, hw⟩ := hrel
    obtain rfl := hw.out
    clear hw
    by_cases hlt : k < ns.length
    · obtain ⟨n, hn⟩ : ∃ n, Hid (ns[k]? = some n) := ⟨_, List.getElem?_eq_getElem hlt⟩
      obtain ⟨g, o, rfl, hc⟩ := hin.out k n hn.out
      have k0 : (0 : Int) ≤ k := by omega
      have k1 : (k : Int) < ns.length := by omega
      obtain ⟨cn, hcn⟩ : ∃ cn : Nat, Hid (clsN n = cn) := ⟨_, rfl⟩
      have hcn1 : cn ≤ 1048576 := by rw [← hcn.out]; exact clsN_le n
      have hnl := need_le (ns.take k)
      rw [List.length_take, Nat.min_eq_left (by omega)] at hnl
      obtain ⟨nd, hnd⟩ : ∃ nd : Nat, Hid (need (ns.take k) = nd) := ⟨_, rfl⟩
      obtain ⟨gb, hgb⟩ : ∃ gb : Bool, Hid (grN (ns.take k) = gb) := ⟨_, rfl⟩
      rw [hnd.out] at hnl ⊢
      rw [hgb.out]
      have hst := Lib.hid (take_snoc ns k n hn.out)
      by_cases hkj : k = j
      · subst hkj
        have n1 : n < 1 := hbad.out n hn.out
        go_wp2_with fail
        go_ret2
        exact ⟨rfl, rfl⟩
      have hng := hgood.out k n (by omega) hn.out
      have n1 : ¬ n < 1 := by omega
      rcases gb with _ | _
      · by_cases n2 : 1048576 < n
        · go_wp2_with (first
            | (go_at_call 50; refine (class_all n _ cn hcn.out).mono ?_; rintro e w' ⟨rfl, rfl⟩)
            | fail)
          go_roundw
          case rel =>
            refine ⟨k + 1, by omega, ?_, ?_, by go_num, by first | rfl | trivial⟩
            · rw [hst.out, need_app, hcn.out, hnd.out]; go_num
            · rw [hst.out, grN_app, hgb.out]; simp [n2]
          case measure => simp [intOf]; omega
        · go_wp2_with (first
            | (go_at_call 50; refine (class_all n _ cn hcn.out).mono ?_; rintro e w' ⟨rfl, rfl⟩)
            | fail)
          go_roundw
          case rel =>
            refine ⟨k + 1, by omega, ?_, ?_, by go_num, by first | rfl | trivial⟩
            · rw [hst.out, need_app, hcn.out, hnd.out]; go_num
            · rw [hst.out, grN_app, hgb.out]; simp [n2]
          case measure => simp [intOf]; omega
      · go_wp2_with (first
          | (go_at_call 50; refine (class_all n _ cn hcn.out).mono ?_; rintro e w' ⟨rfl, rfl⟩)
          | fail)
        go_roundw
        case rel =>
          refine ⟨k + 1, by omega, ?_, ?_, by go_num, by first | rfl | trivial⟩
          · rw [hst.out, need_app, hcn.out, hnd.out]; go_num
          · rw [hst.out, grN_app, hgb.out]; simp
        case measure => simp [intOf]; omega
    · omega
set_option maxHeartbeats 4000000 in
set_option maxRecDepth 100000 in
theorem allocs_mem {w : World} {p : Nat} {x : Loc} {lim : Nat} {ps : Parts} {L : List UInt8} (h : ArAt w p x lim ps L) (ns : List Int) (A : Option Addr) (cap : Nat) (hin : IntsIn w A ns) (hlen : ns.length ≤ 1099511627776) (hgood : ∀ n ∈ ns, 1 ≤ n) (hbig : grN ns = true ∨ lim < liveSum ps + need ns) (N : Nat) (hN : N = ns.length) :
    Calls Try.prog 21 #[.pointer (some ⟨p, 0, none⟩), .slice A N cap] w fun e w' => e = .returned (.tuple #[.slice none 0 0, .int .i64 22]) ∧ ∃ m, w' = w.drewN m := by
  subst hN
  have hlm := h.lm
  have hlv := h.lv
  obtain ⟨c0, c1, _⟩ := h.cells
  clear h
  replace hin := Lib.hid hin
  replace hgood := Lib.hid hgood
  replace hbig := Lib.hid hbig
  go_enter Try.func21, Try.ntmps21
  go_wp2_with fail
  go_loopw [6, 7, 17] (fun a6 a7 a17 wr => ∃ k : Nat, k ≤ ns.length ∧ a6 = .int .i64 (need (ns.take k) : Int) ∧ a7 = .bool (grN (ns.take k)) ∧ a17 = .int .i64 (k : Int) ∧ Hid (wr = w)) (fun _ _ i _ => (ns.length - (intOf i).toNat))
  case atStart => exact ⟨0, Nat.zero_le _, rfl, rfl, rfl, rfl⟩
  case round =>
    obtain ⟨k, hk, rfl, rfl, rfl, hw⟩ := hrel
    obtain rfl := hw.out
    clear hw
    by_cases hlt : k < ns.length
    · obtain ⟨n, hn⟩ : ∃ n, Hid (ns[k]? = some n) := ⟨_, List.getElem?_eq_getElem hlt⟩
      obtain ⟨g, o, rfl, hc⟩ := hin.out k n hn.out
      have k0 : (0 : Int) ≤ k := by omega
      have k1 : (k : Int) < ns.length := by omega
      obtain ⟨cn, hcn⟩ : ∃ cn : Nat, Hid (clsN n = cn) := ⟨_, rfl⟩
      have hcn1 : cn ≤ 1048576 := by rw [← hcn.out]; exact clsN_le n
      have hnl := need_le (ns.take k)
      rw [List.length_take, Nat.min_eq_left (by omega)] at hnl
      obtain ⟨nd, hnd⟩ : ∃ nd : Nat, Hid (need (ns.take k) = nd) := ⟨_, rfl⟩
      obtain ⟨gb, hgb⟩ : ∃ gb : Bool, Hid (grN (ns.take k) = gb) := ⟨_, rfl⟩
      rw [hnd.out] at hnl ⊢
      rw [hgb.out]
      have hst := Lib.hid (take_snoc ns k n hn.out)
      have hng := hgood.out n (List.mem_of_getElem? hn.out)
      have n1 : ¬ n < 1 := by omega
      rcases gb with _ | _
      · by_cases n2 : 1048576 < n
        · go_wp2_with (first
            | (go_at_call 50; refine (class_all n _ cn hcn.out).mono ?_; rintro e w' ⟨rfl, rfl⟩)
            | fail)
          go_roundw
          case rel =>
            refine ⟨k + 1, by omega, ?_, ?_, by go_num, by first | rfl | trivial⟩
            · rw [hst.out, need_app, hcn.out, hnd.out]; go_num
            · rw [hst.out, grN_app, hgb.out]; simp [n2]
          case measure => simp [intOf]; omega
        · go_wp2_with (first
            | (go_at_call 50; refine (class_all n _ cn hcn.out).mono ?_; rintro e w' ⟨rfl, rfl⟩)
            | fail)
          go_roundw
          case rel =>
            refine ⟨k + 1, by omega, ?_, ?_, by go_num, by first | rfl | trivial⟩
            · rw [hst.out, need_app, hcn.out, hnd.out]; go_num
            · rw [hst.out, grN_app, hgb.out]; simp [n2]
          case measure => simp [intOf]; omega
      · go_wp2_with (first
          | (go_at_call 50; refine (class_all n _ cn hcn.out).mono ?_; rintro e w' ⟨rfl, rfl⟩)
          | fail)
        go_roundw
        case rel =>
          refine ⟨k + 1, by omega, ?_, ?_, by go_num, by first | rfl | trivial⟩
          · rw [hst.out, need_app, hcn.out, hnd.out]; go_num
          · rw [hst.out, grN_app, hgb.out]; simp
        case measure => simp [intOf]; omega
    · obtain rfl : k = ns.length := by omega
      rw [List.take_length]
      have hnl := need_le ns
      obtain ⟨nd, hnd⟩ : ∃ nd : Nat, Hid (need ns = nd) := ⟨_, rfl⟩
      obtain ⟨gb, hgb⟩ : ∃ gb : Bool, Hid (grN ns = gb) := ⟨_, rfl⟩
      obtain ⟨wo, rfl⟩ : ∃ wo : World, wo = wr := ⟨_, rfl⟩
      have hb2 := hbig.out
      rw [hnd.out, hgb.out] at hb2
      rw [hnd.out] at hnl ⊢
      rw [hgb.out]
      rcases gb with _ | _
      · have g1 : ((lim : Int) - (liveSum ps : Int)) < (nd : Int) := by
          rcases hb2 with e | e
          · cases e
          · omega
        clear hb2
        go_upto_region 11 with (fail)
        go_quiet (fail)
        all_goals go_wp2_with fail
        all_goals go_ret2
        all_goals exact ⟨rfl, _, rfl⟩
      · clear hb2
        go_upto_region 11 with (fail)
        go_quiet (fail)
        all_goals go_wp2_with fail
        all_goals go_ret2
        all_goals exact ⟨rfl, _, rfl⟩
set_option maxHeartbeats 1000000 in
theorem alloc_ask {w : World} {p : Nat} {x : Loc} {lim : Nat} {ps : Parts} {L : List UInt8} (h : ArAt w p x lim ps L) (n : Int) (hn : n < 1) :
    Calls Try.prog 28 #[.pointer (some ⟨p, 0, none⟩), .int .i64 n] w fun e w' => e = .returned (.tuple #[.int .i64 0, .int .i64 21]) ∧ Below w.heap.size w w' := by
  have hA := Lib.hid (h.alloc (.cells #[.int .i64 n] 3))
  have hin : IntsIn (w.alloc (.cells #[.int .i64 n] 3)) (some ⟨w.heap.size, 0, none⟩) [n] := by
    intro i m hi
    match i with
    | 0 => simp at hi; subst hi; exact ⟨_, _, rfl, (Blk.new w #[.int .i64 n] 3).cell 0⟩
    | i + 1 => simp at hi
  go_enter Try.func28, Try.ntmps28
  go_wp2_with (first
    | (go_at_call 21; refine (allocs_ask hA.out [n] _ 1 hin (by simp) 0 (by simp) (by simpa using hn) (by intro i m hi; omega) 1 rfl).mono ?_; rintro e w1 ⟨rfl, rfl⟩)
    | fail)
  go_ret2
  exact ⟨rfl, (Below.refl _ _).alloc (Nat.le_refl _) _⟩
set_option maxHeartbeats 1000000 in
theorem alloc_mem {w : World} {p : Nat} {x : Loc} {lim : Nat} {ps : Parts} {L : List UInt8} (h : ArAt w p x lim ps L) (n : Int) (hn : 1 ≤ n) (hb : 1048576 < n ∨ lim < liveSum ps + clsN n) :
    Calls Try.prog 28 #[.pointer (some ⟨p, 0, none⟩), .int .i64 n] w fun e w' => e = .returned (.tuple #[.int .i64 0, .int .i64 22]) ∧ Below w.heap.size w w' := by
  have hA := Lib.hid (h.alloc (.cells #[.int .i64 n] 3))
  have hin : IntsIn (w.alloc (.cells #[.int .i64 n] 3)) (some ⟨w.heap.size, 0, none⟩) [n] := by
    intro i m hi
    match i with
    | 0 => simp at hi; subst hi; exact ⟨_, _, rfl, (Blk.new w #[.int .i64 n] 3).cell 0⟩
    | i + 1 => simp at hi
  go_enter Try.func28, Try.ntmps28
  go_wp2_with (first
    | (go_at_call 21; refine (allocs_mem hA.out [n] _ 1 hin (by simp) (by simpa using hn) (by simpa [grN, need] using hb) 1 rfl).mono ?_; rintro e w1 ⟨rfl, m, rfl⟩)
    | fail)
  go_ret2
  exact ⟨rfl, below_drewN ((Below.refl _ _).alloc (Nat.le_refl _) _) _⟩
end Go.Proofs.Ytpbalilnemjeeaa
