/- What is proved here: what stands while the law's own plays looks at its lists behind a Write. No condition. -/
import Derived.Test.YtkchhggbiopffaaPRoomy
namespace Go.Proofs.Ytkchhggbiopffaa
set_option linter.unusedVariables false
set_option linter.unusedSimpArgs false
open Go.RowKit Pm
structure Wr (w : World) (base p q r : Nat) (L : List UInt8) (n : Nat) (V V' : Value) (A' : List ActV) (ob : Nat) (opc : Array Value) (A0 : Option Addr) (ss : List ByteArray) (lv wv : Value) (xs ys : List Value) (gl j : Nat) (W : World) : Prop where
  pair : Pair W p q r L n V' A'
  turns : Turns (p :: q :: r :: V.ownBlock.toList) w W
  blk : Blk W ob opc 59
  strs : StrsAt W A0 ss
  l : W.ownsRow base 27 1 lv (ss.length + 1) (xs ++ [.slice (some ⟨gl, 0, none⟩) 6 6])
  m : W.ownsRow base 27 1 wv ss.length ys
  len : xs.length = ss.length
  last : W.heap[gl]? = some (.cells #[.int .u8 98, .int .u8 101, .int .u8 104, .int .u8 105, .int .u8 110, .int .u8 100] 5 (6, 7))
  inc : Inc xs gl
  parts : ∀ (i : Nat) (s : ByteArray), j ≤ i → ss[i]? = some s → ∃ v u, xs[i]? = some v ∧ ys[i]? = some u ∧ PartIn W base v u s.data.toList
  hp : p < base
  hq : q < base
  hr : r < base
  ho : ob < base
  hs : ∀ a, A0 = some a → ss ≠ [] → a.block < base
  hb : w.heap.size ≤ base
  hgl : base ≤ gl
section
variable {w W W' : World} {base p q r : Nat} {L : List UInt8} {n : Nat} {V V' : Value} {A' : List ActV} {ob : Nat} {opc : Array Value} {A0 : Option Addr} {ss : List ByteArray} {lv wv : Value} {xs ys : List Value} {gl j : Nat}
theorem row_ne {g size k : Nat} {e : TypeId} {v : Value} {xs : List Value} {X : List UInt8} {c : Nat} (h : W.ownsRow base e size v k xs) (hb : BB W g X c) (he : e ≠ 5) : v.ownBlock ≠ some g := by
  intro e1
  rcases h.2 with ⟨rfl, _⟩ | ⟨g', cap, cur, rfl, h1, h2, h3⟩
  · cases e1
  · obtain rfl : g' = g := by simpa [Value.ownBlock] using e1
    obtain ⟨cur2, m2, hg, _⟩ := hb
    rw [hg] at h2
    injection h2 with h2
    injection h2 with _ h4 _
    exact he h4.symm
theorem row_turn {g size k : Nat} {e : TypeId} {v : Value} {xs : List Value} (h : W.ownsRow base e size v k xs) (hn : v.ownBlock ≠ some g) (ht : Turns [g] W W') : W'.ownsRow base e size v k xs :=
  row_keep h (fun g' hg' => ht.block g' (row_lt h g' hg') (fun hm => by simp at hm; subst hm; exact hn hg'))
theorem Wr.next (h : Wr w base p q r L n V V' A' ob opc A0 ss lv wv xs ys gl j W) : Wr w base p q r L n V V' A' ob opc A0 ss lv wv xs ys gl (j + 1) W :=
  { h with parts := fun i s hi => h.parts i s (by omega) }
/-- one list's bytes are written over: all that is asked later stays -/
theorem Wr.over (h : Wr w base p q r L n V V' A' ob opc A0 ss lv wv xs ys gl (j + 1) W) {g c : Nat} {X : List UInt8} {vj : Value} (hj : xs[j]? = some vj) (hg : blkOf vj = g) (hbg : base ≤ g) (hbb : BB W g X c) (ht : Turns [g] W W') :
    Wr w base p q r L n V V' A' ob opc A0 ss lv wv xs ys gl (j + 1) W' := by
  have hgl : g < gl := by rw [← hg]; exact h.inc.2 j vj hj
  refine ⟨⟨h.pair.mem.turn ht (by simp; have := h.hp; omega) (by simp; have := h.hq; omega), h.pair.ref.turn ht (by simp; have := h.hr; omega) (fun g' hg' => ?_)⟩, ?_, h.blk.turn ht (by simp; have := h.ho; omega), fun i s hi => ?_, row_turn h.l (row_ne h.l hbb (by decide)) ht, row_turn h.m (row_ne h.m hbb (by decide)) ht, h.len, ?_, h.inc, fun i s hi hs => ?_, h.hp, h.hq, h.hr, h.ho, h.hs, h.hb, h.hgl⟩
  · intro hm
    simp at hm
    subst hm
    exact row_ne h.pair.ref.row hbb (by decide) hg'
  · exact h.turns.next ht (fun x hx => Or.inr (by simp at hx; subst hx; have := h.hb; omega))
  · obtain ⟨a, o, e, hc⟩ := h.strs i s hi
    refine ⟨a, o, e, turn_cell ht ?_ hc⟩
    have := h.hs _ e (by rintro rfl; simp at hi)
    simp at this ⊢; omega
  · exact (ht.block gl (Array.getElem?_eq_some_iff.1 h.last).1 (by simp; omega)).trans h.last
  · obtain ⟨v, u, h1, h2, g', c', e1, e2, h3, h4⟩ := h.parts i s hi hs
    refine ⟨v, u, h1, h2, g', c', e1, e2, h3, h4.at (ht.block g' h4.lt (fun hm => ?_))⟩
    simp at hm
    have := h.inc.1 j i vj v (by omega) hj h1
    rw [hg, e1] at this
    simp [blkOf, Value.ownBlock] at this
    omega
theorem BB.set {w : World} {g c : Nat} {X : List UInt8} (h : BB w g X c) (k : Nat) (b : UInt8) (hk : k < X.length) : BB (w.setCell ⟨g, k, none⟩ (.int .u8 (b.toNat : Int))) g (X.set k b) c := by
  obtain ⟨cur, m, hg, hs, hf, hl, hc⟩ := h
  refine ⟨cur.setIfInBounds k (.int .u8 (b.toNat : Int)), m, by simp [World.setCell, Array.getElem?_modify, hg], by simpa using hs, hf, by simpa using hl, fun i y hi => ?_⟩
  rw [Array.getElem?_setIfInBounds]
  rw [List.getElem?_set] at hi
  by_cases e : k = i
  · subst e
    rw [if_pos rfl, if_pos hk] at hi
    obtain rfl := Option.some.inj hi
    rw [if_pos rfl, if_pos (by omega)]
  · rw [if_neg e] at hi
    rw [if_neg e]
    exact hc i y hi
theorem own_at {k : Nat} {v : Value} {xs : List Value} (h : W.ownsRow base 27 1 v k xs) (hn : 0 < k) : ∃ g cap, v = .slice (some ⟨g, 0, none⟩) k cap ∧ base ≤ g ∧ k ≤ cap ∧ ∀ (j : Nat) (u : Value), xs[j]? = some u → W.cell? ⟨g, j, none⟩ = some u := own_some h hn
theorem Wr.drew (h : Wr w base p q r L n V V' A' ob opc A0 ss lv wv xs ys gl j W) : Wr w base p q r L n V V' A' ob opc A0 ss lv wv xs ys gl j W.drew :=
  ⟨h.pair.drew, h.turns.drew, h.blk, h.strs, h.l, h.m, h.len, h.last, h.inc, h.parts, h.hp, h.hq, h.hr, h.ho, h.hs, h.hb, h.hgl⟩
theorem Wr.drewN (h : Wr w base p q r L n V V' A' ob opc A0 ss lv wv xs ys gl j W) (t : Nat) : Wr w base p q r L n V V' A' ob opc A0 ss lv wv xs ys gl j (W.drewN t) :=
  ⟨h.pair.drewN t, h.turns.drewN t, h.blk, h.strs, h.l, h.m, h.len, h.last, h.inc, h.parts, h.hp, h.hq, h.hr, h.ho, h.hs, h.hb, h.hgl⟩
/-- the list of lists as Write takes it -/
theorem Wr.handed (h : Wr w base p q r L n V V' A' ob opc A0 ss lv wv xs ys gl 0 W) {g cap : Nat} (hc : ∀ (j : Nat) (u : Value), (xs ++ [Value.slice (some ⟨gl, 0, none⟩) 6 6])[j]? = some u → W.cell? ⟨g, j, none⟩ = some u) (hg : base ≤ g) : PartsAt W q (some ⟨g, 0, none⟩) (ss.map (fun s => s.data.toList)) := by
  intro i t hi
  rw [List.getElem?_map] at hi
  obtain ⟨s, hs, rfl⟩ := Option.map_eq_some_iff.1 hi
  obtain ⟨v, u, d1, d2, d3⟩ := h.parts i s (Nat.zero_le _) hs
  refine ⟨g, 0, v, rfl, by have := h.hq; omega, ?_, d3.at h.hq⟩
  rw [Nat.zero_add]
  exact hc i v (by rw [List.getElem?_append_left (List.getElem?_eq_some_iff.1 d1).1]; exact d1)
/-- behind a call that turns only some old blocks other than those that are read -/
theorem Wr.call {S : List Nat} (h : Wr w base p q r L n V V' A' ob opc A0 ss lv wv xs ys gl j W) (ht : Turns S W W') (hS : ∀ x, x ∈ S → x = p ∨ x = q ∨ x = r ∨ V.ownBlock = some x) (hV : ∀ x, V.ownBlock = some x → x < base ∧ x ≠ ob ∧ (∀ a, A0 = some a → ss ≠ [] → x ≠ a.block)) (hpo : p ≠ ob) (hqo : q ≠ ob) (hro : r ≠ ob)
    (hsa : ∀ a, A0 = some a → ss ≠ [] → a.block ≠ p ∧ a.block ≠ q ∧ a.block ≠ r) {L' : List UInt8} {V2 : Value} {A2 : List ActV} (hP : Pair W' p q r L' n V2 A2) :
    Wr w base p q r L' n V V2 A2 ob opc A0 ss lv wv xs ys gl j W' := by
  have hlow : ∀ x, x ∈ S → x < base := fun x hx => by
    rcases hS x hx with rfl | rfl | rfl | e
    · exact h.hp
    · exact h.hq
    · exact h.hr
    · exact (hV x e).1
  have hrow : ∀ {v : Value} {k : Nat} {zs : List Value}, W.ownsRow base 27 1 v k zs → W'.ownsRow base 27 1 v k zs := fun hr => row_keep hr (fun g' hg' => ht.block g' (row_lt hr g' hg') (fun hm => by have := hlow _ hm; have := row_base hr g' hg'; omega))
  refine ⟨hP, h.turns.trans (ht.more (fun x hx => Or.inl ?_)), h.blk.turn ht ?_, fun i s hi => ?_, hrow h.l, hrow h.m, h.len, ?_, h.inc, fun i s hi hs => ?_, h.hp, h.hq, h.hr, h.ho, h.hs, h.hb, h.hgl⟩
  · rcases hS x hx with rfl | rfl | rfl | e <;> simp_all
  · intro hm
    rcases hS _ hm with e | e | e | e
    · exact hpo e.symm
    · exact hqo e.symm
    · exact hro e.symm
    · exact (hV _ e).2.1 rfl
  · obtain ⟨a, o, e, hc⟩ := h.strs i s hi
    have hne : ss ≠ [] := by rintro rfl; simp at hi
    refine ⟨a, o, e, turn_cell ht (fun hm => ?_) hc⟩
    have ha := hsa _ e hne
    rcases hS _ hm with e2 | e2 | e2 | e2
    · exact ha.1 e2
    · exact ha.2.1 e2
    · exact ha.2.2 e2
    · exact (hV _ e2).2.2 _ e hne rfl
  · exact (ht.block gl (Array.getElem?_eq_some_iff.1 h.last).1 (fun hm => by have := hlow _ hm; have := h.hgl; omega)).trans h.last
  · obtain ⟨v, u, h1, h2, g', c', e1, e2, h3, h4⟩ := h.parts i s hi hs
    exact ⟨v, u, h1, h2, g', c', e1, e2, h3, h4.at (ht.block g' h4.lt (fun hm => by have := hlow _ hm; omega))⟩
end
end Go.Proofs.Ytkchhggbiopffaa
