/- What is proved here: an arena with a list of the call's own beside it, through Alloc and Free; the numbers of the holes. No condition. -/
import Derived.Test.YtpbalilnemjeeaaALowP
import Derived.Test.YtpbalilnemjeeaaGF
import Derived.Test.YtpbalilnemjeeaaGB
import Derived.Test.YtpbalilnemjeeaaGA
namespace Go.Proofs.Ytpbalilnemjeeaa
set_option linter.unusedVariables false
set_option linter.unusedSimpArgs false
open Go.RowKit Pm Pa Pl
structure Lw (w0 : World) (B p : Nat) (x : Loc) (lim : Nat) (ps : Parts) (L : List UInt8) (v : Value) (es : List Int) (w : World) : Prop where
  ars : AS w0 p x lim ps L w
  held : Held lim ps
  row : w.ownsRow B 3 1 v es.length (es.map (Value.int .i64))
  out : ∀ g, g ∈ rows v → ¬ g ∈ x.all p
  hB : w0.heap.size ≤ B
section
variable {w0 w w' : World} {B p : Nat} {x : Loc} {lim : Nat} {ps : Parts} {L : List UInt8} {v : Value} {es : List Int}
theorem Lw.moved (h : Lw w0 B p x lim ps L v es w) {x' : Loc} {ps' : Parts} {L' : List UInt8} (ht : Turns (x.all p) w w') (ha : ArAt w' p x' lim ps' L') (hf : ∀ k, k ∈ x'.all p → k ∈ x.all p ∨ w.heap.size ≤ k) (hF : Held lim ps') : Lw w0 B p x' lim ps' L' v es w' :=
  ⟨h.ars.turned ht ha hf, hF, row_turn h.row ht h.out, fun g hg hk => by
    rcases hf g hk with e | e
    · exact h.out g hg e
    · exact absurd (row_lt h.row hg) (Nat.not_lt.2 e), h.hB⟩
theorem Lw.keep (h : Lw w0 B p x lim ps L v es w) (hb : Below w.heap.size w w') : Lw w0 B p x lim ps L v es w' :=
  h.moved (Turns.of_below hb) (h.ars.ar.keep hb) (fun k hk => .inl hk) h.held
theorem lw_alloc (h : Lw w0 B p x lim ps L v es w) (n : Int) (hv : 1 ≤ n ∧ n ≤ 1048576) (c : Nat) (hc : clsN n = c) (hl : liveSum ps + c ≤ lim) (off : Int) (ho : (takeAt ps c : Int) = off) :
    Calls Try.prog 28 #[.pointer (some ⟨p, 0, none⟩), .int .i64 n] w fun e w' => ∃ x' L', e = .returned (.tuple #[.int .i64 off, .int .i64 0]) ∧ Lw w0 B p x' lim (takeP ps c) L' v es w' := by
  subst hc ho
  refine (alloc_gen h.ars.ar h.held n hv hl).mono ?_
  rintro e w' ⟨x', L', rfl, h1, _, h3, h4⟩
  exact ⟨x', L', rfl, h.moved h3 h1 h4 (h.held.take _ (clsN_class hv) hl)⟩
theorem lw_no (h : Lw w0 B p x lim ps L v es w) (n : Int) (hv : 1 ≤ n) (c : Nat) (hc : clsN n = c) (hl : lim < liveSum ps + c) :
    Calls Try.prog 28 #[.pointer (some ⟨p, 0, none⟩), .int .i64 n] w fun e w' => e = .returned (.tuple #[.int .i64 0, .int .i64 22]) ∧ Lw w0 B p x lim ps L v es w' := by
  subst hc
  refine (alloc_mem h.ars.ar n hv (.inr hl)).mono ?_
  rintro e w' ⟨rfl, hb⟩
  exact ⟨rfl, h.keep hb⟩
theorem lw_free (h : Lw w0 B p x lim ps L v es w) (E : Int) (hE : (sizeFrom 16 ps E).isSome = true) :
    Calls Try.prog 32 #[.pointer (some ⟨p, 0, none⟩), .slice (some ⟨w.heap.size, 0, none⟩) 1 1] (w.alloc (.cells #[.int .i64 E] 3)) fun e w' => ∃ x', e = .returned (.int .i64 0) ∧ Lw w0 B p x' lim (freeP ps E) L v es w' := by
  have h1 := h.keep ((Below.refl _ _).alloc (Nat.le_refl _) (.cells #[.int .i64 E] 3))
  have hb := Blk.new w #[.int .i64 E] 3
  refine (free_yes h1.ars.ar [E] w.heap.size 0 1 1 rfl ?_ (Nat.le_refl _) (fun hk => Nat.lt_irrefl _ (h.ars.ar.lt _ hk)) (by omega) (fun e he => by simp at he; subst he; exact hE) (by simp)).mono ?_
  · intro i n hi
    cases i with
    | zero => simp at hi; subst hi; exact ⟨_, _, rfl, hb.cell 0⟩
    | succ i => simp at hi
  · rintro e w' ⟨rfl, x', h2, h3, h4⟩
    exact ⟨x', rfl, h1.moved h3 h2 h4 (Held.fst h.held (deadP_fst 16 ps E))⟩
theorem Lw.append {v' : Value} {E : Int} (h : Lw w0 B p x lim ps L v es w) (hx : ∀ k, k ∈ x.all p → k < B) (hown : w'.ownsRow B 3 1 v' (es.length + 1) (es.map (Value.int .i64) ++ [E].map (Value.int .i64))) (hg : (w.alloc (.cells #[.int .i64 E] 3)).grownBy w' v.ownBlock) : Lw w0 B p x lim ps L v' (es ++ [E]) w' := by
  have t1 : Turns (rows v) w w' := ((Turns.refl _ w).alloc _).trans (turns_grown hg)
  have hge : ∀ g, g ∈ rows v → B ≤ g := fun g hg => (h.row.lt g (by simpa [rows] using hg)).1
  refine ⟨⟨Turns.below h.ars.below t1 (fun k hk => Nat.le_trans h.hB (hge k hk)) h.ars.below.size, h.ars.ar.turn t1 (fun k hk e => h.out k e hk), h.ars.own⟩, h.held, ?_, fun g hg hk => ?_, h.hB⟩
  · rw [List.length_append, List.map_append]; exact hown
  · have := (hown.lt g (by simpa [rows] using hg)).1
    have := hx g hk
    omega
theorem Lw.slice (h : Lw w0 B p x lim ps L v es w) : ∃ A cap, v = .slice A es.length cap ∧ IntsIn w A es := by
  obtain ⟨A, cap, e, hi, _⟩ := own_slice h.row
  exact ⟨A, cap, e, hi⟩
end
def hole (H i : Nat) : Bool := decide (H / 2 ^ i % 2 = 1)
def FL (H k : Nat) : List Nat := (List.range k).filter (hole H)
def offI (c i : Nat) : Int := ((16 + i * c : Nat) : Int)
theorem FL_succ (H k : Nat) : FL H (k + 1) = if hole H k = true then FL H k ++ [k] else FL H k := by
  unfold FL
  rw [List.range_succ, List.filter_append]
  by_cases h : hole H k = true
  · rw [if_pos h]; simp [h]
  · rw [if_neg h]; simp [h]
theorem FL_lt (H k : Nat) : ∀ i ∈ FL H k, i < k := fun i hi => by
  have := (List.mem_filter.1 hi).1
  simpa using this
theorem FL_rise (H k : Nat) : (FL H k).Pairwise (· < ·) := List.Pairwise.filter _ List.pairwise_lt_range
theorem FL_len (H k : Nat) : (FL H k).length ≤ k := Nat.le_trans (List.length_filter_le _ _) (by simp)
/-- live just where not named -/
def bS (S : List Nat) : Nat → Bool := fun j => !S.contains j
theorem bS_nil (j : Nat) : bS [] j = true := by simp [bS]
theorem bS_in {S : List Nat} {i : Nat} (h : i ∈ S) : bS S i = false := by simp [bS, h]
theorem bS_out {S : List Nat} {i : Nat} (h : ¬ i ∈ S) : bS S i = true := by simp [bS, h]
theorem rise_ne {F : List Nat} (h : F.Pairwise (· < ·)) {i j a b : Nat} (hij : i < j) (hi : F[i]? = some a) (hj : F[j]? = some b) : a < b := by
  obtain ⟨h1, rfl⟩ := List.getElem?_eq_some_iff.1 hi
  obtain ⟨h2, rfl⟩ := List.getElem?_eq_some_iff.1 hj
  exact List.pairwise_iff_getElem.1 h i j h1 h2 hij
theorem not_take {F : List Nat} (h : F.Pairwise (· < ·)) {k i : Nat} (hk : F[k]? = some i) : ¬ i ∈ F.take k := fun hm => by
  obtain ⟨j, hj⟩ := List.mem_iff_getElem?.1 hm
  rw [List.getElem?_take] at hj
  split at hj
  · have := rise_ne h (by assumption) hj hk; omega
  · cases hj
theorem drop_at {F : List Nat} {k i : Nat} (hk : F[k]? = some i) : F.drop k = i :: F.drop (k + 1) := by
  obtain ⟨h1, rfl⟩ := List.getElem?_eq_some_iff.1 hk
  exact List.drop_eq_getElem_cons h1
theorem not_drop {F : List Nat} (h : F.Pairwise (· < ·)) {k i : Nat} (hk : F[k]? = some i) : ¬ i ∈ F.drop (k + 1) := fun hm => by
  obtain ⟨j, hj⟩ := List.mem_iff_getElem?.1 hm
  rw [List.getElem?_drop] at hj
  have := rise_ne h (show k < k + 1 + j by omega) hk hj; omega
theorem low_drop {F : List Nat} (h : F.Pairwise (· < ·)) {k i j : Nat} (hk : F[k]? = some i) (hj : j < i) : ¬ j ∈ F.drop k := fun hm => by
  obtain ⟨m, hm'⟩ := List.mem_iff_getElem?.1 hm
  rw [List.getElem?_drop] at hm'
  cases m with
  | zero => rw [Nat.add_zero, hk] at hm'; cases hm'; omega
  | succ m => have := rise_ne h (show k < k + (m + 1) by omega) hk hm'; omega
theorem setB_up (F : List Nat) (k i : Nat) (hk : F[k]? = some i) (j : Nat) : setB (bS (F.take k)) i false j = bS (F.take (k + 1)) j := by
  have e : F.take (k + 1) = F.take k ++ [i] := by rw [List.take_add_one, hk]; rfl
  unfold setB bS
  rw [e]
  by_cases h : j = i
  · rw [if_pos h]; simp [h]
  · rw [if_neg h]; simp [h]
theorem setB_down (F : List Nat) (k i : Nat) (hk : F[k]? = some i) (j : Nat) : setB (bS (F.drop (k + 1))) i false j = bS (F.drop k) j := by
  rw [drop_at hk]
  unfold setB bS
  by_cases h : j = i
  · rw [if_pos h]; simp [h]
  · rw [if_neg h]; simp [h]
theorem setB_live {F : List Nat} (h : F.Pairwise (· < ·)) (k i : Nat) (hk : F[k]? = some i) (j : Nat) : setB (bS (F.drop k)) i true j = bS (F.drop (k + 1)) j := by
  have hn := not_drop h hk
  rw [drop_at hk]
  unfold setB
  by_cases e : j = i
  · rw [if_pos e, e, bS_out hn]
  · rw [if_neg e]; unfold bS; simp [e]
end Go.Proofs.Ytpbalilnemjeeaa
