/- What is proved here: Free; spans that are in no live block; an arena beside lists of the call's own; a step of a script; Parts. No condition but those that each lemma names. -/
import Derived.Test.YtpbalilnemjeeaaGB
import Derived.Shelf.Spec.SlicesInsert
import Derived.Shelf.Spec.SlicesInsertGrow
import Derived.Test.YtpbalilnemjeeaaGA
import Derived.Shelf.Slices.Turned
import Derived.Deep.RegionHeld3
import Derived.ArgAppend
import Derived.Laws.OwnMore
import Derived.OwnWalkIn
import Derived.Laws.AppendOwnNone
import Derived.Maps.AppendAt
import Derived.OwnWalk
/- What is proved here: the library's slices.Insert at []int, laid at this program, over a list of free blocks. Conditions: the list is there. -/
namespace Go.Proofs.Ytpbalilnemjeeaa
set_option linter.unusedVariables false
set_option linter.unusedSimpArgs false
open Go.Shelf Go.RowKit Pm Pa
def renI : Ren := ⟨fun | 21 => 77 | 27 => 109 | 28 => 110 | 35 => 129 | 39 => 141 | n => n, fun | 0 => 0 | 3 => 3 | 4 => 4 | 22 => 29 | n => n, fun n => n⟩
theorem laysI : Lays2.n21 Try.prog renI := {
  mixed := by kernel_rfl
  f21 := by kernel_rfl
  f27 := by kernel_rfl
  f28 := by kernel_rfl
  f35 := by kernel_rfl
  f39 := by kernel_rfl
  t0 := by kernel_rfl
  a0 := fun w => by kernel_rfl
  z0 := fun w => by kernel_rfl
  v0 := fun w => by kernel_rfl
  t3 := by kernel_rfl
  a3 := fun w => by kernel_rfl
  z3 := fun w => by kernel_rfl
  v3 := fun w => by kernel_rfl
  t4 := by kernel_rfl
  a4 := fun w => by kernel_rfl
  z4 := fun w => by kernel_rfl
  v4 := fun w => by kernel_rfl
  t22 := by kernel_rfl
  a22 := fun w => by kernel_rfl
  z22 := fun w => by kernel_rfl
  v22 := fun w => by kernel_rfl
  i3 := by kernel_rfl }
theorem set_block (g : Nat) (t : TypeId) (m : Nat × Nat) : ∀ (vs : List Value) (o : Nat) (w : World) (cur : Array Value), w.heap[g]? = some (.cells cur t m) →
    ∃ cur' : Array Value, (w.setCells g o vs).heap[g]? = some (.cells cur' t m) ∧ cur'.size = cur.size ∧ ∀ i, cur'[i]? = if o ≤ i ∧ i < o + vs.length ∧ i < cur.size then vs[i - o]? else cur[i]?
  | [], o, w, cur, h => ⟨cur, h, rfl, fun i => by rw [if_neg (by simp; omega)]⟩
  | v :: r, o, w, cur, h => by
    have h1 : (w.setCell ⟨g, o, none⟩ v).heap[g]? = some (.cells (cur.setIfInBounds o v) t m) := by simp [World.setCell, Array.getElem?_modify, h]
    obtain ⟨cur', h2, h3, h4⟩ := set_block g t m r (o + 1) _ _ h1
    refine ⟨cur', h2, by simpa using h3, fun i => ?_⟩
    rw [h4 i]
    simp only [Array.size_setIfInBounds, List.length_cons]
    by_cases e : i = o
    · subst e
      rw [if_neg (by omega), Array.getElem?_setIfInBounds, if_pos rfl]
      by_cases hc : i < cur.size
      · rw [if_pos hc, if_pos (by omega), Nat.sub_self]; rfl
      · rw [if_neg hc, if_neg (by omega)]
        exact (Array.getElem?_eq_none (by omega)).symm
    · rw [Array.getElem?_setIfInBounds, if_neg (show ¬ o = i from fun h => e h.symm)]
      by_cases hc : o + 1 ≤ i ∧ i < o + 1 + r.length ∧ i < cur.size
      · rw [if_pos hc, if_pos (by omega), show i - o = (i - (o + 1)) + 1 by omega, List.getElem?_cons_succ]
      · rw [if_neg hc, if_neg (by omega)]
theorem set_turns (g : Nat) : ∀ (vs : List Value) (o : Nat) (w : World), Turns [g] w (w.setCells g o vs)
  | [], o, w => Turns.refl _ w
  | v :: r, o, w => ((Turns.refl [g] w).set g o v (.inl (by simp))).trans (set_turns g r (o + 1) _)
theorem ints_at (l : List Nat) (j : Nat) (v : Value) (h : (ints l)[j]? = some v) : ∃ x : Nat, l[j]? = some x ∧ v = .int .i64 (x : Int) := by
  unfold ints at h
  rw [List.getElem?_map] at h
  obtain ⟨x, hx, rfl⟩ := Option.map_eq_some_iff.1 h
  exact ⟨x, hx, rfl⟩
theorem ints_one (l : List Nat) : ∀ v ∈ ints l, v.oneCell' = true := fun v hv => by
  obtain ⟨x, _, rfl⟩ := List.mem_map.1 hv; rfl
theorem ins_get (xs : List Nat) (i x k : Nat) (hi : i ≤ xs.length) : (xs.take i ++ x :: xs.drop i)[k]? = if k < i then xs[k]? else if k = i then some x else xs[k - 1]? := by
  rw [List.getElem?_append, List.length_take, Nat.min_eq_left hi]
  by_cases h1 : k < i
  · rw [if_pos h1, if_pos h1, List.getElem?_take, if_pos h1]
  · rw [if_neg h1, if_neg h1]
    by_cases h2 : k = i
    · subst h2; rw [if_pos rfl, Nat.sub_self]; rfl
    · rw [if_neg h2, show k - i = (k - 1 - i) + 1 by omega, List.getElem?_cons_succ, List.getElem?_drop]
      congr 1; omega
theorem ins_len (xs : List Nat) (i x : Nat) (hi : i ≤ xs.length) : (xs.take i ++ x :: xs.drop i).length = xs.length + 1 := by
  simp; omega
theorem zero_size (n : Nat) : (Builtin.zeroCells (Value.int .i64 0).cells n).size = n := by simp [Builtin.zeroCells, Value.cells]
theorem row_new (l : List Nat) (Z : Array Value) (k y : Nat) (h : l[k]? = some y) : ((ints l).toArray ++ Z)[0 + k]? = some (.int .i64 (y : Int)) := by
  have hk := (List.getElem?_eq_some_iff.1 h).1
  rw [Nat.zero_add, Array.getElem?_append_left (by simp [ints_len]; exact hk), List.getElem?_toArray]
  unfold ints
  rw [List.getElem?_map, h]; rfl
theorem ints_get (xs : List Nat) (k y : Nat) (h : xs[k]? = some y) : (ints xs)[k]? = some (.int .i64 (y : Int)) := by
  unfold ints; rw [List.getElem?_map, h]; rfl
set_option maxHeartbeats 2000000 in
theorem insert_any {w : World} {fb : List Nat} {u : Value} {xs : List Nat} (h : FreeRow w fb u xs) (i : Nat) (hi : i ≤ xs.length) (x vb : Nat) (hb : Blk w vb #[.int .i64 (x : Int)] 3) (hvb : ¬ vb ∈ rows u) (hlen : xs.length ≤ 1099511627776) (I : Int) (hI : I = i) :
    Calls Try.prog 77 #[u, .int .i64 I, .slice (some ⟨vb, 0, none⟩) 1 1] w fun e w' => ∃ v, e = .returned v ∧ FreeRow w' (rows v) v (xs.take i ++ x :: xs.drop i) ∧ Turns (rows u) w w' ∧ (∀ g, g ∈ rows v → g ∈ rows u ∨ (w.heap.size ≤ g ∧ g < w'.heap.size)) ∧ ∃ g, v.ownBlock = some g := by
  subst hI
  have hvs : ∀ j v, [Value.int .i64 (x : Int)][j]? = some v → w.cell? ⟨vb, 0 + j, none⟩ = some v := by
    intro j v hj
    cases j with
    | zero => simp at hj; subst hj; exact hb.cell 0
    | succ j => simp at hj
  have h1v : ∀ v ∈ [Value.int .i64 (x : Int)], v.oneCell' = true := by simp [Value.oneCell']
  have hl2 := ins_len xs i x hi
  have hsa : w.shape? vb = some (3, 1) := by unfold World.shape?; rw [show w.heap[vb]? = _ from hb]; rfl
  have hml : maxLen = 9223372036854775807 := rfl
  have hg1 := fun (w : World) (c : Nat) => grownCap_ge w (xs.length + 1) c 3
  have hg2 := fun (w : World) (c : Nat) => grownCap_le_maxLen w (xs.length + 1) c 3 (by omega)
  have grown : ∀ (base : Option Addr) (c : Nat), i = xs.length → u = .slice base xs.length c → xs.length ≤ c → c < xs.length + 1 → (base = none → xs.length = 0) → (∀ a, base = some a → ∀ j v, (ints xs)[j]? = some v → w.cell? (a.add j) = some v) →
      Calls Try.prog 77 #[u, .int .i64 i, .slice (some ⟨vb, 0, none⟩) 1 1] w fun e w' => ∃ v, e = .returned v ∧ FreeRow w' (rows v) v (xs.take i ++ x :: xs.drop i) ∧ Turns (rows u) w w' ∧ (∀ g, g ∈ rows v → g ∈ rows u ∨ (w.heap.size ≤ g ∧ g < w'.heap.size)) ∧ ∃ g, v.ownBlock = some g := by
    rintro base c rfl rfl h1 h2 h3 h4
    refine (Any2.slices_Insert_int_end_grow laysI base xs.length c vb 0 1 1 (ints xs) [Value.int .i64 (x : Int)] w (by omega) h1 h2 (by omega) (ints_len xs) rfl h3 h4 hvs h1v).mono ?_
    rintro e w' ⟨rfl, rfl⟩
    have e0 : xs.take xs.length ++ x :: xs.drop xs.length = xs ++ [x] := by simp
    refine ⟨_, rfl, .inr ⟨w.heap.size, 0, _, _, by rw [hl2]; rfl, by simp [rows, Value.ownBlock], Blk.new w.drew _ _, ?_, ?_, hg2 w c, fun k y hk => ?_⟩, ((Turns.refl _ w).drew).alloc _, fun g hg => ?_, ⟨_, rfl⟩⟩
    · have := hg1 w c
      rw [Array.size_append, zero_size]
      simp [ints_len]
      show grownCap w (xs.length + 1) c 3 ≤ xs.length + 1 + (grownCap w (xs.length + 1) c 3 - (xs.length + 1))
      omega
    · rw [hl2]; exact hg1 w c
    · rw [e0] at hk
      have e1 : ints xs ++ [Value.int .i64 (x : Int)] = ints (xs ++ [x]) := (ints_app xs x).symm
      rw [e1]
      exact row_new _ _ k y hk
    · simp [rows, Value.ownBlock] at hg
      subst hg
      exact .inr ⟨Nat.le_refl _, by simp⟩
  rcases h with ⟨rfl, rfl⟩ | ⟨g, o, cap, cur, rfl, _, e3, e4, e5, e7, e6⟩
  · exact grown none 0 (by simpa using hi) rfl (by simp) (by simp) (fun _ => rfl) (fun a e => by cases e)
  have hB : Blk w g cur 3 := e3
  have hC : ∀ j v, (ints xs)[j]? = some v → w.cell? ⟨g, o + j, none⟩ = some v := fun j v hj => by
    obtain ⟨y, hy, rfl⟩ := ints_at xs j v hj
    rw [hB.cell (o + j)]; exact e6 j y hy
  have hvg : vb ≠ g := fun e => hvb (by simp [rows, Value.ownBlock, e])
  have hsb : w.shape? g = some (3, cur.size) := by unfold World.shape?; rw [e3]
  have hkl : ∀ k y, (xs.take i ++ x :: xs.drop i)[k]? = some y → k < xs.length + 1 := fun k y hk => by
    have := (List.getElem?_eq_some_iff.1 hk).1
    rw [hl2] at this; exact this
  by_cases hr : xs.length + 1 ≤ cap
  · by_cases hlt : i < xs.length
    · refine (Any2.slices_Insert_int_shift laysI g o xs.length cap i vb 0 1 1 (ints xs) [Value.int .i64 (x : Int)] w hlt (by omega) hr (by omega) hvg (ints_len xs) rfl hC (fun j hj => ?_) (fun j hj => hB.free _) hvs (ints_one xs) h1v _ _ _ _ hsa hsb (by omega) (hb.free 0) (hb.free 1)).mono ?_
      · rw [hB.cell (o + j), Array.getElem?_eq_getElem (by omega)]; rfl
      rintro e w' ⟨rfl, rfl⟩
      obtain ⟨c1, b1, s1, k1⟩ := set_block g 3 (0, 0) ((ints xs).drop i) (o + (i + 1)) w.drew cur e3
      obtain ⟨c2, b2, s2, k2⟩ := set_block g 3 (0, 0) [Value.int .i64 (x : Int)] (o + i) _ c1 b1
      refine ⟨_, rfl, .inr ⟨g, o, cap, c2, by rw [hl2], by simp [rows, Value.ownBlock], b2, by omega, by omega, e7, fun k y hk => ?_⟩, ?_, fun g' hg => .inl hg, ⟨_, rfl⟩⟩
      · have hk1 := hkl k y hk
        rw [ins_get xs i x k hi] at hk
        rw [k2 (o + k), k1 (o + k)]
        simp only [List.length_cons, List.length_nil, List.length_drop, ints_len]
        split at hk
        · rw [if_neg (by omega), if_neg (by omega)]; exact e6 k y hk
        · split at hk
          · cases hk
            rw [if_pos (by omega), show o + k - (o + i) = 0 by omega]; rfl
          · rw [if_neg (by omega), if_pos (by omega), List.getElem?_drop, show i + (o + k - (o + (i + 1))) = k - 1 by omega]
            exact ints_get xs _ y hk
      · exact ((Turns.refl _ w).drew.trans (set_turns g _ _ _)).trans (set_turns g _ _ _)
    · obtain rfl : i = xs.length := by omega
      refine (Any2.slices_Insert_int_end_room laysI g o xs.length cap vb 0 1 1 [Value.int .i64 (x : Int)] w (by omega) hr (by omega) rfl (fun j hj => ?_) (fun j hj => hB.free _) hvs h1v).mono ?_
      · rw [hB.cell (o + xs.length + j), Array.getElem?_eq_getElem (by omega)]; rfl
      rintro e w' ⟨rfl, rfl⟩
      obtain ⟨c2, b2, s2, k2⟩ := set_block g 3 (0, 0) [Value.int .i64 (x : Int)] (o + xs.length) w cur e3
      refine ⟨_, rfl, .inr ⟨g, o, cap, c2, by rw [hl2], by simp [rows, Value.ownBlock], b2, by omega, by omega, e7, fun k y hk => ?_⟩, set_turns g _ _ _, fun g' hg => .inl hg, ⟨_, rfl⟩⟩
      have hk1 := hkl k y hk
      rw [ins_get xs _ x k hi] at hk
      rw [k2 (o + k)]
      simp only [List.length_cons, List.length_nil]
      split at hk
      · rw [if_neg (by omega)]; exact e6 k y hk
      · split at hk
        · cases hk
          rw [if_pos (by omega), show o + k - (o + xs.length) = 0 by omega]; rfl
        · omega
  · by_cases hlt : i < xs.length
    · refine (Any2.slices_Insert_int_grow laysI g o xs.length cap i vb 0 1 1 (ints xs) [Value.int .i64 (x : Int)] w hlt (by omega) e5 (by omega) (by omega) (ints_len xs) rfl hC hvs (ints_one xs) h1v).mono ?_
      rintro e w' ⟨rfl, rfl⟩
      have b0 : (w.alloc (.cells (((ints xs).take i).toArray ++ Builtin.zeroCells (Value.int .i64 0).cells (xs.length + 1 - i) ++ Builtin.zeroCells (Value.int .i64 0).cells (grownCap w (xs.length + 1) cap 3 - (xs.length + 1))) 3)).drew.heap[w.heap.size]? = some (.cells (((ints xs).take i).toArray ++ Builtin.zeroCells (Value.int .i64 0).cells (xs.length + 1 - i) ++ Builtin.zeroCells (Value.int .i64 0).cells (grownCap w (xs.length + 1) cap 3 - (xs.length + 1))) 3 (0, 0)) := Blk.new w _ _
      have s0 : (((ints xs).take i).toArray ++ Builtin.zeroCells (Value.int .i64 0).cells (xs.length + 1 - i) ++ Builtin.zeroCells (Value.int .i64 0).cells (grownCap w (xs.length + 1) cap 3 - (xs.length + 1))).size = grownCap w (xs.length + 1) cap 3 := by
        have := hg1 w cap
        rw [Array.size_append, Array.size_append, zero_size, zero_size]
        simp [ints_len]
        omega
      obtain ⟨c1, b1, s1, k1⟩ := set_block w.heap.size 3 (0, 0) [Value.int .i64 (x : Int)] i _ _ b0
      obtain ⟨c2, b2, s2, k2⟩ := set_block w.heap.size 3 (0, 0) ((ints xs).drop i) (i + 1) (World.drew (World.setCells (World.drew (w.alloc _)) w.heap.size i [Value.int .i64 (x : Int)])) c1 b1
      have hgg := hg1 w cap
      refine ⟨_, rfl, .inr ⟨w.heap.size, 0, _, c2, by rw [hl2]; rfl, by simp [rows, Value.ownBlock], b2, by rw [s2, s1, s0]; exact Nat.le_of_eq (Nat.zero_add _), by rw [hl2]; exact hgg, hg2 w cap, fun k y hk => ?_⟩, ?_, fun g' hg => ?_, ⟨_, rfl⟩⟩
      · have hk1 := hkl k y hk
        rw [ins_get xs i x k hi] at hk
        rw [k2 (0 + k), k1 (0 + k), s1, s0]
        simp only [List.length_cons, List.length_nil, List.length_drop, ints_len]
        split at hk
        · rw [if_neg (by omega), if_neg (by omega), Nat.zero_add, Array.append_assoc, Array.getElem?_append_left (by simp [ints_len]; omega), List.getElem?_toArray, List.getElem?_take, if_pos (by omega)]
          exact ints_get xs k y hk
        · split at hk
          · cases hk
            rw [if_neg (by omega), if_pos (by omega), show 0 + k - i = 0 by omega]; rfl
          · rw [if_pos (by omega), List.getElem?_drop, show i + (0 + k - (i + 1)) = k - 1 by omega]
            exact ints_get xs _ y hk
      · have t1 : Turns [w.heap.size] w _ := ((((Turns.refl [w.heap.size] w).alloc (.cells (((ints xs).take i).toArray ++ Builtin.zeroCells (Value.int .i64 0).cells (xs.length + 1 - i) ++ Builtin.zeroCells (Value.int .i64 0).cells (grownCap w (xs.length + 1) cap 3 - (xs.length + 1))) 3)).drew.trans (set_turns w.heap.size [Value.int .i64 (x : Int)] i _)).drew).trans (set_turns w.heap.size ((ints xs).drop i) (i + 1) _)
        exact t1.more fun y hy => .inr (by simp only [List.mem_singleton] at hy; omega)
      · simp [rows, Value.ownBlock] at hg
        subst hg
        refine .inr ⟨Nat.le_refl _, ?_⟩
        exact (Array.getElem?_eq_some_iff.1 b2).1
    · refine grown (some ⟨g, o, none⟩) cap (by omega) rfl e5 (by omega) (fun e => by cases e) ?_
      rintro a ha j v hj
      cases ha
      rw [Addr.add_lit]
      exact hC j v hj
end Go.Proofs.Ytpbalilnemjeeaa
/- What is proved here: the map of the free blocks when a part is put into it. Conditions: the map is there. -/
namespace Go.Proofs.Ytpbalilnemjeeaa
set_option linter.unusedVariables false
set_option linter.unusedSimpArgs false
open Go.RowKit Pm Pa
theorem free_row_mono {w : World} {fb fb' : List Nat} {u : Value} {xs : List Nat} (h : FreeRow w fb u xs) (hf : ∀ g, g ∈ rows u → g ∈ fb') : FreeRow w fb' u xs := by
  rcases h with h | ⟨g, o, cap, cur, rfl, e2, e3, e4⟩
  · exact .inl h
  · exact .inr ⟨g, o, cap, cur, rfl, hf g (by simp [rows, Value.ownBlock]), e3, e4⟩
theorem free_row_own {w w' : World} {S fb : List Nat} {u : Value} {xs : List Nat} (h : FreeRow w fb u xs) (ht : Turns S w w') (hf : ∀ g, g ∈ rows u → ¬ g ∈ S) : FreeRow w' fb u xs := by
  rcases h with h | ⟨g, o, cap, cur, rfl, e2, e3, e4⟩
  · exact .inl h
  · exact .inr ⟨g, o, cap, cur, rfl, e2, (ht.block g (Array.getElem?_eq_some_iff.1 e3).1 (hf g (by simp [rows, Value.ownBlock]))).trans e3, e4⟩
theorem free_row_in {w : World} {fb : List Nat} {u : Value} {xs : List Nat} (h : FreeRow w fb u xs) (g : Nat) (hg : g ∈ rows u) : g ∈ fb ∧ g < w.heap.size := by
  rcases h with ⟨rfl, _⟩ | ⟨g', o, cap, cur, rfl, e2, e3, e4⟩
  · simp [rows, Value.ownBlock] at hg
  · simp [rows, Value.ownBlock] at hg
    subst hg
    exact ⟨e2, (Array.getElem?_eq_some_iff.1 e3).1⟩
theorem rows_own {v : Value} {g : Nat} : g ∈ rows v ↔ v.ownBlock = some g := by
  unfold rows; simp [Option.mem_toList]
theorem Tagged.more {x x' : Loc} {p N : Nat} (h : Tagged x p) (hN : ∀ k, k ∈ x.all p → k < N) (hm : x'.m = x.m) (hq : x'.q = x.q) (hbs : x'.bs = x.bs) (hbf : x'.bf = x.bf) (h1 : x'.v1 = x.v1) (h2 : x'.v2 = x.v2)
    (hfb : ∀ g, g ∈ x'.fb → g ∈ x.fb ∨ N ≤ g) : Tagged x' p := by
  obtain ⟨lab, l0, l1, l2, l3, l4, l5, l6, l7⟩ := h
  have hl : ∀ k, k = p ∨ k = x.m ∨ k = x.q ∨ k = x.bs ∨ k = x.bf ∨ k ∈ rows x.v1 ∨ k ∈ rows x.v2 ∨ k ∈ x.fb → k < N := fun k hk => hN k (by simp [Loc.all]; exact hk)
  refine ⟨fun k => if k < N then lab k else 7, ?_, ?_, ?_, ?_, ?_, ?_, ?_, ?_⟩
  · simp only []; rw [if_pos (hl p (by simp)), l0]
  · simp only []; rw [hm, if_pos (hl x.m (by simp)), l1]
  · simp only []; rw [hq, if_pos (hl x.q (by simp)), l2]
  · simp only []; rw [hbs, if_pos (hl x.bs (by simp)), l3]
  · simp only []; rw [hbf, if_pos (hl x.bf (by simp)), l4]
  · intro g hg
    rw [h1] at hg
    simp only []; rw [if_pos (hl g (by simp [hg])), l5 g hg]
  · intro g hg
    rw [h2] at hg
    simp only []; rw [if_pos (hl g (by simp [hg])), l6 g hg]
  · intro g hg
    simp only []
    rcases hfb g hg with e | e
    · rw [if_pos (hl g (by simp [e])), l7 g e]
    · rw [if_neg (by omega)]
/-- the map of the free blocks: a part is put into its class -/
theorem free_put {w : World} {bf c : Nat} {a b : Parts} {fb : List Nat} (h : FreeAt w bf (a ++ (c, true) :: b) fb) (hpos : ∀ y ∈ a ++ (c, true) :: b, 16 ≤ y.1 ∧ y.1 ≤ 1048576) (hlen : (a ++ (c, true) :: b).length < maxLen) (hbf : ¬ bf ∈ fb) :
    ∃ u, (∀ W, Turns [] w W → (Instr.lookup 126 (.map (some bf)) (.int .i64 (c : Int)) false).run Try.prog W = .ok u W) ∧ FreeRow w fb u (deadFrom 16 a c ++ deadFrom (endOf a + c) b c) ∧
      ∀ w1 v, Turns (rows u) w w1 → FreeRow w1 (rows v) v (deadFrom 16 a c ++ endOf a :: deadFrom (endOf a + c) b c) → (∀ g, g ∈ rows v → g ∈ rows u ∨ w.heap.size ≤ g) → (∃ g, v.ownBlock = some g) →
        ∃ w', (Instr.mapUpdate 126 (.map (some bf)) (.int .i64 (c : Int)) v).run Try.prog w1 = .ok () w' ∧ FreeAt w' bf (a ++ (c, false) :: b) (rows v ++ fb) ∧ Turns [bf] w1 w' := by
  obtain ⟨f, h1, h2, h3, h4⟩ := h
  have hc0 := hpos (c, true) (by simp)
  simp only [] at hc0
  have hwc : (Lit.int .i64 (c : Int)).wf = true := WalkArith.wf_i64 (by omega)
  have hr := h2 c hwc
  rw [dead_live] at hr
  have hblt : bf < w.heap.size := h1.lt
  refine ⟨(f c).getD (.slice none 0 0), fun W hW => FM.look (h1.turn hW (by simp)) hwc, hr, fun w1 v hw1 hv hvr hvo => ?_⟩
  have hbu : ¬ bf ∈ rows ((f c).getD (.slice none 0 0)) := fun hk => hbf (free_row_in hr bf hk).1
  have hbv : ¬ bf ∈ rows v := fun hk => by
    rcases hvr bf hk with e | e
    · exact hbu e
    · omega
  obtain ⟨z, hz⟩ : ∃ z, heads v = some z := by
    rcases hv with ⟨rfl, _⟩ | ⟨g, o, cap, cur, rfl, _⟩
    · exact ⟨_, rfl⟩
    · exact ⟨_, rfl⟩
  obtain ⟨w', hrun, hF, hT⟩ := IM.store (R := heads) Try.underlying126 (h1.turn hw1 hbu) hlen hwc hz
  have hkey : ∀ k, (f k).isSome = true → (Lit.int .i64 k).wf = true := fun k hk => by
    obtain ⟨y, hy, rfl⟩ := List.mem_map.1 (h4 k hk)
    have := hpos y hy
    exact WalkArith.wf_i64 (by omega)
  have hin : ∀ (k : Int) (u : Value) (g : Nat), k ≠ (c : Int) → f k = some u → u.ownBlock = some g → g ∈ fb ∧ g < w.heap.size ∧ ¬ g ∈ rows ((f c).getD (.slice none 0 0)) := by
    intro k u g hk hu hg
    have hr2 := h2 k (hkey k (by rw [hu]; rfl))
    rw [hu] at hr2
    obtain ⟨q1, q2⟩ := free_row_in hr2 g (rows_own.2 hg)
    refine ⟨q1, q2, fun e => ?_⟩
    rw [rows_own] at e
    cases hfc : f c with
    | none => rw [hfc] at e; cases e
    | some u' => rw [hfc] at e; exact h3 k c u u' g hk hu hfc hg e
  refine ⟨w', hrun, ⟨_, IM.fit hF ((a ++ (c, false) :: b).map fun y => (y.1 : Int)) (fun k _ hk => ?_) _ (by simp), fun k hk => ?_, fun j k u u' g' hjk hu hu' hgu hgu' => ?_, fun k hk => ?_⟩, hT⟩
  · by_cases e : k = (c : Int)
    · subst e; exact List.mem_map.2 ⟨(c, false), by simp, rfl⟩
    · rw [upd_other _ _ _ _ e] at hk
      have := h4 k hk
      simpa using this
  · by_cases e : k = (c : Int)
    · subst e
      rw [upd_same, dead_dead, if_pos rfl]
      exact free_row_mono (free_row_own hv hT (fun g hg hk => hbv (by simp only [List.mem_singleton] at hk; exact hk ▸ hg))) (fun g hg => List.mem_append_left _ hg)
    · rw [upd_other _ _ _ _ e]
      have e9 : deadFrom 16 (a ++ (c, false) :: b) k = deadFrom 16 (a ++ (c, true) :: b) k := by rw [dead_live, dead_dead, if_neg e]
      rw [e9]
      refine free_row_mono (free_row_own (free_row_own (h2 k hk) hw1 (fun g hg => ?_)) hT (fun g hg hk' => ?_)) (fun g hg => List.mem_append_right _ (free_row_in (h2 k hk) g hg).1)
      · cases hfk : f k with
        | none => rw [hfk] at hg; simp [rows, Value.ownBlock] at hg
        | some u => rw [hfk] at hg; exact (hin k u g e hfk (rows_own.1 hg)).2.2
      · simp only [List.mem_singleton] at hk'
        exact hbf (hk' ▸ (free_row_in (h2 k hk) g hg).1)
  · have key : ∀ (i : Int) (t : Value), i ≠ (c : Int) → upd f c (some v) i = some t → t.ownBlock = some g' → v.ownBlock = some g' → False := by
      intro i t hi ht hg hgv
      rw [upd_other _ _ _ _ hi] at ht
      obtain ⟨q1, q2, q3⟩ := hin i t g' hi ht hg
      rcases hvr g' (rows_own.2 hgv) with e | e
      · exact q3 e
      · omega
    by_cases ej : j = (c : Int)
    · subst ej
      rw [upd_same] at hu
      cases hu
      exact key k u' (fun e => hjk e.symm) hu' hgu' hgu
    · by_cases ek : k = (c : Int)
      · subst ek
        rw [upd_same] at hu'
        cases hu'
        exact key j u ej hu hgu hgu'
      · rw [upd_other _ _ _ _ ej] at hu
        rw [upd_other _ _ _ _ ek] at hu'
        exact h3 j k u u' g' hjk hu hu' hgu hgu'
  · by_cases e : k = (c : Int)
    · subst e; exact List.mem_map.2 ⟨(c, false), by simp, rfl⟩
    · rw [upd_other _ _ _ _ e] at hk
      have := h4 k hk
      simpa using this
end Go.Proofs.Ytpbalilnemjeeaa
/- What is proved here: parts that are freed, and what an arena is behind it. Conditions: the arena is there. -/
namespace Go.Proofs.Ytpbalilnemjeeaa
set_option linter.unusedVariables false
set_option linter.unusedSimpArgs false
open Go.RowKit Pm Pa
/-- the part that begins at k is dead -/
def deadP (o : Nat) : Parts → Int → Parts
  | [], _ => []
  | y :: t, k => if k = (o : Int) then (y.1, false) :: t else y :: deadP (o + y.1) t k
def freeP (ps : Parts) (k : Int) : Parts := deadP 16 ps k
def freesP (ps : Parts) (l : List Int) : Parts := l.foldl freeP ps
theorem freesP_snoc (ps : Parts) (l : List Int) (k : Int) : freesP ps (l ++ [k]) = freeP (freesP ps l) k := by simp [freesP]
theorem deadP_fst (o : Nat) (ps : Parts) (k : Int) : (deadP o ps k).map (·.1) = ps.map (·.1) := by
  induction ps generalizing o with
  | nil => rfl
  | cons y t ih =>
    unfold deadP
    by_cases e : k = (o : Int)
    · rw [if_pos e]; rfl
    · rw [if_neg e, List.map_cons, List.map_cons, ih]
theorem freesP_fst (ps : Parts) (l : List Int) : (freesP ps l).map (·.1) = ps.map (·.1) := by
  induction l generalizing ps with
  | nil => rfl
  | cons k l ih => show (freesP (freeP ps k) l).map (·.1) = _; rw [ih]; exact deadP_fst 16 ps k
theorem pos_fst {ps qs : Parts} (h : qs.map (·.1) = ps.map (·.1)) {P : Nat → Prop} (hp : ∀ y ∈ ps, P y.1) : ∀ y ∈ qs, P y.1 := by
  intro y hy
  have h1 : y.1 ∈ qs.map (·.1) := List.mem_map.2 ⟨y, hy, rfl⟩
  rw [h] at h1
  obtain ⟨z, hz, e⟩ := List.mem_map.1 h1
  exact e ▸ hp z hz
theorem size_deadP (o : Nat) (ps : Parts) (hp : ∀ y ∈ ps, 1 ≤ y.1) (k j : Int) : sizeFrom o (deadP o ps k) j = if j = k then none else sizeFrom o ps j := by
  induction ps generalizing o with
  | nil => simp [deadP, sizeFrom]
  | cons y t ih =>
    obtain ⟨c, l⟩ := y
    unfold deadP
    by_cases e : k = (o : Int)
    · rw [if_pos e]
      subst e
      simp only [sizeFrom]
      by_cases e2 : j = (o : Int)
      · simp [e2]
      · simp [e2]
    · rw [if_neg e]
      simp only [sizeFrom]
      rw [ih (o + c) (fun y hy => hp y (List.mem_cons_of_mem _ hy))]
      by_cases e2 : j = (o : Int)
      · subst e2
        simp [show ¬ ((o : Int) = k) from fun h => e h.symm]
      · rw [if_neg e2, if_neg e2]
theorem size_freesP (ps : Parts) (hp : ∀ y ∈ ps, 1 ≤ y.1) (l : List Int) (j : Int) : sizeFrom 16 (freesP ps l) j = if j ∈ l then none else sizeFrom 16 ps j := by
  induction l generalizing ps with
  | nil => simp [freesP]
  | cons k l ih =>
    show sizeFrom 16 (freesP (freeP ps k) l) j = _
    rw [ih (freeP ps k) (pos_fst (deadP_fst 16 ps k) hp)]
    unfold freeP
    rw [size_deadP 16 ps hp k j]
    by_cases e : j ∈ l
    · rw [if_pos e, if_pos (List.mem_cons_of_mem _ e)]
    · rw [if_neg e]
      by_cases e2 : j = k
      · rw [if_pos e2, if_pos (by rw [e2]; exact List.mem_cons_self)]
      · rw [if_neg e2, if_neg (by simp [e, e2])]
theorem freeP_split (a b : Parts) (c : Nat) (ha : ∀ y ∈ a, 1 ≤ y.1) : freeP (a ++ (c, true) :: b) ((endOf a : Nat) : Int) = a ++ (c, false) :: b := by
  have key : ∀ (o : Nat) (a : Parts), (∀ y ∈ a, 1 ≤ y.1) → deadP o (a ++ (c, true) :: b) ((o + total a : Nat) : Int) = a ++ (c, false) :: b := by
    intro o a
    induction a generalizing o with
    | nil => intro _; simp [deadP, total]
    | cons y t ih =>
      intro ht
      have h1 := ht y (by simp)
      rw [List.cons_append, total_cons]
      unfold deadP
      rw [if_neg (by omega)]
      have h2 := ih (o + y.1) (fun z hz => ht z (List.mem_cons_of_mem _ hz))
      rw [show o + (y.1 + total t) = o + y.1 + total t by omega, h2]
      rfl
  exact key 16 a ha
theorem Held.fst {lim : Nat} {ps qs : Parts} (hF : Held lim ps) (h : qs.map (·.1) = ps.map (·.1)) : Held lim qs := by
  refine ⟨pos_fst (P := fun c => c ∈ classes) h hF.cl, fun c => ?_⟩
  have key : ∀ (ps qs : Parts), qs.map (·.1) = ps.map (·.1) → clsSum qs c = clsSum ps c := by
    intro ps
    induction ps with
    | nil => intro qs h; rw [List.map_nil, List.map_eq_nil_iff] at h; rw [h]
    | cons y t ih =>
      intro qs h
      cases qs with
      | nil => simp at h
      | cons z s =>
        simp only [List.map_cons, List.cons.injEq] at h
        rw [clsSum_cons, clsSum_cons, ih s h.2, h.1]
  rw [key ps qs h]
  exact hF.sum c
/-- what an arena is when one of its blocks has been freed -/
theorem freed {w w1 w3 w4 w5 : World} {p c : Nat} {x : Loc} {lim : Nat} {a b : Parts} {L : List UInt8} {u v : Value} {V : Int} (h : ArAt w p x lim (a ++ (c, true) :: b) L)
    (hs1 : SM w1 x.bs (a ++ (c, true) :: b).length (upd (szF (a ++ (c, true) :: b)) ((endOf a : Nat) : Int) none)) (t1 : Turns [x.bs] w w1) (hV : V = (liveSum (a ++ (c, true) :: b) : Int) - c)
    (t3 : Turns [] (w1.setCell ⟨p, 1, none⟩ (.int .i64 V)) w3) (hu : ∀ g, g ∈ rows u → g ∈ x.fb) (t4 : Turns (rows u) w3 w4) (hv : ∀ g, g ∈ rows v → g ∈ rows u ∨ (w3.heap.size ≤ g ∧ g < w4.heap.size)) (t5 : Turns [x.bf] w4 w5)
    (hfr : FreeAt w5 x.bf (a ++ (c, false) :: b) (rows v ++ x.fb)) :
    ∃ x', ArAt w5 p x' lim (a ++ (c, false) :: b) L ∧ Turns (x.all p) w w5 ∧ ∀ k, k ∈ x'.all p → k ∈ x.all p ∨ w.heap.size ≤ k := by
  have hpos := h.pos
  have hc := hpos (c, true) (by simp)
  simp only [] at hc
  have hposa : ∀ y ∈ a, 1 ≤ y.1 := fun y hy => by have := (hpos y (by simp [hy])).1; omega
  obtain ⟨lab, l0, l1, l2, l3, l4, l5, l6, l7⟩ := id h.nd
  have t2 : Turns [p] w1 (w1.setCell ⟨p, 1, none⟩ (.int .i64 V)) := (Turns.refl _ _).set p 1 _ (.inl (by simp))
  have s1 : ∀ k, k ∈ [x.bs] → lab k = 3 := by simp [l3]
  have s2 : ∀ k, k ∈ [p] → lab k = 0 := by simp [l0]
  have s4 : ∀ k, k ∈ rows u → lab k = 7 := fun k hk => l7 k (hu k hk)
  have s5 : ∀ k, k ∈ [x.bf] → lab k = 4 := by simp [l4]
  have hd1 := h.hd.turn t1 (fun hk => by have := s1 _ hk; omega)
  have hd2 := hd1.set 1 (.int .i64 V)
  have hd5 := ((hd2.turn t3 (by simp)).turn t4 (fun hk => by have := s4 _ hk; omega)).turn t5 (fun hk => by have := s5 _ hk; omega)
  have hrow : ∀ {size n : Nat} {v : Value} {xs : List Value}, w.ownsRow 0 3 size v n xs → (∀ g, g ∈ rows v → lab g = 5 ∨ lab g = 6) → w5.ownsRow 0 3 size v n xs := by
    intro size n v xs hr hl
    refine row_turn (row_turn (row_turn (row_turn (row_turn hr t1 ?_) t2 ?_) t3 ?_) t4 ?_) t5 ?_
    · intro g hg hk; have := hl g hg; have := s1 g hk; omega
    · intro g hg hk; have := hl g hg; have := s2 g hk; omega
    · simp
    · intro g hg hk; have := hl g hg; have := s4 g hk; omega
    · intro g hg hk; have := hl g hg; have := s5 g hk; omega
  have hsz : w.heap.size ≤ w3.heap.size := Nat.le_trans t1.size (Nat.le_trans t2.size t3.size)
  have hs35 : w3.heap.size ≤ w5.heap.size := Nat.le_trans t4.size t5.size
  have hvf : ∀ g, g ∈ rows v → g ∈ x.fb ∨ (w.heap.size ≤ g ∧ g < w5.heap.size) := fun g hg => by
    rcases hv g hg with e | ⟨e, e'⟩
    · exact .inl (hu g e)
    · exact .inr ⟨by omega, Nat.lt_of_lt_of_le e' t5.size⟩
  have hlive := liveSum_flip a b c
  have hmem : ∀ k, k ∈ [x.bs] ∨ k ∈ [p] ∨ k ∈ rows u ∨ k ∈ [x.bf] → k ∈ x.all p := fun k hk => by
    rcases hk with hk | hk | hk | hk
    · simp only [List.mem_singleton] at hk; subst hk; exact (mem_all _).2 (by simp)
    · simp only [List.mem_singleton] at hk; subst hk; exact (mem_all _).2 (by simp)
    · exact (mem_all _).2 (by simp [hu k hk])
    · simp only [List.mem_singleton] at hk; subst hk; exact (mem_all _).2 (by simp)
  refine ⟨{ x with fb := rows v ++ x.fb }, ⟨?_, ?_, ?_, ?_, ?_, hfr, ?_, ?_, ?_, ?_, h.lm⟩, ?_, ?_⟩
  · subst hV
    rw [hlive] at hd5
    have e : ((liveSum (a ++ (c, false) :: b) + c : Nat) : Int) - c = (liveSum (a ++ (c, false) :: b) : Int) := by omega
    rw [e] at hd5
    simpa using hd5
  · rw [endOf_flip a b c false true]
    refine ((((h.mem.turn t1 ?_ ?_).turn t2 ?_ ?_).turn t3 ?_ ?_).turn t4 ?_ ?_).turn t5 ?_ ?_
    · intro hk; have := s1 _ hk; omega
    · intro hk; have := s1 _ hk; omega
    · intro hk; have := s2 _ hk; omega
    · intro hk; have := s2 _ hk; omega
    · simp
    · simp
    · intro hk; have := s4 _ hk; omega
    · intro hk; have := s4 _ hk; omega
    · intro hk; have := s5 _ hk; omega
    · intro hk; have := s5 _ hk; omega
  · rw [starts_flip a b c false true, len_flip a b c false true]
    exact hrow h.st (fun g hg => .inl (l5 g hg))
  · rw [fst_flip a b c false true, len_flip a b c false true]
    exact hrow h.cl (fun g hg => .inr (l6 g hg))
  · have h9 := hs1
    rw [← szF_dead a b c hposa (by omega)] at h9
    rw [len_flip a b c false true]
    refine (((h9.turn t2 ?_).turn t3 ?_).turn t4 ?_).turn t5 ?_
    · intro hk; have := s2 _ hk; omega
    · simp
    · intro hk; have := s4 _ hk; omega
    · intro hk; have := s5 _ hk; omega
  · exact Tagged.more h.nd (N := w.heap.size) (fun k hk => h.lt k hk) rfl rfl rfl rfl rfl rfl (fun g hg => by
      rcases List.mem_append.1 hg with e | e
      · rcases hvf g e with e | e
        · exact .inl e
        · exact .inr e.1
      · exact .inl e)
  · intro k hk
    rcases List.mem_append.1 hk with e | e
    · rcases hvf k e with e | e
      · exact Nat.lt_of_lt_of_le (h.fl k e) (Nat.le_trans hsz hs35)
      · exact e.2
    · exact Nat.lt_of_lt_of_le (h.fl k e) (Nat.le_trans hsz hs35)
  · intro y hy
    rcases List.mem_append.1 hy with hy | hy
    · exact hpos y (by simp [hy])
    · rcases List.mem_cons.1 hy with rfl | hy
      · exact hc
      · exact hpos y (by simp [hy])
  · have := h.lv; rw [hlive] at this; omega
  · exact ((((t1.more (fun y hy => .inl (hmem y (.inl hy)))).trans (t2.more (fun y hy => .inl (hmem y (.inr (.inl hy)))))).trans (t3.more (fun y hy => by cases hy))).trans (t4.more (fun y hy => .inl (hmem y (.inr (.inr (.inl hy))))))).trans (t5.more (fun y hy => .inl (hmem y (.inr (.inr (.inr hy))))))
  · intro k hk
    rcases (mem_all k).1 hk with e | e | e | e | e | e | e | e
    · exact .inl ((mem_all k).2 (by simp [e]))
    · exact .inl ((mem_all k).2 (by simp at e; simp [e]))
    · exact .inl ((mem_all k).2 (by simp at e; simp [e]))
    · exact .inl ((mem_all k).2 (by simp at e; simp [e]))
    · exact .inl ((mem_all k).2 (by simp at e; simp [e]))
    · exact .inl ((mem_all k).2 (by simp at e; simp [e]))
    · exact .inl ((mem_all k).2 (by simp at e; simp [e]))
    · rcases List.mem_append.1 e with e | e
      · rcases hvf k e with e | e
        · exact .inl ((mem_all k).2 (by simp [e]))
        · exact .inr e.1
      · exact .inl ((mem_all k).2 (by simp [e]))
end Go.Proofs.Ytpbalilnemjeeaa
/- What is proved here: the library's slices.Contains and slices.BinarySearch where Free calls them; delete at the operation. No condition. -/
namespace Go.Proofs.Ytpbalilnemjeeaa
set_option linter.unusedVariables false
set_option linter.unusedSimpArgs false
open Go.Shelf Go.RowKit Pm Pa
def renC : Ren := ⟨fun | 107 => 75 | 108 => 106 | n => n, fun | 0 => 0 | 3 => 3 | 4 => 4 | 28 => 29 | n => n, fun n => n⟩
theorem laysC : Lays.n107 Try.prog renC := {
  mixed := by kernel_rfl
  f107 := by kernel_rfl
  f108 := by kernel_rfl
  t0 := by kernel_rfl
  a0 := fun w => by kernel_rfl
  z0 := fun w => by kernel_rfl
  v0 := fun w => by kernel_rfl
  t3 := by kernel_rfl
  a3 := fun w => by kernel_rfl
  z3 := fun w => by kernel_rfl
  v3 := fun w => by kernel_rfl
  t4 := by kernel_rfl
  a4 := fun w => by kernel_rfl
  z4 := fun w => by kernel_rfl
  v4 := fun w => by kernel_rfl
  t28 := by kernel_rfl
  a28 := fun w => by kernel_rfl
  z28 := fun w => by kernel_rfl
  v28 := fun w => by kernel_rfl }
theorem ints_in_at {w : World} {b o : Nat} {zs : List Int} (h : IntsIn w (some ⟨b, o, none⟩) zs) (j : Nat) (hj : j < zs.length) : w.cell? ⟨b, o + j, none⟩ = some (.int .i64 (zs.getD j 0)) := by
  obtain ⟨g, o', e, hc⟩ := h j zs[j] (List.getElem?_eq_getElem hj)
  injection e with e
  injection e with e1 e2
  subst e1 e2
  rw [List.getD_eq_getElem?_getD, List.getElem?_eq_getElem hj]
  exact hc
theorem contains_any {w : World} (b o n c : Nat) (zs : List Int) (hin : IntsIn w (some ⟨b, o, none⟩) zs) (x : Int) (hn : n ≤ zs.length) (hbig : n ≤ 1099511627776) (B : Bool) (hB : (zs.take n).contains x = B) :
    Calls Try.prog 75 #[.slice (some ⟨b, o, none⟩) n c, .int .i64 x] w fun e w' => e = .returned (.bool B) ∧ w = w' := by
  subst hB
  refine (Any.slices_Contains_int laysC b o n c zs x w hn (by omega) (fun j hj => ints_in_at hin j hj)).mono ?_
  rintro e w' ⟨rfl, rfl⟩
  exact ⟨rfl, rfl⟩
theorem count_low (A B : List Nat) (e : Nat) (hA : ∀ y ∈ A, y < e) (hB : ∀ y ∈ B, e < y) : ((A ++ B).map fun (y : Nat) => (y : Int)).countP (· < (e : Int)) = A.length := by
  rw [List.map_append, List.countP_append]
  have h1 : (A.map fun (y : Nat) => (y : Int)).countP (· < (e : Int)) = A.length := by
    rw [List.countP_eq_length.2, List.length_map]
    intro z hz
    obtain ⟨y, hy, rfl⟩ := List.mem_map.1 hz
    have := hA y hy
    simp; exact this
  have h2 : (B.map fun (y : Nat) => (y : Int)).countP (· < (e : Int)) = 0 := by
    rw [List.countP_eq_zero]
    intro z hz
    obtain ⟨y, hy, rfl⟩ := List.mem_map.1 hz
    have := hB y hy
    simp; omega
  rw [h1, h2]; rfl
theorem search_row {w : World} {fb : List Nat} {u : Value} {A B : List Nat} (h : FreeRow w fb u (A ++ B)) (e : Nat) (hA : ∀ y ∈ A, y < e) (hB : ∀ y ∈ B, e < y) (hs : (A ++ B).Pairwise (· < ·)) (hlen : (A ++ B).length ≤ 1099511627776) (E I : Int) (hE : E = e) (hI : I = A.length) :
    Calls Try.prog 76 #[u, .int .i64 E] w fun r w' => ∃ b, r = .returned (.tuple #[.int .i64 I, .bool b]) ∧ ∃ q, w' = w.drewN q := by
  subst hE hI
  rcases h with ⟨rfl, h0⟩ | ⟨g, o, cap, cur, rfl, _, e3, e4, e5, e7, e6⟩
  · obtain ⟨rfl, rfl⟩ := List.append_eq_nil_iff.1 h0
    refine (Any.slices_BinarySearch_int_empty laysS none 0 (e : Int) w).mono ?_
    rintro r w' ⟨rfl, rfl⟩
    exact ⟨false, rfl, 0, rfl⟩
  · have hl : ((A ++ B).map fun (y : Nat) => (y : Int)).length = (A ++ B).length := List.length_map _
    have hB2 : Blk w g cur 3 := e3
    refine (search_any g o _ cap ((A ++ B).map fun (y : Nat) => (y : Int)) (e : Int) w (by rw [hl]; exact Nat.le_refl _) (by omega) (fun j hj => ?_) ?_).mono ?_
    · rw [hl] at hj
      rw [hB2.cell (o + j), e6 j (A ++ B)[j] (List.getElem?_eq_getElem hj), List.getD_eq_getElem?_getD, List.getElem?_map, List.getElem?_eq_getElem hj]
      rfl
    · rw [List.take_of_length_le (by rw [hl]; exact Nat.le_refl _), List.pairwise_map]
      exact hs.imp (fun h => by omega)
    · rintro r w' ⟨rfl, hq⟩
      rw [List.take_of_length_le (by rw [hl]; exact Nat.le_refl _), count_low A B e hA hB]
      exact ⟨_, rfl, hq⟩
theorem wpList_delete_im {w : World} {ops : Array Oper} {rest : List Oper} {o : Oper} {a : Act} {Q : Exit → Act → World → Prop} (hg : o.guard = none) (m x : Operand)
    (hop : o.op = Op.call { callee := Callee.builtin Builtin.delete, args := #[m, x], argTypes := #[125, 3] }) {b n : Nat} {f : Int → Option Value} (h : SM w b n f) {k : Int} (hk : (Lit.int .i64 k).wf = true)
    (hm : a.eval m = .map (some b)) (hx : a.eval x = .int .i64 k)
    (hK : ∀ w', SM w' b n (upd f k none) → Turns [b] w w' → wpList Try.prog ops Q rest (a.put o.dst (.tuple #[])) w') : wpList Try.prog ops Q (o :: rest) a w := by
  refine wpList_plain hg fun K' hK' => ?_
  obtain ⟨w', hrun, r1, r2⟩ := IM.drop Try.underlying125 h hk o.type
  unfold Oper.wp
  simp [execOp, hop, resolve, invoke, builtin, hm, hx, hrun, Result.andThen]
  exact hK' _ _ (hK w' r1 r2)
end Go.Proofs.Ytpbalilnemjeeaa
/- What is proved here: the contract of Free where every offset begins a live block, each once. Conditions: the arena is there. -/
namespace Go.Proofs.Ytpbalilnemjeeaa
set_option linter.unusedVariables false
set_option linter.unusedSimpArgs false
open Go.RowKit Pm Pa
theorem ints_some {w : World} {b o : Nat} {zs : List Int} (h : IntsIn w (some ⟨b, o, none⟩) zs) (j : Nat) (e : Int) (hj : zs[j]? = some e) : w.cell? ⟨b, o + j, none⟩ = some (.int .i64 e) := by
  obtain ⟨g, o', q, hc⟩ := h j e hj
  injection q with q
  injection q with e1 e2
  subst e1 e2
  exact hc
theorem ints_turned {w w' : World} {A : Option Addr} {es : List Int} {S : List Nat} (h : IntsIn w A es) (ht : Turns S w w') (hS : ∀ g o, A = some ⟨g, o, none⟩ → ¬ g ∈ S) : IntsIn w' A es := by
  intro i n hi
  obtain ⟨g, o, e, hc⟩ := h i n hi
  exact ⟨g, o, e, turn_cell ht (hS g o e) hc⟩
theorem not_taken {l : List Int} (h : l.Nodup) (k : Nat) (e : Int) (hk : l[k]? = some e) : ¬ e ∈ l.take k := by
  intro hm
  obtain ⟨j, hj, hje⟩ := List.mem_iff_getElem.1 hm
  rw [List.length_take] at hj
  rw [List.getElem_take] at hje
  have h1 := (List.getElem?_eq_some_iff.1 hk).1
  have h2 := (List.getElem?_eq_some_iff.1 hk).2
  exact List.pairwise_iff_getElem.1 h j k (by omega) h1 (by omega) (hje.trans h2.symm)
theorem row_sorted (a b : Parts) (c : Nat) (hp : ∀ y ∈ a ++ (c, true) :: b, 16 ≤ y.1 ∧ y.1 ≤ 1048576) :
    (∀ y ∈ deadFrom 16 a (c : Int), y < endOf a) ∧ (∀ y ∈ deadFrom (endOf a + c) b (c : Int), endOf a < y) ∧ (deadFrom 16 a (c : Int) ++ deadFrom (endOf a + c) b (c : Int)).Pairwise (· < ·) := by
  have ha : ∀ y ∈ a, 1 ≤ y.1 := fun y hy => by have := (hp y (by simp [hy])).1; omega
  have hb : ∀ y ∈ b, 1 ≤ y.1 := fun y hy => by have := (hp y (by simp [hy])).1; omega
  have hc := (hp (c, true) (by simp)).1
  simp only [] at hc
  have h1 : ∀ y ∈ deadFrom 16 a (c : Int), y < endOf a := fun y hy => (dead_range 16 a c ha y hy).2
  have h2 : ∀ y ∈ deadFrom (endOf a + c) b (c : Int), endOf a < y := fun y hy => by have := (dead_range (endOf a + c) b c hb y hy).1; omega
  refine ⟨h1, h2, List.pairwise_append.2 ⟨dead_rise 16 a c ha, dead_rise _ b c hb, fun x hx y hy => ?_⟩⟩
  have := h1 x hx
  have := h2 y hy
  omega
set_option maxHeartbeats 4000000 in
set_option maxRecDepth 100000 in
theorem free_yes {w : World} {p : Nat} {x : Loc} {lim : Nat} {ps : Parts} {L : List UInt8} (h : ArAt w p x lim ps L) (ofs : List Int) (g o cap n : Nat) (hn : ofs.length = n) (hin : IntsIn w (some ⟨g, o, none⟩) ofs) (hcap : n ≤ cap) (hg : ¬ g ∈ x.all p) (hlen : n ≤ 1099511627776)
    (hlive : ∀ e ∈ ofs, (sizeFrom 16 ps e).isSome = true) (hnd : ofs.Nodup) :
    Calls Try.prog 32 #[.pointer (some ⟨p, 0, none⟩), .slice (some ⟨g, o, none⟩) n cap] w fun e w' => e = .returned (.int .i64 0) ∧ ∃ x', ArAt w' p x' lim (freesP ps ofs) L ∧ Turns (x.all p) w w' ∧ ∀ k, k ∈ x'.all p → k ∈ x.all p ∨ w.heap.size ≤ k := by
  obtain ⟨c0, c1, c2, c3, c4, c5, c6⟩ := h.cells
  have hpos1 : ∀ y ∈ ps, 1 ≤ y.1 := fun y hy => by have := (h.pos y hy).1; omega
  have hel := h.endle
  have hA := Lib.hid h
  clear h
  replace hn := Lib.hid hn
  replace hin := Lib.hid hin
  replace hlive := Lib.hid hlive
  replace hnd := Lib.hid hnd
  replace hg := Lib.hid hg
  clear c0 c1 c2 c3 c4 c6
  go_enter Try.func32, Try.ntmps32
  go_upto_region 2 with (fail)
  go_loopw [16] (fun a16 wr => ∃ k : Nat, k ≤ n ∧ a16 = .int .i64 (k : Int) ∧ Hid (wr = w)) (fun i _ => (n - (intOf i).toNat))
  case atStart => exact ⟨0, Nat.zero_le _, rfl, rfl⟩
  case round =>
    obtain ⟨k, hk, rfl, hw⟩ := hrel
    obtain rfl := hw.out.symm
    clear hw
    by_cases hlt : k < n
    · obtain ⟨e, he⟩ : ∃ e, Hid (ofs[k]? = some e) := ⟨_, List.getElem?_eq_getElem (by rw [hn.out]; exact hlt)⟩
      have hcl := ints_some hin.out k e he.out
      obtain ⟨c, hc⟩ := Option.isSome_iff_exists.1 (hlive.out e (List.mem_of_getElem? he.out))
      have hwe : (Lit.int .i64 e).wf = true := by
        obtain ⟨a, b, hab, rfl⟩ := live_split 16 ps e c hc
        have : 16 + total a ≤ endOf ps := by rw [hab]; unfold endOf; rw [total_app]; omega
        exact WalkArith.wf_i64 (by omega)
      have hlk : (Instr.lookup 125 (.map (some x.bs)) (.int .i64 e) true).run Try.prog w = .ok (.tuple #[.int .i64 (c : Int), .bool true]) w := by
        have := SM.look_ok hA.out.sz hwe
        unfold szF at this
        rw [hc] at this
        exact this
      clear hc
      have k0 : (0 : Int) ≤ k := by omega
      have k1 : (k : Int) < n := by omega
      have k2 : (k : Int) ≤ cap := by omega
      go_wp2_with (first
        | (go_at_call 75; refine (contains_any g o k _ ofs hin.out e (by rw [hn.out]; omega) (by omega) false (by have := not_taken hnd.out k e he.out; simpa using this)).mono ?_; rintro r w' ⟨rfl, rfl⟩)
        | fail)
      go_roundw
      case rel => exact ⟨k + 1, by omega, by go_num, by first | rfl | trivial⟩
      case measure => simp [intOf]; omega
    · obtain rfl : k = n := by omega
      clear c5
      go_upto_region 9 with (fail)
      go_loopw [42] (fun a42 ws => ∃ (m : Nat) (xk : Loc), m ≤ k ∧ a42 = .int .i64 (m : Int) ∧ Hid (ArAt ws p xk lim (freesP ps (ofs.take m)) L ∧ Turns (x.all p) w ws ∧ ∀ j, j ∈ xk.all p → j ∈ x.all p ∨ w.heap.size ≤ j)) (fun i _ => (k - (intOf i).toNat))
      case atStart => exact ⟨0, x, Nat.zero_le _, rfl, hA.out, Turns.refl _ _, fun j hj => .inl hj⟩
      case round =>
        obtain ⟨m, xk, hm, rfl, hR⟩ := hrel
        by_cases hlt2 : m < k
        · obtain ⟨hX, hT, hF⟩ := hR.out
          clear hR
          obtain ⟨e, he⟩ : ∃ e, Hid (ofs[m]? = some e) := ⟨_, List.getElem?_eq_getElem (by rw [hn.out]; exact hlt2)⟩
          have hcl := ints_some (ints_turned hin.out hT (fun g' o' q => by injection q with q; injection q with q1 _; rw [← q1]; exact hg.out)) m e he.out
          have hsz : (sizeFrom 16 (freesP ps (ofs.take m)) e).isSome = true := by
            rw [size_freesP ps hpos1, if_neg (not_taken hnd.out m e he.out)]
            exact hlive.out e (List.mem_of_getElem? he.out)
          obtain ⟨c, hc⟩ := Option.isSome_iff_exists.1 hsz
          clear hsz
          obtain ⟨a, b, hQ, hEe⟩ := live_split 16 _ e c hc
          have hstep : freesP ps (ofs.take (m + 1)) = freeP (a ++ (c, true) :: b) e := by
            rw [List.take_add_one, he.out, Option.toList_some, freesP_snoc, hQ]
          rw [hQ] at hX hc
          have hposX := hX.pos
          have hposa : ∀ y ∈ a, 1 ≤ y.1 := fun y hy => by have := (hposX y (by simp [hy])).1; omega
          obtain ⟨E, hE⟩ : ∃ E, Hid (E = endOf a) := ⟨_, rfl⟩
          have hEe2 : e = (E : Int) := by rw [hE.out]; exact hEe
          subst hEe2
          clear hEe hQ he
          have hfp : freeP (a ++ (c, true) :: b) (E : Int) = a ++ (c, false) :: b := by rw [hE.out]; exact freeP_split a b c hposa
          rw [hfp] at hstep
          clear hfp
          have hcb := hposX (c, true) (by simp)
          simp only [] at hcb
          have hEl : E ≤ 134217728 := by
            have h1 := hX.endle
            have h2 : endOf a ≤ endOf (a ++ (c, true) :: b) := by unfold endOf; rw [total_app]; omega
            rw [hE.out]; omega
          have hwe : (Lit.int .i64 (E : Int)).wf = true := WalkArith.wf_i64 (by omega)
          have hlk : (Instr.lookup 125 (.map (some xk.bs)) (.int .i64 (E : Int)) false).run Try.prog wr = .ok (.int .i64 (c : Int)) wr := by
            have := SM.look hX.sz hwe
            unfold szF at this
            rw [hc] at this
            exact this
          clear hc
          have hlen2 := hX.len
          have hlvX := hX.lv
          have hlmX := hX.lm
          have hfl := liveSum_flip a b c
          obtain ⟨S, hS⟩ : ∃ S, Hid (S = liveSum (a ++ (c, true) :: b)) := ⟨_, rfl⟩
          obtain ⟨_, c1, _, _, _, c5, c6⟩ := hX.cells
          rw [← hS.out] at c1 hlvX hfl
          have s0 : (c : Int) ≤ S := by omega
          have s1 : (S : Int) ≤ 2097152 := by omega
          have m0 : (0 : Int) ≤ m := by omega
          have m1 : (m : Int) < k := by omega
          obtain ⟨lab, l0, l1, l2, l3, l4, l5, l6, l7⟩ := id hX.nd
          have hbf : ¬ xk.bf ∈ xk.fb := fun hk => by have := l7 _ hk; omega
          have hf1 : ¬ p ∈ [xk.bs] := fun hk => by simp only [List.mem_singleton] at hk; rw [hk] at l0; omega
          have hf2 : ¬ xk.bf ∈ [xk.bs] := fun hk => by simp only [List.mem_singleton] at hk; rw [hk] at l4; omega
          have hf3 : ¬ xk.bf ∈ [p] := fun hk => by simp only [List.mem_singleton] at hk; rw [hk] at l4; omega
          have hf4 : ∀ g', g' ∈ xk.fb → ¬ g' ∈ [xk.bs] := fun g' hg' hk => by have := l7 g' hg'; simp only [List.mem_singleton] at hk; rw [hk] at this; omega
          have hf5 : ∀ g', g' ∈ xk.fb → ¬ g' ∈ [p] := fun g' hg' hk => by have := l7 g' hg'; simp only [List.mem_singleton] at hk; rw [hk] at this; omega
          have hf6 : ¬ p ∈ [xk.bf] := fun hk => by simp only [List.mem_singleton] at hk; rw [hk] at l0; omega
          have hf7 : ¬ p ∈ xk.fb := fun hk => by have := l7 _ hk; omega
          replace hX := Lib.hid hX
          replace hT := Lib.hid hT
          replace hF := Lib.hid hF
          replace hstep := Lib.hid hstep
          replace hfl := Lib.hid hfl
          clear l0 l1 l2 l3 l4 l5 l6
          go_upto_region 13 with (first
            | (refine wpList_delete_im rfl (.tmp 55) (.tmp 56) rfl hX.out.sz hwe rfl rfl ?_; intro w1 hs1 t1; replace hs1 := Lib.hid hs1; replace t1 := Lib.hid t1)
            | fail)
          have hd1 := hX.out.hd.turn t1.out hf1
          have fr1 := free_turn hX.out.fr t1.out hf2 hf4
          clear c1 c5 c6 hcl hlk
          have c1 := hd1.cell 1
          have f1 := hd1.free 1
          rw [← hS.out] at hd1
          simp [← hS.out] at c1
          have t2 : Turns [p] w1 (w1.setCell ⟨p, 1, none⟩ (.int .i64 ((S : Int) - c))) := (Turns.refl _ _).set p 1 _ (.inl (by simp))
          have hd2 := hd1.set 1 (.int .i64 ((S : Int) - c))
          have fr2 := free_turn fr1 t2 hf3 hf5
          obtain ⟨u, hlk, hrow, hput⟩ := free_put fr2 hposX (by unfold maxLen; omega) hbf
          obtain ⟨w2, hw2⟩ : ∃ w2, Hid (w2 = w1.setCell ⟨p, 1, none⟩ (.int .i64 ((S : Int) - c))) := ⟨_, rfl⟩
          rw [← hw2.out] at hlk hrow hput hd2
          have hl2 := hlk w2 (Turns.refl _ _)
          have c6 := hd2.cell 6
          simp at c6
          obtain ⟨hlo, hhi, hsrt⟩ := row_sorted a b c hposX
          rw [← hE.out] at hlo hhi hsrt hrow hput
          have hdl : (deadFrom 16 a (c : Int) ++ deadFrom (E + c) b (c : Int)).length ≤ 1099511627776 := by
            have h1 := dead_len 16 a (c : Int)
            have h2 := dead_len (E + c) b (c : Int)
            simp only [List.length_append, List.length_cons] at hlen2 ⊢
            omega
          obtain ⟨I, hI⟩ : ∃ I, Hid (I = (deadFrom 16 a (c : Int)).length) := ⟨_, rfl⟩
          replace hlo := Lib.hid hlo
          replace hhi := Lib.hid hhi
          replace hsrt := Lib.hid hsrt
          replace hrow := Lib.hid hrow
          replace hput := Lib.hid hput
          replace hlk := Lib.hid hlk
          replace hd2 := Lib.hid hd2
          replace hd1 := Lib.hid hd1
          replace hdl := Lib.hid hdl
          clear fr1 fr2 t2
          go_upto_region 14 with (fail)
          rw [← hw2.out]
          clear c1 f1
          go_upto_region 15 with (first
            | (go_at_call 76; refine (search_row hrow.out E hlo.out hhi.out hsrt.out hdl.out _ (I : Int) rfl (by rw [hI.out])).mono ?_; rintro r w3 ⟨bb, rfl, q, rfl⟩)
            | fail)
          have tA : Turns [] w2 ((w2.drewN (q + 1)).alloc (.cells #[.int .i64 (E : Int)] 3)) := ((Turns.refl [] w2).drewN (q + 1)).alloc _
          have tD : Turns [] w2 (w2.drewN (q + 1)) := (Turns.refl [] w2).drewN (q + 1)
          have hlD := hlk.out _ tD
          have hlA := hlk.out _ tA
          have cD := turn_cell tD (by simp) c6
          have cA := turn_cell tA (by simp) c6
          have hrA := Lib.hid (free_row_turn hrow.out tA (by simp))
          have hun : ¬ w2.heap.size ∈ rows u := fun hk => Nat.lt_irrefl _ (free_row_in hrow.out _ hk).2
          have huf : ∀ g', g' ∈ rows u → g' ∈ xk.fb := fun g' hg' => (free_row_in hrow.out g' hg').1
          have hbv := Lib.hid (Blk.new (w2.drewN (q + 1)) #[.int .i64 (E : Int)] 3)
          have hsp : (deadFrom 16 a (c : Int) ++ deadFrom (E + c) b (c : Int)).take I ++ E :: (deadFrom 16 a (c : Int) ++ deadFrom (E + c) b (c : Int)).drop I = deadFrom 16 a (c : Int) ++ E :: deadFrom (E + c) b (c : Int) := by rw [hI.out]; simp
          have hIl : I ≤ (deadFrom 16 a (c : Int) ++ deadFrom (E + c) b (c : Int)).length := by rw [hI.out, List.length_append]; omega
          replace hsp := Lib.hid hsp
          replace tA := Lib.hid tA
          replace huf := Lib.hid huf
          replace hun := Lib.hid hun
          clear hl2 hbf hf1 hf2 hf3 hf4 hf5 tD
          go_region_held3 (fun W => W.cell? ⟨p, 6, none⟩ = some (.map (some xk.bf))) (first | exact cD | exact cA | exact c4 | exact c5) ((first
            | (go_at_call 77; refine (insert_any hrA.out I hIl E w2.heap.size hbv.out hun.out hdl.out (I : Int) rfl).mono ?_; rw [hsp.out]; rintro r w4 ⟨v, rfl, hv, t4, hvr, hvo⟩; obtain ⟨w5, hrun5, fr5, t5⟩ := hput.out w4 v ((tA.out.more (by simp)).trans t4) hv (fun g' hg' => (hvr g' hg').imp id (fun q => Nat.le_trans tA.out.size q.1)) hvo; have c4 := turn_cell t4 (fun hk => hf7 (huf.out p hk)) cA; have c5 := turn_cell t5 hf6 c4; have hN := Lib.hid (freed hX.out (by rw [← hE.out]; exact hs1.out) t1.out (V := (S : Int) - c) (by rw [hS.out]) (by rw [← hw2.out]; exact tA.out) huf.out t4 hvr t5 fr5); clear hv t4 hvr t5 fr5 hvo)))
          all_goals go_wp2_with fail
          all_goals go_roundw
          case' rel => skip
          all_goals first
            | (simp [intOf]; omega)
            | (obtain ⟨x', hX', hT', hF'⟩ := hN.out
               exact ⟨m + 1, x', by omega, by go_num, (by rw [hstep.out]; exact hX'), hT.out.next hT' hF.out, fun j hj => by
                 rcases hF' j hj with q | q
                 · exact hF.out j q
                 · exact .inr (Nat.le_trans hT.out.size q)⟩)
        · obtain rfl : m = k := by omega
          obtain ⟨hX, hT, hF⟩ := hR.out
          rw [List.take_of_length_le (by rw [hn.out]; exact Nat.le_refl _)] at hX
          go_wp2_with fail
          go_ret
          exact ⟨rfl, xk, hX, hT, hF⟩
end Go.Proofs.Ytpbalilnemjeeaa
/- What is proved here: Free's refusal: where one offset begins no live block, or is named twice, nothing is done. Conditions: the arena is there. -/
namespace Go.Proofs.Ytpbalilnemjeeaa
set_option linter.unusedVariables false
set_option linter.unusedSimpArgs false
open Go.RowKit Pm Pa
set_option maxHeartbeats 4000000 in
set_option maxRecDepth 100000 in
theorem free_no {w : World} {p : Nat} {x : Loc} {lim : Nat} {ps : Parts} {L : List UInt8} (h : ArAt w p x lim ps L) (ofs : List Int) (g o cap n : Nat) (hn : ofs.length = n) (hin : IntsIn w (some ⟨g, o, none⟩) ofs) (hcap : n ≤ cap) (hlen : n ≤ 1099511627776)
    (hrg : ∀ e ∈ ofs, -9223372036854775808 ≤ e ∧ e ≤ 9223372036854775807) (j : Nat) (hj : j < n) (hgood : ∀ i e, i < j → ofs[i]? = some e → (sizeFrom 16 ps e).isSome = true ∧ ¬ e ∈ ofs.take i)
    (hbad : ∀ e, ofs[j]? = some e → sizeFrom 16 ps e = none ∨ e ∈ ofs.take j) :
    Calls Try.prog 32 #[.pointer (some ⟨p, 0, none⟩), .slice (some ⟨g, o, none⟩) n cap] w fun e w' => e = .returned (.int .i64 23) ∧ w = w' := by
  obtain ⟨c0, c1, c2, c3, c4, c5, c6⟩ := h.cells
  have hA := Lib.hid h
  clear h
  replace hn := Lib.hid hn
  replace hin := Lib.hid hin
  replace hgood := Lib.hid hgood
  replace hbad := Lib.hid hbad
  replace hrg := Lib.hid hrg
  clear c0 c1 c2 c3 c4 c6
  go_enter Try.func32, Try.ntmps32
  go_upto_region 2 with (fail)
  go_loopw [16] (fun a16 wr => ∃ k : Nat, k ≤ j ∧ a16 = .int .i64 (k : Int) ∧ Hid (wr = w)) (fun i _ => (n - (intOf i).toNat))
  case atStart => exact ⟨0, Nat.zero_le _, rfl, rfl⟩
  case round =>
    obtain ⟨k, hk, rfl, hw⟩ := hrel
    obtain rfl := hw.out.symm
    clear hw
    have hkn : k < n := by omega
    obtain ⟨e, he⟩ : ∃ e, Hid (ofs[k]? = some e) := ⟨_, List.getElem?_eq_getElem (by rw [hn.out]; exact hkn)⟩
    have hcl := ints_some hin.out k e he.out
    have hre := hrg.out e (List.mem_of_getElem? he.out)
    have hwe : (Lit.int .i64 e).wf = true := WalkArith.wf_i64 (by omega)
    have k0 : (0 : Int) ≤ k := by omega
    have k1 : (k : Int) < n := by omega
    have k2 : (k : Int) ≤ cap := by omega
    have hway : (∃ c, sizeFrom 16 ps e = some c) ∨ sizeFrom 16 ps e = none := by
      cases hsz : sizeFrom 16 ps e with
      | none => exact .inr rfl
      | some c => exact .inl ⟨c, rfl⟩
    rcases hway with ⟨c, hc⟩ | hc
    · have hlk : (Instr.lookup 125 (.map (some x.bs)) (.int .i64 e) true).run Try.prog w = .ok (.tuple #[.int .i64 (c : Int), .bool true]) w := by
        have := SM.look_ok hA.out.sz hwe
        unfold szF at this
        rw [hc] at this
        exact this
      by_cases hin2 : e ∈ ofs.take k
      · clear hc
        go_wp2_with (first
          | (go_at_call 75; refine (contains_any g o k _ ofs hin.out e (by rw [hn.out]; omega) (by omega) true (by first | exact List.elem_eq_true_of_mem hin2 | simp [hin2])).mono ?_; rintro r w' ⟨rfl, rfl⟩)
          | fail)
        go_ret
        exact ⟨rfl, rfl⟩
      · have hkj : k < j := by
          rcases Nat.lt_or_ge k j with q | q
          · exact q
          · obtain rfl : k = j := by omega
            rcases hbad.out e he.out with r | r
            · rw [hc] at r; cases r
            · exact absurd r hin2
        clear hc
        go_wp2_with (first
          | (go_at_call 75; refine (contains_any g o k _ ofs hin.out e (by rw [hn.out]; omega) (by omega) false (by simpa using hin2)).mono ?_; rintro r w' ⟨rfl, rfl⟩)
          | fail)
        go_roundw
        case rel => exact ⟨k + 1, by omega, by go_num, by first | rfl | trivial⟩
        case measure => simp [intOf]; omega
    · have hlk : (Instr.lookup 125 (.map (some x.bs)) (.int .i64 e) true).run Try.prog w = .ok (.tuple #[.int .i64 0, .bool false]) w := by
        have := SM.look_ok hA.out.sz hwe
        unfold szF at this
        rw [hc] at this
        exact this
      clear hc
      go_wp2_with fail
      go_ret
      exact ⟨rfl, rfl⟩
end Go.Proofs.Ytpbalilnemjeeaa
/- What is proved here: the arena's own test at every span: it is good just if it lies inside one live block; the width's test. Conditions: the arena is there. -/
namespace Go.Proofs.Ytpbalilnemjeeaa
set_option linter.unusedVariables false
set_option linter.unusedSimpArgs false
open Go.RowKit Pm Pa Pl
/-- a span by two numbers inside one live block -/
def InP (ps : Parts) (off n : Int) : Prop := ∃ o k : Nat, off = o ∧ n = k ∧ Inside ps o k
section
variable {w w' : World} {p : Nat} {x : Loc} {lim : Nat} {ps : Parts} {L : List UInt8}
theorem search_nil (x : Int) (w : World) : Calls Try.prog 76 #[.slice none 0 0, .int .i64 x] w fun e w' => e = .returned (.tuple #[.int .i64 0, .bool false]) ∧ w' = w := by
  go_enter Try.func76, Try.ntmps76
  go_wp2_with fail
  go_loopw [7, 8] (fun a b wr => a = .int .i64 0 ∧ b = .int .i64 0 ∧ wr = w) (fun _ _ _ => 0)
  case atStart => exact ⟨rfl, rfl, rfl⟩
  case round =>
    obtain ⟨rfl, rfl, rfl⟩ := hrel
    go_wp2_with fail
    go_ret2
    exact ⟨rfl, rfl⟩
theorem search_zero {v : Value} (hv : v = .slice none 0 0 ∨ ∃ g c, v = .slice (some ⟨g, 0, none⟩) 0 c) (x : Int) (w : World) : Calls Try.prog 76 #[v, .int .i64 x] w fun e w' => e = .returned (.tuple #[.int .i64 0, .bool false]) ∧ ∃ q, w' = w.drewN q := by
  rcases hv with rfl | ⟨g, c, rfl⟩
  · exact (search_nil x w).mono fun e w' ⟨h1, h2⟩ => ⟨h1, 0, h2⟩
  · exact search_any g 0 0 c [] x w (Nat.le_refl _) (by omega) (fun j hj => by cases hj) (by simp)
theorem good_nil (h : ArAt w p x lim [] L) (n : Int) (hn : 0 ≤ n) (hv : x.v1 = .slice none 0 0 ∨ ∃ g c, x.v1 = .slice (some ⟨g, 0, none⟩) 0 c) : Calls Try.prog 66 #[.pointer (some ⟨p, 0, none⟩), .int .i64 16, .int .i64 n] w fun e w' => e = .returned (.bool false) ∧ ∃ m, w' = w.drewN m := by
  have g1 : ¬ n < 0 := by omega
  obtain ⟨c0, c1, c2, c3, c4, c5, c6⟩ := h.cells
  have hS := Lib.hid (fun w => search_zero hv 16 w)
  have hA := Lib.hid h
  have he : Hid (((endOf [] : Nat) : Int) = 16) := rfl
  clear h
  by_cases hn0 : n = 0
  · subst hn0
    go_enter Try.func66, Try.ntmps66
    go_wp2_with (first
      | (go_at_call 33; refine (ar_end hA.out).mono ?_; rw [he.out]; rintro e w' ⟨rfl, rfl⟩)
      | (go_at_call 76; refine (hS.out _).mono ?_; rintro e w' ⟨rfl, q, rfl⟩)
      | (go_at_call 103; refine (holds_no _ _ _ (by omega) _ _).mono ?_; rintro e w' ⟨rfl, m, rfl⟩)
      | fail)
    go_ret
    exact ⟨rfl, _, rfl⟩
  · go_enter Try.func66, Try.ntmps66
    go_wp2_with (first
      | (go_at_call 33; refine (ar_end hA.out).mono ?_; rw [he.out]; rintro e w' ⟨rfl, rfl⟩)
      | (go_at_call 76; refine (hS.out _).mono ?_; rintro e w' ⟨rfl, q, rfl⟩)
      | (go_at_call 103; refine (holds_no _ _ _ (by omega) _ _).mono ?_; rintro e w' ⟨rfl, m, rfl⟩)
      | fail)
    go_ret
    exact ⟨rfl, _, rfl⟩
/-- the part that a place up to the end lies in or begins -/
theorem part_at (ps : Parts) (hp : ∀ a ∈ ps, 16 ≤ a.1) (off : Nat) (h1 : 16 ≤ off) (h2 : off ≤ endOf ps) (hn : 0 < ps.length) :
    ∃ k c l, ps[k]? = some (c, l) ∧ (off = stOf ps k ∨ (stOf ps k < off ∧ off ≤ stOf ps k + c ∧ (off < stOf ps k + c ∨ k + 1 = ps.length))) := by
  have key : ∀ j, j ≤ ps.length → off ≤ stOf ps j → 1 ≤ j → ∃ k c l, ps[k]? = some (c, l) ∧ (off = stOf ps k ∨ (stOf ps k < off ∧ off ≤ stOf ps k + c ∧ (off < stOf ps k + c ∨ k + 1 = ps.length))) := by
    intro j
    induction j with
    | zero => intro _ _ h; omega
    | succ j ih =>
      intro hj ho _
      obtain ⟨⟨c, l⟩, ha⟩ : ∃ a, ps[j]? = some a := ⟨_, List.getElem?_eq_getElem (by omega)⟩
      have hs := st_succ ps j _ ha
      simp only [] at hs
      by_cases e : off ≤ stOf ps j
      · by_cases e1 : off = stOf ps j
        · exact ⟨j, c, l, ha, .inl e1⟩
        · by_cases e0 : j = 0
          · subst e0
            have : stOf ps 0 = 16 := by simp [stOf, total]
            omega
          · exact ih (by omega) e (by omega)
      · by_cases e1 : off = stOf ps (j + 1)
        · by_cases e2 : j + 1 = ps.length
          · exact ⟨j, c, l, ha, .inr ⟨by omega, by omega, .inr e2⟩⟩
          · obtain ⟨⟨c', l'⟩, ha'⟩ : ∃ a, ps[j + 1]? = some a := ⟨_, List.getElem?_eq_getElem (by omega)⟩
            exact ⟨j + 1, c', l', ha', .inl e1⟩
        · exact ⟨j, c, l, ha, .inr ⟨by omega, by omega, .inl (by omega)⟩⟩
  exact key ps.length (Nat.le_refl _) (by rw [st_end]; exact h2) hn
theorem good_no (h : ArAt w p x lim ps L) (off n : Int) (hno : ¬ InP ps off n) : Calls Try.prog 66 #[.pointer (some ⟨p, 0, none⟩), .int .i64 off, .int .i64 n] w fun e w' => e = .returned (.bool false) ∧ ∃ m, w' = w.drewN m := by
  by_cases ho : n < 0 ∨ off < 16 ∨ (endOf ps : Int) < off
  · exact good_out h off n ho
  · obtain ⟨o, rfl⟩ : ∃ o : Nat, off = o := ⟨off.toNat, by omega⟩
    obtain ⟨k, rfl⟩ : ∃ k : Nat, n = k := ⟨n.toNat, by omega⟩
    have hp : ∀ a ∈ ps, 16 ≤ a.1 := fun a ha => (h.pos a ha).1
    by_cases hn : ps.length = 0
    · have hps : ps = [] := List.length_eq_zero_iff.1 hn
      subst hps
      have he : endOf [] = 16 := rfl
      obtain rfl : o = 16 := by omega
      have hv : x.v1 = .slice none 0 0 ∨ ∃ g c, x.v1 = .slice (some ⟨g, 0, none⟩) 0 c := by
        rcases h.st.2 with ⟨e, _⟩ | ⟨g, cap, cur, e, _⟩
        · exact .inl e
        · exact .inr ⟨g, cap, e⟩
      exact good_nil h k (by omega) hv
    · obtain ⟨i, c, l, hi, hc⟩ := part_at ps hp o (by omega) (by omega) (by omega)
      rcases hc with e | ⟨e1, e2, e3⟩
      · refine good_at h i c l hi o k (by omega) (by omega) false ?_
        rw [Bool.or_eq_false_iff]
        constructor
        · cases l with
          | false => rfl
          | true =>
            rw [Bool.true_and]
            refine decide_eq_false fun hle => hno ⟨o, k, rfl, rfl, i, c, hi, by omega, by omega⟩
        · rw [Bool.and_eq_false_iff]
          by_cases hk : (k : Int) = 0
          · right
            cases i with
            | zero => rfl
            | succ j =>
              obtain ⟨⟨c', l'⟩, hj⟩ : ∃ a, ps[j]? = some a := ⟨_, List.getElem?_eq_getElem (by have := (List.getElem?_eq_some_iff.1 hi).1; omega)⟩
              have hs := st_succ ps j _ hj
              simp only [] at hs
              simp only [prevLive, hj, Option.map_some, Option.getD_some]
              cases l' with
              | false => rfl
              | true => exact absurd ⟨o, k, rfl, rfl, j, c', hj, by omega, by omega⟩ hno
          · left; exact decide_eq_false hk
      · refine good_mid h i c l hi o k (by omega) (by omega) (by omega) (by omega) false ?_
        cases l with
        | false => rfl
        | true =>
          rw [Bool.true_and]
          refine decide_eq_false fun hle => hno ⟨o, k, rfl, rfl, i, c, hi, by omega, by omega⟩
theorem good_all (h : ArAt w p x lim ps L) (off n : Int) (r : Bool) (hr : r = true ↔ InP ps off n) : Calls Try.prog 66 #[.pointer (some ⟨p, 0, none⟩), .int .i64 off, .int .i64 n] w fun e w' => e = .returned (.bool r) ∧ ∃ m, w' = w.drewN m := by
  cases r with
  | true =>
    obtain ⟨o, k, h1, h2, h3⟩ := hr.1 rfl
    exact good_yes h h3 off n h1 h2
  | false => exact good_no h off n (fun hi => by have := hr.2 hi; cases this)
end
end Go.Proofs.Ytpbalilnemjeeaa
/- What is proved here: the arena's calls at a span that lies in no live block, and at a width that is none: the error, and nothing turned. Conditions: the arena is there. -/
namespace Go.Proofs.Ytpbalilnemjeeaa
set_option linter.unusedVariables false
set_option linter.unusedSimpArgs false
open Go.RowKit Pm Pa Pl
section
variable {w w' : World} {p : Nat} {x : Loc} {lim : Nat} {ps : Parts} {L : List UInt8}
def isW (k : Int) : Prop := k = 1 ∨ k = 2 ∨ k = 4 ∨ k = 8
theorem word_dead (h : ArAt w p x lim ps L) (off k : Int) (hk : isW k) (hno : ¬ InP ps off k) : Calls Try.prog 72 #[.pointer (some ⟨p, 0, none⟩), .int .i64 off, .int .i64 k] w fun e w' => e = .returned (.int .i64 24) ∧ ∃ m, w' = w.drewN m := by
  have hg := Lib.hid (good_no h off k hno)
  clear h hno
  rcases hk with rfl | rfl | rfl | rfl <;> (go_enter Try.func72, Try.ntmps72; go_wp2_with (first | (go_at_call 66; refine hg.out.mono ?_; rintro e w' ⟨rfl, m, rfl⟩) | fail); go_ret; exact ⟨rfl, _, rfl⟩)
theorem word_width (w : World) (P off k : Int) (hk : ¬ isW k) (A : Option Addr) : Calls Try.prog 72 #[.pointer A, .int .i64 off, .int .i64 k] w fun e w' => e = .returned (.int .i64 10) ∧ ∃ m, w' = w.drewN m := by
  have h1 : ¬ k = 1 := fun e => hk (.inl e)
  have h2 : ¬ k = 2 := fun e => hk (.inr (.inl e))
  have h3 : ¬ k = 4 := fun e => hk (.inr (.inr (.inl e)))
  have h4 : ¬ k = 8 := fun e => hk (.inr (.inr (.inr e)))
  go_enter Try.func72, Try.ntmps72
  go_wp2_with fail
  go_ret
  exact ⟨rfl, 0, rfl⟩
/-- word at whatever it is asked -/
theorem word_no (h : ArAt w p x lim ps L) (off k : Int) (E : Int) (hE : (E = 10 ∧ ¬ isW k) ∨ (E = 24 ∧ isW k ∧ ¬ InP ps off k)) : Calls Try.prog 72 #[.pointer (some ⟨p, 0, none⟩), .int .i64 off, .int .i64 k] w fun e w' => e = .returned (.int .i64 E) ∧ ∃ m, w' = w.drewN m := by
  rcases hE with ⟨rfl, h1⟩ | ⟨rfl, h1, h2⟩
  · exact word_width w 0 off k h1 _
  · exact word_dead h off k h1 h2
theorem ar_load_no (h : ArAt w p x lim ps L) (off k : Int) (E : Int) (hE : (E = 10 ∧ ¬ isW k) ∨ (E = 24 ∧ isW k ∧ ¬ InP ps off k)) : Calls Try.prog 30 #[.pointer (some ⟨p, 0, none⟩), .int .i64 off, .int .i64 k] w fun e w' => e = .returned (.tuple #[.int .u64 0, .int .i64 E]) ∧ ∃ m, w' = w.drewN m := by
  have hg := Lib.hid (word_no h off k E hE)
  have hE0 : ¬ E = 0 := by rcases hE with ⟨rfl, _⟩ | ⟨rfl, _⟩ <;> omega
  clear h hE
  go_enter Try.func30, Try.ntmps30
  go_wp2_with (first | (go_at_call 72; refine hg.out.mono ?_; rintro e w' ⟨rfl, m, rfl⟩) | fail)
  go_ret2
  exact ⟨rfl, _, rfl⟩
theorem ar_store_no (h : ArAt w p x lim ps L) (off k : Int) (v : Int) (E : Int) (hE : (E = 10 ∧ ¬ isW k) ∨ (E = 24 ∧ isW k ∧ ¬ InP ps off k)) : Calls Try.prog 29 #[.pointer (some ⟨p, 0, none⟩), .int .i64 off, .int .i64 k, .int .u64 v] w fun e w' => e = .returned (.int .i64 E) ∧ ∃ m, w' = w.drewN m := by
  have hg := Lib.hid (word_no h off k E hE)
  have hE0 : ¬ E = 0 := by rcases hE with ⟨rfl, _⟩ | ⟨rfl, _⟩ <;> omega
  clear h hE
  go_enter Try.func29, Try.ntmps29
  go_wp2_with (first | (go_at_call 72; refine hg.out.mono ?_; rintro e w' ⟨rfl, m, rfl⟩) | fail)
  go_ret
  exact ⟨rfl, _, rfl⟩
theorem ar_fill_no (h : ArAt w p x lim ps L) (off k b : Int) (hno : ¬ InP ps off k) : Calls Try.prog 26 #[.pointer (some ⟨p, 0, none⟩), .int .i64 off, .int .i64 k, .int .u8 b] w fun e w' => e = .returned (.int .i64 24) ∧ ∃ m, w' = w.drewN m := by
  have hg := Lib.hid (good_no h off k hno)
  clear h hno
  go_enter Try.func26, Try.ntmps26
  go_wp2_with (first | (go_at_call 66; refine hg.out.mono ?_; rintro e w' ⟨rfl, m, rfl⟩) | fail)
  go_ret
  exact ⟨rfl, _, rfl⟩
theorem ar_read_no (h : ArAt w p x lim ps L) (off k : Int) (hno : ¬ InP ps off k) : Calls Try.prog 25 #[.pointer (some ⟨p, 0, none⟩), .int .i64 off, .int .i64 k] w fun e w' => e = .returned (.tuple #[.string ⟨#[]⟩, .int .i64 24]) ∧ ∃ m, w' = w.drewN m := by
  have hg := Lib.hid (good_no h off k hno)
  clear h hno
  go_enter Try.func25, Try.ntmps25
  go_wp2_with (first | (go_at_call 66; refine hg.out.mono ?_; rintro e w' ⟨rfl, m, rfl⟩) | fail)
  go_ret2
  exact ⟨rfl, _, rfl⟩
theorem ar_copy_no (h : ArAt w p x lim ps L) (a b k : Int) (hno : ¬ InP ps a k ∨ ¬ InP ps b k) : Calls Try.prog 24 #[.pointer (some ⟨p, 0, none⟩), .int .i64 a, .int .i64 b, .int .i64 k] w fun e w' => e = .returned (.int .i64 24) ∧ ∃ m, w' = w.drewN m := by
  by_cases ha : InP ps a k
  · have hb : ¬ InP ps b k := by rcases hno with e | e; exact absurd ha e; exact e
    have hg1 := Lib.hid (good_all h a k true ⟨fun _ => ha, fun _ => rfl⟩)
    have hg2 := Lib.hid (fun m => good_no (h.drewN m) b k hb)
    have tok : True := trivial
    clear h hno ha hb
    go_enter Try.func24, Try.ntmps24
    go_wp2_with (first
      | (go_at_call 66; have _t := tok; refine hg1.out.mono ?_; rintro e w' ⟨rfl, m, rfl⟩; clear tok)
      | (go_at_call 66; refine (hg2.out _).mono ?_; rintro e w' ⟨rfl, m2, rfl⟩)
      | fail)
    go_ret
    exact ⟨rfl, _, rfl⟩
  · have hg := Lib.hid (good_no h a k ha)
    clear h hno ha
    go_enter Try.func24, Try.ntmps24
    go_wp2_with (first | (go_at_call 66; refine hg.out.mono ?_; rintro e w' ⟨rfl, m, rfl⟩) | fail)
    go_ret
    exact ⟨rfl, _, rfl⟩
theorem ar_equal_no (h : ArAt w p x lim ps L) (a b k : Int) (hno : ¬ InP ps a k ∨ ¬ InP ps b k) : Calls Try.prog 23 #[.pointer (some ⟨p, 0, none⟩), .int .i64 a, .int .i64 b, .int .i64 k] w fun e w' => e = .returned (.tuple #[.bool false, .int .i64 24]) ∧ ∃ m, w' = w.drewN m := by
  by_cases ha : InP ps a k
  · have hb : ¬ InP ps b k := by rcases hno with e | e; exact absurd ha e; exact e
    have hg1 := Lib.hid (good_all h a k true ⟨fun _ => ha, fun _ => rfl⟩)
    have hg2 := Lib.hid (fun m => good_no (h.drewN m) b k hb)
    have tok : True := trivial
    clear h hno ha hb
    go_enter Try.func23, Try.ntmps23
    go_wp2_with (first
      | (go_at_call 66; have _t := tok; refine hg1.out.mono ?_; rintro e w' ⟨rfl, m, rfl⟩; clear tok)
      | (go_at_call 66; refine (hg2.out _).mono ?_; rintro e w' ⟨rfl, m2, rfl⟩)
      | fail)
    go_ret2
    exact ⟨rfl, _, rfl⟩
  · have hg := Lib.hid (good_no h a k ha)
    clear h hno ha
    go_enter Try.func23, Try.ntmps23
    go_wp2_with (first | (go_at_call 66; refine hg.out.mono ?_; rintro e w' ⟨rfl, m, rfl⟩) | fail)
    go_ret2
    exact ⟨rfl, _, rfl⟩
end
end Go.Proofs.Ytpbalilnemjeeaa
/- What is proved here: the arena's Write at a span that lies in no live block. Conditions: the arena is there, the text is not longer than any machine's memory. -/
namespace Go.Proofs.Ytpbalilnemjeeaa
set_option linter.unusedVariables false
set_option linter.unusedSimpArgs false
open Go.RowKit Pm Pa Pl
set_option maxHeartbeats 4000000 in
set_option maxRecDepth 100000 in
theorem as_write_no {w0 w : World} {p : Nat} {x : Loc} {lim : Nat} {ps : Parts} {L : List UInt8} (h : AS w0 p x lim ps L w) (ss : List ByteArray) (A : Option Addr) (cc : Nat) (ha : StrsAt w A ss) (hl : ss.length ≤ 100000000) {T : List UInt8} (hT : (ss.map fun s => s.data.toList).flatten = T)
    (hT134 : T.length ≤ 1099511627776) (O : Int) (hno : ¬ InP ps O (T.length : Int)) (N : Nat) (hN : ss.length = N) : Calls Try.prog 22 #[.pointer (some ⟨p, 0, none⟩), .int .i64 O, .slice A N cc] w fun e w' => e = .returned (.int .i64 24) ∧ AS w0 p x lim ps L w' ∧ Below w.heap.size w w' := by
  subst hN
  have hA := Lib.hid h
  obtain ⟨i0, hi0, hz0, hz1, hz2⟩ := info_parts infoBs
  have hib : i0.bytes * ss.length ≤ 281474976710656 := by rw [hz2]; omega
  replace hi0 := Lib.hid hi0
  replace hz0 := Lib.hid hz0
  replace hz1 := Lib.hid hz1
  replace hz2 := Lib.hid hz2
  replace ha := Lib.hid ha
  replace hT := Lib.hid hT
  clear h
  go_enter Try.func22, Try.ntmps22
  go_wp2_with (first
    | (at_make; refine wpList_make_own _ rfl _ _ _ rfl w.heap.size 131 i0 (.slice none 0 0) 1 Try.underlying130 hi0.out hz0.out hz1.out .i64 .i64 _ ss.length rfl rfl rfl hib (by unfold maxLen; omega) (by simp) ?_; intro w2 hrow hgr)
    | fail)
  have hW0 : Wl w [] (.slice (some ⟨w.heap.size, 0, none⟩) 0 ss.length) [] w2 := ⟨⟨hgr.os, hgr.tape, hgr.output, hgr.size, fun k hk => hgr.block k (by omega) (by simp)⟩, hrow, fun i s hi => by simp at hi⟩
  obtain ⟨v0, hv0⟩ : ∃ v, Hid (v = Value.slice (some ⟨w.heap.size, 0, none⟩) 0 ss.length) := ⟨_, rfl⟩
  rw [← hv0.out] at hW0 ⊢
  clear hrow hgr hv0 hib
  replace hW0 := Lib.hid hW0
  obtain ⟨wo, rfl⟩ : ∃ wo : World, wo = w := ⟨_, rfl⟩
  go_loopw [7, 8, 16] (fun a7 a8 a16 wr => ∃ (k : Nat) (v : Value) (xs : List Value), k ≤ ss.length ∧ a16 = .int .i64 (k : Int) ∧ a7 = .int .i64 ((((ss.take k).map fun s => s.data.toList).flatten.length : Nat) : Int) ∧ v = a8 ∧ Hid (Wl wo ((ss.take k).map fun s => s.data.toList) v xs wr)) (fun _ _ i _ => (ss.length - (intOf i).toNat))
  case atStart => exact ⟨0, v0, [], Nat.zero_le _, rfl, rfl, rfl, hW0⟩
  case round =>
    obtain ⟨k, v, xs, hk, rfl, rfl, rfl, hW⟩ := hrel
    by_cases hlt : k < ss.length
    · obtain ⟨s, hs⟩ : ∃ s, Hid (ss[k]? = some s) := ⟨_, List.getElem?_eq_getElem hlt⟩
      obtain ⟨g, o, rfl, hc0⟩ := ha.out k s hs.out
      have hc : wr.cell? ⟨g, o + k, none⟩ = some (.string s) := (hW.out.below.cell (p := ⟨g, o + k, none⟩) (World.block_lt_of_cell? wo _ hc0)).trans hc0
      have hsn := Lib.hid (flat_snoc ss k s hs.out)
      have hfl : (((ss.take (k + 1)).map fun s => s.data.toList).flatten.length) ≤ T.length := by
        rw [← hT.out]
        have e : ss.map (fun s => s.data.toList) = (ss.take (k + 1)).map (fun s => s.data.toList) ++ (ss.drop (k + 1)).map (fun s => s.data.toList) := by rw [← List.map_append, List.take_append_drop]
        rw [e, List.flatten_append, List.length_append]; omega
      rw [hsn.out, List.flatten_append, List.length_append] at hfl
      have hs1 : ([s.data.toList].flatten).length = s.size := by simp
      rw [hs1] at hfl
      have hml : ((ss.take k).map fun s => s.data.toList).length = k := by rw [List.length_map, List.length_take]; omega
      obtain ⟨M, hM⟩ : ∃ M, Hid (M = ((ss.take k).map fun s => s.data.toList).flatten.length) := ⟨_, rfl⟩
      rw [← hM.out] at hfl ⊢
      have k0 : (0 : Int) ≤ k := by omega
      have k1 : (k : Int) < ss.length := by omega
      go_wp2_with (first
        | ((with_reducible show wpList _ _ _ (⟨some 26, _, _, _, _, _⟩ :: _) _ _); refine wpList_to_bytes2 rfl _ rfl s rfl ?_; intro w5 c5 h5s h5b h5; have hW5 := (hW.out.keep h5b).keep ((Below.refl _ _).alloc (Nat.le_refl _) (.cells #[.slice (some ⟨wr.heap.size, 0, none⟩) s.size c5] 131)); have h5' := h5.keep ((Below.refl _ _).alloc (Nat.le_refl _) (.cells #[.slice (some ⟨wr.heap.size, 0, none⟩) s.size c5] 131)); have hc5 := (Blk.new w5 #[.slice (some ⟨wr.heap.size, 0, none⟩) s.size c5] 131).cell 0; rw [h5s] at hc5)
        | (at_builtin; refine wpList_append_list rfl _ _ rfl wo.heap.size _ k xs rfl (by rw [← hml]; exact hW5.l) (wr.heap.size + 1) (some ⟨wr.heap.size, 0, none⟩) s.size c5 rfl hc5 (by omega) (by have := hW5.below.size; exact this) ?_; intro v6 w6 hown hgrow hloc)
        | fail)
      have hstep := Wl.step (s := s.data.toList) hW5 h5' (by have := hW.out.below.size; exact this) (by rw [hml, Array.length_toList]; exact hown) hgrow
      refine ⟨⟨k + 1, v6, xs ++ [.slice (some ⟨wr.heap.size, 0, none⟩) s.data.toList.length c5], by omega, by go_num, ?_, rfl, ?_⟩, by simp [intOf]; omega⟩
      · rw [hsn.out, List.flatten_append, List.length_append, hs1, ← hM.out]
        push_cast
        rfl
      · rw [hsn.out]; exact hstep
    · obtain rfl : k = ss.length := by omega
      rw [List.take_length] at hW ⊢
      rw [hT.out]
      have hAr := Lib.hid (hA.out.keep hW.out.below)
      obtain ⟨d0, d1, d2, d3, d4, d5, d6⟩ := hAr.out.ar.cells
      clear d0 d1 d3 d4 d5 d6 hk hlt
      have hml : (ss.map fun s => s.data.toList).length = ss.length := by simp
      replace hW := Lib.hid hW.out.below
      have tok1 : True := trivial
      go_wp2_with (first
        | (go_at_call 66; have _t := tok1; refine (good_no hAr.out.ar O _ hno).mono ?_; rintro e w' ⟨rfl, m1, rfl⟩; clear tok1)
        | fail)
      go_ret
      exact ⟨rfl, hAr.out.drewN m1, below_drewN hW.out m1⟩
end Go.Proofs.Ytpbalilnemjeeaa
/- What is proved here: an append to a list of the call's own: the list's block is the old one or a new one, and nothing else has turned; in the open and inside a fence. No condition. -/
namespace Go.Proofs.Ytpbalilnemjeeaa
set_option linter.unusedVariables false
set_option linter.unusedSimpArgs false
open Go.RowKit
theorem ownsRow_mono {w : World} {B B' size n : Nat} {e : TypeId} {v : Value} {xs : List Value} (h : w.ownsRow B e size v n xs) (hB : B' ≤ B) : w.ownsRow B' e size v n xs := by
  refine ⟨h.1, ?_⟩
  rcases h.2 with h | ⟨g, cap, cur, h1, h2, h3⟩
  · exact .inl h
  · exact .inr ⟨g, cap, cur, h1, Nat.le_trans hB h2, h3⟩
theorem rows_some (g o n c : Nat) : rows (.slice (some ⟨g, o, none⟩) n c) = [g] := rfl
theorem run_append_loc {P : Program} (w : World) (base : Nat) (t ty e : TypeId) (i : TypeInfo) (z : Value) (size bytes : Nat) (ht : P.underlying t = some (.slice e)) (hi : P.info? e = some i) (hz : i.zero = some z)
    (hsize : i.size = size) (hby : i.bytes = bytes) (hzs : z.cells.size = size) (hsz : 0 < size)
    (v : Value) (n : Nat) (xs : List Value) (hown : w.ownsRow base e size v n xs)
    (a : Addr) (m c : Nat) (news : List Value) (hl : news.length = m * size) (hnews : ∀ j u, news[j]? = some u → w.cell? (a.add j) = some u) (h1 : ∀ u ∈ news, u.oneCell' = true)
    (h63 : n + m ≤ maxLen) (hbytes : (n + m) * bytes ≤ 140737488355328) (hbase : base ≤ w.heap.size) :
    ∃ v' w', (Builtin.append_ #[t, t] ty #[v, .slice (some a) m c]).run P w = .ok v' w' ∧ w'.ownsRow base e size v' (n + m) (xs ++ news) ∧ Turns (rows v) w w' ∧ (∀ g, g ∈ rows v' → g ∈ rows v ∨ w.heap.size ≤ g) := by
  have key : ∀ {u : Value} {w' : World}, w'.ownsRow w.heap.size e size u (n + m) (xs ++ news) → ∀ g, g ∈ rows u → g ∈ rows v ∨ w.heap.size ≤ g := fun h g hg => .inr (h.lt g (by simpa [rows] using hg)).1
  rcases hown.2 with ⟨rfl, rfl⟩ | ⟨g, cap, cur, rfl, hbg, hg, hnc, hcm, hcs, htake⟩
  · have hxs : xs = [] := List.eq_nil_of_length_eq_zero (by simpa using hown.1)
    subst hxs
    obtain ⟨v', w', h2, h3, h4, _⟩ := run_append_own (P := P) w w.heap.size t ty e i z size bytes ht hi hz hsize hby hzs hsz (.slice none 0 0) 0 [] (World.ownsRow_nil _ _ _ _) a m c news hl hnews h1 h63 hbytes (Nat.le_refl _)
    exact ⟨v', w', h2, ownsRow_mono h3 hbase, turns_grown h4, key h3⟩
  · by_cases hr : n + m ≤ cap
    · obtain ⟨w', h2, h3, h4⟩ := run_append_fits (P := P) w base t ty e i size ht hi hsize g n cap xs hown a m c news hl hnews h1 hr
      exact ⟨_, w', h2, h3, turns_grown (v := .slice (some ⟨g, 0, none⟩) n cap) h4, fun k hk => .inl hk⟩
    · obtain ⟨v', w', h2, h3, h4⟩ := run_append_arg_grows (P := P) w t ty e i z size bytes ht hi hz hsize hby hzs hsz ⟨g, 0, none⟩ n cap xs hown.1 (fun j u hj => hown.cells (g := g) rfl j u hj) a m c news hl hnews (by omega) h63 hbytes
      exact ⟨v', w', h2, ownsRow_mono h3 hbase, (turns_grown (v := .slice none 0 0) h4).more fun k hk => by simp [rows, Value.ownBlock] at hk, key h3⟩
section
variable {P : Program} {ops : Array Oper} {rest : List Oper} {o : Oper} {a : Act} {Q : Exit → Act → World → Prop}
theorem wpList_append_loc (w : World) (hg : o.guard = none) (s x : Operand) (t : TypeId) (hop : o.op = Op.call { callee := Callee.builtin Builtin.append, args := #[s, x], argTypes := #[t, t] })
    (base : Nat) (e : TypeId) (i : TypeInfo) (z : Value) (size bytes : Nat) (h1 : P.underlying t = some (.slice e)) (h2 : P.info? e = some i) (h3 : i.zero = some z) (h4 : i.size = size) (h5 : i.bytes = bytes) (h6 : z.cells.size = size) (h7 : 0 < size)
    (v : Value) (k : Nat) (xs : List Value) (hs : a.eval s = v) (hown : w.ownsRow base e size v k xs) (ad : Addr) (m c : Nat) (news : List Value) (hx : a.eval x = .slice (some ad) m c) (hn : news.length = m * size)
    (hc : ∀ j u, news[j]? = some u → w.cell? (ad.add j) = some u) (h1c : ∀ u ∈ news, u.oneCell' = true) (b1 : k + m ≤ maxLen) (b2 : (k + m) * bytes ≤ 140737488355328) (b3 : base ≤ w.heap.size)
    (hK : ∀ v' w', w'.ownsRow base e size v' (k + m) (xs ++ news) → Turns (rows v) w w' → (∀ g, g ∈ rows v' → g ∈ rows v ∨ w.heap.size ≤ g) → wpList P ops Q rest (a.put o.dst v') w') :
    wpList P ops Q (o :: rest) a w := by
  refine wpList_plain hg fun K hK' => ?_
  obtain ⟨v', w', hrun, r1, r2, r3⟩ := run_append_loc (P := P) w base t o.type e i z size bytes h1 h2 h3 h4 h5 h6 h7 v k xs hown ad m c news hn hc h1c b1 b2 b3
  unfold Oper.wp
  simp [execOp, hop, resolve, invoke, builtin, hs, hx, hrun, Result.andThen]
  exact hK' _ _ (hK v' w' r1 r2 r3)
theorem wpListIn_append_loc {F : Fence} {n : Nat} (w : World) (hg : o.guard = none) (s x : Operand) (t : TypeId) (hop : o.op = Op.call { callee := Callee.builtin Builtin.append, args := #[s, x], argTypes := #[t, t] })
    (base : Nat) (e : TypeId) (i : TypeInfo) (z : Value) (size bytes : Nat) (h1 : P.underlying t = some (.slice e)) (h2 : P.info? e = some i) (h3 : i.zero = some z) (h4 : i.size = size) (h5 : i.bytes = bytes) (h6 : z.cells.size = size) (h7 : 0 < size)
    (v : Value) (k : Nat) (xs : List Value) (hs : a.eval s = v) (hown : w.ownsRow base e size v k xs) (ad : Addr) (m c : Nat) (news : List Value) (hx : a.eval x = .slice (some ad) m c) (hn : news.length = m * size)
    (hc : ∀ j u, news[j]? = some u → w.cell? (ad.add j) = some u) (h1c : ∀ u ∈ news, u.oneCell' = true) (b1 : k + m ≤ maxLen) (b2 : (k + m) * bytes ≤ 140737488355328) (b3 : base ≤ w.heap.size)
    (hK : ∀ v' w', w'.ownsRow base e size v' (k + m) (xs ++ news) → Turns (rows v) w w' → (∀ g, g ∈ rows v' → g ∈ rows v ∨ w.heap.size ≤ g) → wpListIn F n P ops Q rest (a.put o.dst v') w') :
    wpListIn F n P ops Q (o :: rest) a w := by
  refine wpListIn_plain hg fun K hK' => ?_
  obtain ⟨v', w', hrun, r1, r2, r3⟩ := run_append_loc (P := P) w base t o.type e i z size bytes h1 h2 h3 h4 h5 h6 h7 v k xs hown ad m c news hn hc h1c b1 b2 b3
  unfold Oper.wpIn
  refine ⟨?_, ?_⟩
  · simp [Oper.about, hop, resolve, Target.leads, Sem.run_pure]
  · rw [Oper.semAt_plain F _ _ (by rw [hop]; intro c hc'; cases hc')]
    simp [execOp, hop, resolve, invoke, builtin, hs, hx, hrun, Result.andThen]
    exact hK' _ _ (hK v' w' r1 r2 r3)
end
end Go.Proofs.Ytpbalilnemjeeaa
/- What is proved here: several lists of the call's own, each in its own block, beside blocks X of other things: what stays of them behind a call, an append, a store. No condition. -/
namespace Go.Proofs.Ytpbalilnemjeeaa
set_option linter.unusedVariables false
set_option linter.unusedSimpArgs false
open Go.RowKit
/-- a list of the call's own: n elements of `size` cells -/
structure Row where
  e : TypeId
  size : Nat
  v : Value
  n : Nat
  xs : List Value
/-- the lists rs lie at or above B, apart from X and from one another -/
structure Sh (B : Nat) (X : List Nat) (rs : List Row) (w : World) : Prop where
  row : ∀ (i : Nat) (r : Row), rs[i]? = some r → w.ownsRow B r.e r.size r.v r.n r.xs
  out : ∀ (i : Nat) (r : Row), rs[i]? = some r → ∀ g, g ∈ rows r.v → ¬ g ∈ X
  apart : ∀ (i j : Nat) (r s : Row), i ≠ j → rs[i]? = some r → rs[j]? = some s → ∀ g, g ∈ rows r.v → ¬ g ∈ rows s.v
section
variable {B : Nat} {X X' : List Nat} {rs : List Row} {w w' : World}
theorem Sh.nil (B : Nat) (X : List Nat) (w : World) : Sh B X [] w := ⟨fun i r h => by simp at h, fun i r h => by simp at h, fun i j r s _ h => by simp at h⟩
theorem Sh.lt (h : Sh B X rs w) {i : Nat} {r : Row} (hi : rs[i]? = some r) {g : Nat} (hg : g ∈ rows r.v) : B ≤ g ∧ g < w.heap.size := (h.row i r hi).lt g (by simpa [rows] using hg)
/-- blocks of X turn, or new ones -/
theorem Sh.move (h : Sh B X rs w) (ht : Turns X w w') (hf : ∀ k, k ∈ X' → k ∈ X ∨ w.heap.size ≤ k) : Sh B X' rs w' :=
  ⟨fun i r hi => row_turn (h.row i r hi) ht (h.out i r hi), fun i r hi g hg hk => by
    rcases hf g hk with e | e
    · exact h.out i r hi g hg e
    · have := (h.lt hi hg).2; omega, h.apart⟩
theorem Sh.turn (h : Sh B X rs w) {S : List Nat} (ht : Turns S w w') (hS : ∀ k, k ∈ S → k ∈ X ∨ w.heap.size ≤ k) : Sh B X rs w' :=
  h.move (ht.more hS) (fun k hk => .inl hk)
theorem Sh.keep (h : Sh B X rs w) (hb : Below w.heap.size w w') : Sh B X rs w' := h.turn (S := []) (Turns.of_below hb) (fun k hk => by cases hk)
theorem Sh.less (h : Sh B X rs w) (hf : ∀ k, k ∈ X' → k ∈ X ∨ w.heap.size ≤ k) : Sh B X' rs w := h.move (Turns.refl _ _) hf
/-- list i becomes another: in its block or in a new one -/
theorem Sh.put (h : Sh B X rs w) {i : Nat} {r : Row} (hi : rs[i]? = some r) (r' : Row) (ht : Turns (rows r.v) w w') (hr : w'.ownsRow B r'.e r'.size r'.v r'.n r'.xs) (hl : ∀ g, g ∈ rows r'.v → g ∈ rows r.v ∨ w.heap.size ≤ g) (hX : ∀ k, k ∈ X → k < w.heap.size) : Sh B X (rs.set i r') w' := by
  have hil := (List.getElem?_eq_some_iff.1 hi).1
  have get : ∀ (j : Nat) (s : Row), (rs.set i r')[j]? = some s → (j = i ∧ s = r') ∨ (j ≠ i ∧ rs[j]? = some s) := fun j s hj => by
    by_cases e : i = j
    · subst e
      rw [List.getElem?_set_self hil] at hj
      exact .inl ⟨rfl, (Option.some.inj hj).symm⟩
    · rw [List.getElem?_set_ne e] at hj
      exact .inr ⟨fun q => e q.symm, hj⟩
  refine ⟨fun j s hj => ?_, fun j s hj g hg hk => ?_, fun j k s t hjk hj hk g hg hg2 => ?_⟩
  · rcases get j s hj with ⟨rfl, rfl⟩ | ⟨hn, hj⟩
    · exact hr
    · exact row_turn (h.row j s hj) ht (fun g hg e => h.apart j i s r hn hj hi g hg e)
  · rcases get j s hj with ⟨rfl, rfl⟩ | ⟨hn, hj⟩
    · rcases hl g hg with e | e
      · exact h.out _ r hi g e hk
      · have := hX g hk; omega
    · exact h.out j s hj g hg hk
  · rcases get j s hj with ⟨ej, es⟩ | ⟨hn, hj2⟩
    · subst ej es
      rcases get k t hk with ⟨ek, _⟩ | ⟨hn, hk2⟩
      · exact hjk ek.symm
      · rcases hl g hg with e | e
        · exact h.apart _ k r t hjk hi hk2 g e hg2
        · have := (h.lt hk2 hg2).2; omega
    · rcases get k t hk with ⟨ek, et⟩ | ⟨hn2, hk2⟩
      · subst ek et
        rcases hl g hg2 with e | e
        · exact h.apart j _ s r hjk hj2 hi g hg e
        · have := (h.lt hj2 hg).2; omega
      · exact h.apart j k s t hjk hj2 hk2 g hg hg2
/-- one list more, in a new block or in none -/
theorem Sh.push (h : Sh B X rs w) (r : Row) (hr : w.ownsRow B r.e r.size r.v r.n r.xs) (ho : ∀ g, g ∈ rows r.v → ¬ g ∈ X) (ha : ∀ (j : Nat) (s : Row), rs[j]? = some s → ∀ g, g ∈ rows r.v → ¬ g ∈ rows s.v) : Sh B X (rs ++ [r]) w := by
  have get : ∀ (j : Nat) (s : Row), (rs ++ [r])[j]? = some s → (j = rs.length ∧ s = r) ∨ (j < rs.length ∧ rs[j]? = some s) := fun j s hj => by
    by_cases e : j < rs.length
    · rw [List.getElem?_append_left e] at hj; exact .inr ⟨e, hj⟩
    · rw [List.getElem?_append_right (by omega)] at hj
      have h0 : j - rs.length = 0 := by
        have := (List.getElem?_eq_some_iff.1 hj).1
        simp at this; omega
      rw [h0] at hj
      exact .inl ⟨by omega, (Option.some.inj hj).symm⟩
  refine ⟨fun j s hj => ?_, fun j s hj g hg => ?_, fun j k s t hjk hj hk g hg hg2 => ?_⟩
  · rcases get j s hj with ⟨_, rfl⟩ | ⟨_, hj⟩
    · exact hr
    · exact h.row j s hj
  · rcases get j s hj with ⟨_, rfl⟩ | ⟨_, hj⟩
    · exact ho g hg
    · exact h.out j s hj g hg
  · rcases get j s hj with ⟨ej, es⟩ | ⟨_, hj2⟩
    · rcases get k t hk with ⟨ek, et⟩ | ⟨_, hk2⟩
      · omega
      · rw [es] at hg
        exact ha k t hk2 g hg hg2
    · rcases get k t hk with ⟨ek, et⟩ | ⟨_, hk2⟩
      · rw [et] at hg2
        exact ha j s hj2 g hg2 hg
      · exact h.apart j k s t hjk hj2 hk2 g hg hg2
/-- one that has no block -/
theorem Sh.pushNil (h : Sh B X rs w) (e : TypeId) (size : Nat) : Sh B X (rs ++ [⟨e, size, .slice none 0 0, 0, []⟩]) w :=
  h.push _ (World.ownsRow_nil _ _ _ _) (fun g hg => by simp [rows, Value.ownBlock] at hg) (fun j s hs g hg => by simp [rows, Value.ownBlock] at hg)
/-- one that a call made anew: rows above the size of the world ahead of the call -/
theorem Sh.pushNew {w0 : World} (h0 : Sh B X rs w0) (h : Sh B X' rs w) (r : Row) (hr : w.ownsRow w0.heap.size r.e r.size r.v r.n r.xs) (hB : B ≤ w0.heap.size) (ho : ∀ g, g ∈ rows r.v → ¬ g ∈ X') : Sh B X' (rs ++ [r]) w :=
  h.push r (ownsRow_mono hr hB) ho (fun j s hs g hg hg2 => by
    have h1 := (hr.lt g (by simpa [rows] using hg)).1
    have h2 := (h0.lt hs hg2).2
    omega)
end
/-- a cell of an own row is written -/
theorem row_set {w : World} {B size n : Nat} {e : TypeId} {v : Value} {xs : List Value} (h : w.ownsRow B e size v n xs) {g cap : Nat} (hv : v = .slice (some ⟨g, 0, none⟩) n cap) (j : Nat) (u : Value) (hj : j < xs.length) :
    (w.setCell ⟨g, j, none⟩ u).ownsRow B e size v n (xs.set j u) := by
  refine ⟨by rw [List.length_set]; exact h.1, ?_⟩
  rcases h.2 with ⟨e1, _⟩ | ⟨g', cap', cur, e1, h1, h2, h3, h4, h5, h6⟩
  · rw [e1] at hv; cases hv
  · rw [e1] at hv
    cases hv
    refine .inr ⟨g, cap, cur.setIfInBounds j u, e1, h1, ?_, h3, h4, by simpa using h5, ?_⟩
    · simp [World.setCell, Array.getElem?_modify, h2]
    · rw [← h6]
      apply List.ext_getElem?
      intro i
      rw [Array.toList_setIfInBounds, List.getElem?_take, List.getElem?_set, List.getElem?_set, List.length_take, List.getElem?_take]
      have hl : xs.length = n * size := h.1
      by_cases e2 : i < n * size
      · rw [if_pos e2]
        by_cases e3 : j = i
        · rw [if_pos e3, if_pos e3]
          have : cur.toList.length = cap * size := by simpa using h5
          have h9 : n * size ≤ cap * size := Nat.mul_le_mul_right _ h3
          have hjc : j < cur.toList.length := by rw [this]; omega
          have hjm : j < min (n * size) cur.toList.length := by rw [this]; omega
          rw [if_pos hjc, if_pos hjm]
        · rw [if_neg e3, if_neg e3, if_pos e2]
      · rw [if_neg e2]
        by_cases e3 : j = i
        · subst e3; omega
        · rw [if_neg e3, if_neg e2]
end Go.Proofs.Ytpbalilnemjeeaa
/- What is proved here: a list of ints appended to a row of the call's own. No condition but the list's length. -/
namespace Go.Proofs.Ytpbalilnemjeeaa
set_option linter.unusedVariables false
set_option linter.unusedSimpArgs false
open Go.RowKit Pm Pa Pl Pd
theorem wpList_append_ints {w : World} {ops : Array Oper} {rest : List Oper} {o : Oper} {a : Act} {Q : Exit → Act → World → Prop} (hgd : o.guard = none) (s x : Operand)
    (ho : o.op = .call { callee := .builtin .append, args := #[s, x], argTypes := #[29, 29] })
    (base : Nat) (v : Value) (n : Nat) (xs : List Value) (hs : a.eval s = v) (hown : w.ownsRow base 3 1 v n xs)
    (A : Option Addr) (m c : Nat) (zs : List Int) (hx : a.eval x = .slice A m c) (hm : zs.length = m) (hz : IntsIn w A zs) (hA : A = none → m = 0 ∧ c = 0)
    (hbytes : (n + m) * 8 ≤ 140737488355328) (hbase : base ≤ w.heap.size)
    (h : ∀ v' w', w'.ownsRow base 3 1 v' (n + m) (xs ++ zs.map (Value.int .i64)) → w.grownBy w' v.ownBlock → wpList Try.prog ops Q rest (a.put o.dst v') w') : wpList Try.prog ops Q (o :: rest) a w := by
  obtain ⟨i0, hi, hz0, hz1, hz2⟩ := info_parts infoInt
  cases A with
  | none =>
    obtain ⟨rfl, rfl⟩ := hA rfl
    have e : zs = [] := List.eq_nil_of_length_eq_zero hm
    subst e
    refine wpList_append_own_none hgd s x _ ho base 3 i0 1 Try.underlying29 hi v n xs hs hown hx ?_
    exact h v w (by simpa using hown) ⟨rfl, rfl, rfl, Nat.le_refl _, fun _ _ _ => rfl⟩
  | some ad =>
    refine wpList_append_own w hgd s x _ ho base 3 i0 (.int .i64 0) 1 8 Try.underlying29 hi hz0 hz1 hz2 rfl (by decide) v n xs hs hown ad m c (zs.map (Value.int .i64)) hx (by simp [hm]) ?_ (fun u hu => by obtain ⟨z, _, rfl⟩ := List.mem_map.1 hu; rfl) (by unfold maxLen; omega) hbytes hbase (fun v' w' h1 h2 _ => h v' w' h1 h2)
    intro j u hu
    rw [List.getElem?_map] at hu
    obtain ⟨z, hz', rfl⟩ := Option.map_eq_some_iff.1 hu
    obtain ⟨g, o', he, hc⟩ := hz j z hz'
    obtain rfl := Option.some.inj he
    rw [Addr.add_lit]; exact hc
/-- a row of the call's own, as a slice -/
theorem own_slice {w : World} {base n : Nat} {v : Value} {zs : List Int} (h : w.ownsRow base 3 1 v n (zs.map (Value.int .i64))) : ∃ A cap, v = .slice A n cap ∧ IntsIn w A zs ∧ (∀ g o, A = some ⟨g, o, none⟩ → base ≤ g) ∧ (A = none → n = 0 ∧ cap = 0) ∧ zs.length = n := by
  have hc := fun g => h.cells (g := g)
  have hl : zs.length = n := by have := h.1; simpa using this
  rcases h.2 with ⟨rfl, h0⟩ | ⟨g, cap, cur, rfl, h1, _, h2, _⟩
  · have e : zs = [] := List.eq_nil_of_length_eq_zero (by omega)
    subst e
    exact ⟨none, 0, by rw [h0], (fun i z hz => by simp at hz), (fun g o e => by cases e), fun _ => ⟨h0, rfl⟩, hl⟩
  · refine ⟨some ⟨g, 0, none⟩, cap, rfl, fun i z hz => ⟨g, 0, rfl, ?_⟩, fun g' o e => ?_, (fun e => by cases e), hl⟩
    · have := hc g rfl i (.int .i64 z) (by rw [List.getElem?_map, hz]; rfl)
      rw [Addr.add_lit] at this
      simpa using this
    · injection e with e
      injection e with e1 _
      rw [← e1]; exact h1
theorem ints_below {w w' : World} {A : Option Addr} {zs : List Int} (h : IntsIn w A zs) (hb : Below w.heap.size w w') : IntsIn w' A zs := fun i z hi => by
  obtain ⟨g, o, rfl, hc⟩ := h i z hi
  exact ⟨g, o, rfl, (hb.cell (p := ⟨g, o + i, none⟩) (World.block_lt_of_cell? w _ hc)).trans hc⟩
end Go.Proofs.Ytpbalilnemjeeaa
/- What is proved here: the law's own classOf answers the class. Conditions: a size in range. -/
namespace Go.Proofs.Ytpbalilnemjeeaa
set_option linter.unusedVariables false
set_option linter.unusedSimpArgs false
open Go.RowKit Go.Proofs.Ytpbalilnemjeeaa.Pl
def InSeq (n C : Int) : Prop := (C = 16 ∧ 0 < n) ∨ (C = 32 ∧ 16 < n) ∨ (C = 48 ∧ 32 < n) ∨ (C = 64 ∧ 48 < n) ∨ (C = 96 ∧ 64 < n) ∨ (C = 128 ∧ 96 < n) ∨ (C = 192 ∧ 128 < n) ∨ (C = 256 ∧ 192 < n) ∨ (C = 384 ∧ 256 < n) ∨ (C = 512 ∧ 384 < n) ∨ (C = 768 ∧ 512 < n) ∨ (C = 1024 ∧ 768 < n) ∨ (C = 1536 ∧ 1024 < n) ∨ (C = 2048 ∧ 1536 < n) ∨ (C = 3072 ∧ 2048 < n) ∨ (C = 4096 ∧ 3072 < n) ∨ (C = 6144 ∧ 4096 < n) ∨ (C = 8192 ∧ 6144 < n) ∨ (C = 12288 ∧ 8192 < n) ∨ (C = 16384 ∧ 12288 < n) ∨ (C = 24576 ∧ 16384 < n) ∨ (C = 32768 ∧ 24576 < n) ∨ (C = 49152 ∧ 32768 < n) ∨ (C = 65536 ∧ 49152 < n) ∨ (C = 98304 ∧ 65536 < n) ∨ (C = 131072 ∧ 98304 < n) ∨ (C = 196608 ∧ 131072 < n) ∨ (C = 262144 ∧ 196608 < n) ∨ (C = 393216 ∧ 262144 < n) ∨ (C = 524288 ∧ 393216 < n) ∨ (C = 786432 ∧ 524288 < n) ∨ (C = 1048576 ∧ 786432 < n)
theorem inSeq16 {n : Int} (h : 0 < n) : InSeq n 16 := by unfold InSeq; simp; omega
theorem inSeq32 {n : Int} (h : 16 < n) : InSeq n 32 := by unfold InSeq; simp; omega
theorem inSeq48 {n : Int} (h : 32 < n) : InSeq n 48 := by unfold InSeq; simp; omega
theorem inSeq64 {n : Int} (h : 48 < n) : InSeq n 64 := by unfold InSeq; simp; omega
theorem inSeq96 {n : Int} (h : 64 < n) : InSeq n 96 := by unfold InSeq; simp; omega
theorem inSeq128 {n : Int} (h : 96 < n) : InSeq n 128 := by unfold InSeq; simp; omega
theorem inSeq192 {n : Int} (h : 128 < n) : InSeq n 192 := by unfold InSeq; simp; omega
theorem inSeq256 {n : Int} (h : 192 < n) : InSeq n 256 := by unfold InSeq; simp; omega
theorem inSeq384 {n : Int} (h : 256 < n) : InSeq n 384 := by unfold InSeq; simp; omega
theorem inSeq512 {n : Int} (h : 384 < n) : InSeq n 512 := by unfold InSeq; simp; omega
theorem inSeq768 {n : Int} (h : 512 < n) : InSeq n 768 := by unfold InSeq; simp; omega
theorem inSeq1024 {n : Int} (h : 768 < n) : InSeq n 1024 := by unfold InSeq; simp; omega
theorem inSeq1536 {n : Int} (h : 1024 < n) : InSeq n 1536 := by unfold InSeq; simp; omega
theorem inSeq2048 {n : Int} (h : 1536 < n) : InSeq n 2048 := by unfold InSeq; simp; omega
theorem inSeq3072 {n : Int} (h : 2048 < n) : InSeq n 3072 := by unfold InSeq; simp; omega
theorem inSeq4096 {n : Int} (h : 3072 < n) : InSeq n 4096 := by unfold InSeq; simp; omega
theorem inSeq6144 {n : Int} (h : 4096 < n) : InSeq n 6144 := by unfold InSeq; simp; omega
theorem inSeq8192 {n : Int} (h : 6144 < n) : InSeq n 8192 := by unfold InSeq; simp; omega
theorem inSeq12288 {n : Int} (h : 8192 < n) : InSeq n 12288 := by unfold InSeq; simp; omega
theorem inSeq16384 {n : Int} (h : 12288 < n) : InSeq n 16384 := by unfold InSeq; simp; omega
theorem inSeq24576 {n : Int} (h : 16384 < n) : InSeq n 24576 := by unfold InSeq; simp; omega
theorem inSeq32768 {n : Int} (h : 24576 < n) : InSeq n 32768 := by unfold InSeq; simp; omega
theorem inSeq49152 {n : Int} (h : 32768 < n) : InSeq n 49152 := by unfold InSeq; simp; omega
theorem inSeq65536 {n : Int} (h : 49152 < n) : InSeq n 65536 := by unfold InSeq; simp; omega
theorem inSeq98304 {n : Int} (h : 65536 < n) : InSeq n 98304 := by unfold InSeq; simp; omega
theorem inSeq131072 {n : Int} (h : 98304 < n) : InSeq n 131072 := by unfold InSeq; simp; omega
theorem inSeq196608 {n : Int} (h : 131072 < n) : InSeq n 196608 := by unfold InSeq; simp; omega
theorem inSeq262144 {n : Int} (h : 196608 < n) : InSeq n 262144 := by unfold InSeq; simp; omega
theorem inSeq393216 {n : Int} (h : 262144 < n) : InSeq n 393216 := by unfold InSeq; simp; omega
theorem inSeq524288 {n : Int} (h : 393216 < n) : InSeq n 524288 := by unfold InSeq; simp; omega
theorem inSeq786432 {n : Int} (h : 524288 < n) : InSeq n 786432 := by unfold InSeq; simp; omega
theorem inSeq1048576 {n : Int} (h : 786432 < n) : InSeq n 1048576 := by unfold InSeq; simp; omega
set_option maxHeartbeats 8000000 in
set_option maxRecDepth 100000 in
theorem classOf_cls (n : Int) (w : World) (h : 1 ≤ n ∧ n ≤ 1048576) : Calls Try.prog 31 #[.int .i64 n] w fun e w' => e = .returned (.int .i64 (cls n)) ∧ w = w' := by
  go_enter Try.func31, Try.ntmps31
  go_upto_region 2 with (fail)
  go_loopw [3] (fun a3 wr => ∃ C : Int, a3 = .int .i64 C ∧ Hid (InSeq n C) ∧ Hid (wr = w)) (fun i _ => (2000000 - (intOf i)).toNat)
  case atStart => exact ⟨16, rfl, inSeq16 (by omega), rfl⟩
  case round =>
    obtain ⟨C, rfl, hC, hw⟩ := hrel
    obtain rfl := hw.out.symm
    clear hw
    rcases hC.out with ⟨rfl, hp⟩ | ⟨rfl, hp⟩ | ⟨rfl, hp⟩ | ⟨rfl, hp⟩ | ⟨rfl, hp⟩ | ⟨rfl, hp⟩ | ⟨rfl, hp⟩ | ⟨rfl, hp⟩ | ⟨rfl, hp⟩ | ⟨rfl, hp⟩ | ⟨rfl, hp⟩ | ⟨rfl, hp⟩ | ⟨rfl, hp⟩ | ⟨rfl, hp⟩ | ⟨rfl, hp⟩ | ⟨rfl, hp⟩ | ⟨rfl, hp⟩ | ⟨rfl, hp⟩ | ⟨rfl, hp⟩ | ⟨rfl, hp⟩ | ⟨rfl, hp⟩ | ⟨rfl, hp⟩ | ⟨rfl, hp⟩ | ⟨rfl, hp⟩ | ⟨rfl, hp⟩ | ⟨rfl, hp⟩ | ⟨rfl, hp⟩ | ⟨rfl, hp⟩ | ⟨rfl, hp⟩ | ⟨rfl, hp⟩ | ⟨rfl, hp⟩ | ⟨rfl, hp⟩
    · by_cases hlt : (16 : Int) < n
      · go_wp2_with fail
        exact ⟨⟨32, rfl, inSeq32 hlt, by first | rfl | trivial⟩, by simp [intOf]⟩
      · have hc := cls16 hp (by omega)
        replace hc := Lib.hid hc
        go_wp2_with fail
        go_ret
        exact ⟨by rw [hc.out]; rfl, rfl⟩
    · by_cases hlt : (32 : Int) < n
      · go_wp2_with fail
        exact ⟨⟨48, rfl, inSeq48 hlt, by first | rfl | trivial⟩, by simp [intOf]⟩
      · have hc := cls32 hp (by omega)
        replace hc := Lib.hid hc
        go_wp2_with fail
        go_ret
        exact ⟨by rw [hc.out]; rfl, rfl⟩
    · by_cases hlt : (48 : Int) < n
      · go_wp2_with fail
        exact ⟨⟨64, rfl, inSeq64 hlt, by first | rfl | trivial⟩, by simp [intOf]⟩
      · have hc := cls48 hp (by omega)
        replace hc := Lib.hid hc
        go_wp2_with fail
        go_ret
        exact ⟨by rw [hc.out]; rfl, rfl⟩
    · by_cases hlt : (64 : Int) < n
      · go_wp2_with fail
        exact ⟨⟨96, rfl, inSeq96 hlt, by first | rfl | trivial⟩, by simp [intOf]⟩
      · have hc := cls64 hp (by omega)
        replace hc := Lib.hid hc
        go_wp2_with fail
        go_ret
        exact ⟨by rw [hc.out]; rfl, rfl⟩
    · by_cases hlt : (96 : Int) < n
      · go_wp2_with fail
        exact ⟨⟨128, rfl, inSeq128 hlt, by first | rfl | trivial⟩, by simp [intOf]⟩
      · have hc := cls96 hp (by omega)
        replace hc := Lib.hid hc
        go_wp2_with fail
        go_ret
        exact ⟨by rw [hc.out]; rfl, rfl⟩
    · by_cases hlt : (128 : Int) < n
      · go_wp2_with fail
        exact ⟨⟨192, rfl, inSeq192 hlt, by first | rfl | trivial⟩, by simp [intOf]⟩
      · have hc := cls128 hp (by omega)
        replace hc := Lib.hid hc
        go_wp2_with fail
        go_ret
        exact ⟨by rw [hc.out]; rfl, rfl⟩
    · by_cases hlt : (192 : Int) < n
      · go_wp2_with fail
        exact ⟨⟨256, rfl, inSeq256 hlt, by first | rfl | trivial⟩, by simp [intOf]⟩
      · have hc := cls192 hp (by omega)
        replace hc := Lib.hid hc
        go_wp2_with fail
        go_ret
        exact ⟨by rw [hc.out]; rfl, rfl⟩
    · by_cases hlt : (256 : Int) < n
      · go_wp2_with fail
        exact ⟨⟨384, rfl, inSeq384 hlt, by first | rfl | trivial⟩, by simp [intOf]⟩
      · have hc := cls256 hp (by omega)
        replace hc := Lib.hid hc
        go_wp2_with fail
        go_ret
        exact ⟨by rw [hc.out]; rfl, rfl⟩
    · by_cases hlt : (384 : Int) < n
      · go_wp2_with fail
        exact ⟨⟨512, rfl, inSeq512 hlt, by first | rfl | trivial⟩, by simp [intOf]⟩
      · have hc := cls384 hp (by omega)
        replace hc := Lib.hid hc
        go_wp2_with fail
        go_ret
        exact ⟨by rw [hc.out]; rfl, rfl⟩
    · by_cases hlt : (512 : Int) < n
      · go_wp2_with fail
        exact ⟨⟨768, rfl, inSeq768 hlt, by first | rfl | trivial⟩, by simp [intOf]⟩
      · have hc := cls512 hp (by omega)
        replace hc := Lib.hid hc
        go_wp2_with fail
        go_ret
        exact ⟨by rw [hc.out]; rfl, rfl⟩
    · by_cases hlt : (768 : Int) < n
      · go_wp2_with fail
        exact ⟨⟨1024, rfl, inSeq1024 hlt, by first | rfl | trivial⟩, by simp [intOf]⟩
      · have hc := cls768 hp (by omega)
        replace hc := Lib.hid hc
        go_wp2_with fail
        go_ret
        exact ⟨by rw [hc.out]; rfl, rfl⟩
    · by_cases hlt : (1024 : Int) < n
      · go_wp2_with fail
        exact ⟨⟨1536, rfl, inSeq1536 hlt, by first | rfl | trivial⟩, by simp [intOf]⟩
      · have hc := cls1024 hp (by omega)
        replace hc := Lib.hid hc
        go_wp2_with fail
        go_ret
        exact ⟨by rw [hc.out]; rfl, rfl⟩
    · by_cases hlt : (1536 : Int) < n
      · go_wp2_with fail
        exact ⟨⟨2048, rfl, inSeq2048 hlt, by first | rfl | trivial⟩, by simp [intOf]⟩
      · have hc := cls1536 hp (by omega)
        replace hc := Lib.hid hc
        go_wp2_with fail
        go_ret
        exact ⟨by rw [hc.out]; rfl, rfl⟩
    · by_cases hlt : (2048 : Int) < n
      · go_wp2_with fail
        exact ⟨⟨3072, rfl, inSeq3072 hlt, by first | rfl | trivial⟩, by simp [intOf]⟩
      · have hc := cls2048 hp (by omega)
        replace hc := Lib.hid hc
        go_wp2_with fail
        go_ret
        exact ⟨by rw [hc.out]; rfl, rfl⟩
    · by_cases hlt : (3072 : Int) < n
      · go_wp2_with fail
        exact ⟨⟨4096, rfl, inSeq4096 hlt, by first | rfl | trivial⟩, by simp [intOf]⟩
      · have hc := cls3072 hp (by omega)
        replace hc := Lib.hid hc
        go_wp2_with fail
        go_ret
        exact ⟨by rw [hc.out]; rfl, rfl⟩
    · by_cases hlt : (4096 : Int) < n
      · go_wp2_with fail
        exact ⟨⟨6144, rfl, inSeq6144 hlt, by first | rfl | trivial⟩, by simp [intOf]⟩
      · have hc := cls4096 hp (by omega)
        replace hc := Lib.hid hc
        go_wp2_with fail
        go_ret
        exact ⟨by rw [hc.out]; rfl, rfl⟩
    · by_cases hlt : (6144 : Int) < n
      · go_wp2_with fail
        exact ⟨⟨8192, rfl, inSeq8192 hlt, by first | rfl | trivial⟩, by simp [intOf]⟩
      · have hc := cls6144 hp (by omega)
        replace hc := Lib.hid hc
        go_wp2_with fail
        go_ret
        exact ⟨by rw [hc.out]; rfl, rfl⟩
    · by_cases hlt : (8192 : Int) < n
      · go_wp2_with fail
        exact ⟨⟨12288, rfl, inSeq12288 hlt, by first | rfl | trivial⟩, by simp [intOf]⟩
      · have hc := cls8192 hp (by omega)
        replace hc := Lib.hid hc
        go_wp2_with fail
        go_ret
        exact ⟨by rw [hc.out]; rfl, rfl⟩
    · by_cases hlt : (12288 : Int) < n
      · go_wp2_with fail
        exact ⟨⟨16384, rfl, inSeq16384 hlt, by first | rfl | trivial⟩, by simp [intOf]⟩
      · have hc := cls12288 hp (by omega)
        replace hc := Lib.hid hc
        go_wp2_with fail
        go_ret
        exact ⟨by rw [hc.out]; rfl, rfl⟩
    · by_cases hlt : (16384 : Int) < n
      · go_wp2_with fail
        exact ⟨⟨24576, rfl, inSeq24576 hlt, by first | rfl | trivial⟩, by simp [intOf]⟩
      · have hc := cls16384 hp (by omega)
        replace hc := Lib.hid hc
        go_wp2_with fail
        go_ret
        exact ⟨by rw [hc.out]; rfl, rfl⟩
    · by_cases hlt : (24576 : Int) < n
      · go_wp2_with fail
        exact ⟨⟨32768, rfl, inSeq32768 hlt, by first | rfl | trivial⟩, by simp [intOf]⟩
      · have hc := cls24576 hp (by omega)
        replace hc := Lib.hid hc
        go_wp2_with fail
        go_ret
        exact ⟨by rw [hc.out]; rfl, rfl⟩
    · by_cases hlt : (32768 : Int) < n
      · go_wp2_with fail
        exact ⟨⟨49152, rfl, inSeq49152 hlt, by first | rfl | trivial⟩, by simp [intOf]⟩
      · have hc := cls32768 hp (by omega)
        replace hc := Lib.hid hc
        go_wp2_with fail
        go_ret
        exact ⟨by rw [hc.out]; rfl, rfl⟩
    · by_cases hlt : (49152 : Int) < n
      · go_wp2_with fail
        exact ⟨⟨65536, rfl, inSeq65536 hlt, by first | rfl | trivial⟩, by simp [intOf]⟩
      · have hc := cls49152 hp (by omega)
        replace hc := Lib.hid hc
        go_wp2_with fail
        go_ret
        exact ⟨by rw [hc.out]; rfl, rfl⟩
    · by_cases hlt : (65536 : Int) < n
      · go_wp2_with fail
        exact ⟨⟨98304, rfl, inSeq98304 hlt, by first | rfl | trivial⟩, by simp [intOf]⟩
      · have hc := cls65536 hp (by omega)
        replace hc := Lib.hid hc
        go_wp2_with fail
        go_ret
        exact ⟨by rw [hc.out]; rfl, rfl⟩
    · by_cases hlt : (98304 : Int) < n
      · go_wp2_with fail
        exact ⟨⟨131072, rfl, inSeq131072 hlt, by first | rfl | trivial⟩, by simp [intOf]⟩
      · have hc := cls98304 hp (by omega)
        replace hc := Lib.hid hc
        go_wp2_with fail
        go_ret
        exact ⟨by rw [hc.out]; rfl, rfl⟩
    · by_cases hlt : (131072 : Int) < n
      · go_wp2_with fail
        exact ⟨⟨196608, rfl, inSeq196608 hlt, by first | rfl | trivial⟩, by simp [intOf]⟩
      · have hc := cls131072 hp (by omega)
        replace hc := Lib.hid hc
        go_wp2_with fail
        go_ret
        exact ⟨by rw [hc.out]; rfl, rfl⟩
    · by_cases hlt : (196608 : Int) < n
      · go_wp2_with fail
        exact ⟨⟨262144, rfl, inSeq262144 hlt, by first | rfl | trivial⟩, by simp [intOf]⟩
      · have hc := cls196608 hp (by omega)
        replace hc := Lib.hid hc
        go_wp2_with fail
        go_ret
        exact ⟨by rw [hc.out]; rfl, rfl⟩
    · by_cases hlt : (262144 : Int) < n
      · go_wp2_with fail
        exact ⟨⟨393216, rfl, inSeq393216 hlt, by first | rfl | trivial⟩, by simp [intOf]⟩
      · have hc := cls262144 hp (by omega)
        replace hc := Lib.hid hc
        go_wp2_with fail
        go_ret
        exact ⟨by rw [hc.out]; rfl, rfl⟩
    · by_cases hlt : (393216 : Int) < n
      · go_wp2_with fail
        exact ⟨⟨524288, rfl, inSeq524288 hlt, by first | rfl | trivial⟩, by simp [intOf]⟩
      · have hc := cls393216 hp (by omega)
        replace hc := Lib.hid hc
        go_wp2_with fail
        go_ret
        exact ⟨by rw [hc.out]; rfl, rfl⟩
    · by_cases hlt : (524288 : Int) < n
      · go_wp2_with fail
        exact ⟨⟨786432, rfl, inSeq786432 hlt, by first | rfl | trivial⟩, by simp [intOf]⟩
      · have hc := cls524288 hp (by omega)
        replace hc := Lib.hid hc
        go_wp2_with fail
        go_ret
        exact ⟨by rw [hc.out]; rfl, rfl⟩
    · by_cases hlt : (786432 : Int) < n
      · go_wp2_with fail
        exact ⟨⟨1048576, rfl, inSeq1048576 hlt, by first | rfl | trivial⟩, by simp [intOf]⟩
      · have hc := cls786432 hp (by omega)
        replace hc := Lib.hid hc
        go_wp2_with fail
        go_ret
        exact ⟨by rw [hc.out]; rfl, rfl⟩
    · have hlt : ¬ (1048576 : Int) < n := by omega
      have hc := cls1048576 hp (by omega)
      replace hc := Lib.hid hc
      go_wp2_with fail
      go_ret
      exact ⟨by rw [hc.out]; rfl, rfl⟩
end Go.Proofs.Ytpbalilnemjeeaa
/- What is proved here: an arena with lists of the call's own beside it, through every call of the arena; whatever is free. No condition. -/
namespace Go.Proofs.Ytpbalilnemjeeaa
set_option linter.unusedVariables false
set_option linter.unusedSimpArgs false
open Go.RowKit Pm Pa Pl
structure Lv (w0 : World) (p : Nat) (x : Loc) (lim : Nat) (ps : Parts) (L : List UInt8) (rs : List Row) (w : World) : Prop where
  ars : AS w0 p x lim ps L w
  held : Held lim ps
  sh : Sh w0.heap.size (x.all p) rs w
section
variable {w0 w w' : World} {p : Nat} {x : Loc} {lim : Nat} {ps : Parts} {L : List UInt8} {rs : List Row}
theorem Lv.moved (h : Lv w0 p x lim ps L rs w) {x' : Loc} {ps' : Parts} {L' : List UInt8} (ht : Turns (x.all p) w w') (ha : ArAt w' p x' lim ps' L') (hf : ∀ k, k ∈ x'.all p → k ∈ x.all p ∨ w.heap.size ≤ k) (hF : Held lim ps') : Lv w0 p x' lim ps' L' rs w' :=
  ⟨h.ars.turned ht ha hf, hF, h.sh.move ht hf⟩
theorem Lv.keep (h : Lv w0 p x lim ps L rs w) (hb : Below w.heap.size w w') : Lv w0 p x lim ps L rs w' := ⟨h.ars.keep hb, h.held, h.sh.keep hb⟩
theorem Lv.drewN (h : Lv w0 p x lim ps L rs w) (m : Nat) : Lv w0 p x lim ps L rs (w.drewN m) := h.keep (below_drewN (Below.refl _ _) m)
theorem Lv.drew (h : Lv w0 p x lim ps L rs w) : Lv w0 p x lim ps L rs w.drew := h.keep (Below.refl _ _).drew
theorem Lv.alloc (h : Lv w0 p x lim ps L rs w) (o : Obj) : Lv w0 p x lim ps L rs (w.alloc o) := h.keep ((Below.refl _ _).alloc (Nat.le_refl _) o)
theorem Lv.wrote (h : Lv w0 p x lim ps L rs w) {L' : List UInt8} (ht : Turns [x.q] w w') (ha : ArAt w' p x lim ps L') : Lv w0 p x lim ps L' rs w' :=
  ⟨h.ars.wrote ht ha, h.held, h.sh.turn ht (fun k hk => .inl (ArAt.q_all x p k hk))⟩
theorem Lv.xlt (h : Lv w0 p x lim ps L rs w) : ∀ k, k ∈ x.all p → k < w.heap.size := h.ars.ar.lt
theorem Lv.put (h : Lv w0 p x lim ps L rs w) {i : Nat} {r : Row} (hi : rs[i]? = some r) (r' : Row) (ht : Turns (rows r.v) w w') (hr : w'.ownsRow w0.heap.size r'.e r'.size r'.v r'.n r'.xs) (hl : ∀ g, g ∈ rows r'.v → g ∈ rows r.v ∨ w.heap.size ≤ g) : Lv w0 p x lim ps L (rs.set i r') w' :=
  ⟨⟨Turns.below h.ars.below ht (fun k hk => (h.sh.lt hi hk).1) h.ars.below.size, h.ars.ar.turn ht (fun k hk e => h.sh.out i r hi k e hk), h.ars.own⟩, h.held, h.sh.put hi r' ht hr hl h.xlt⟩
theorem Lv.pushNil (h : Lv w0 p x lim ps L rs w) (e : TypeId) (size : Nat) : Lv w0 p x lim ps L (rs ++ [⟨e, size, .slice none 0 0, 0, []⟩]) w := ⟨h.ars, h.held, h.sh.pushNil e size⟩
theorem Lv.start (h : AS w0 p x lim ps L w) (hF : Held lim ps) : Lv w0 p x lim ps L [] w := ⟨h, hF, Sh.nil _ _ _⟩
theorem lv_alloc (h : Lv w0 p x lim ps L rs w) (n : Int) (hv : 1 ≤ n ∧ n ≤ 1048576) (c : Nat) (hc : clsN n = c) (hl : liveSum ps + c ≤ lim) (off : Int) (ho : (takeAt ps c : Int) = off) :
    Calls Try.prog 28 #[.pointer (some ⟨p, 0, none⟩), .int .i64 n] w fun e w' => ∃ x' L', e = .returned (.tuple #[.int .i64 off, .int .i64 0]) ∧ Lv w0 p x' lim (takeP ps c) L' rs w' ∧ L'.take (endOf (takeP ps c)) = takeB (L.take (endOf ps)) ps c ∧ Turns (x.all p) w w' := by
  subst hc ho
  refine (alloc_gen h.ars.ar h.held n hv hl).mono ?_
  rintro e w' ⟨x', L', rfl, h1, h2, h3, h4⟩
  exact ⟨x', L', rfl, h.moved h3 h1 h4 (h.held.take _ (clsN_class hv) hl), h2, h3⟩
/-- a refusal: 21 of a size below 1, 22 where there is no room -/
theorem lv_no (h : Lv w0 p x lim ps L rs w) (n E : Int) (hE : (E = 21 ∧ n < 1) ∨ (E = 22 ∧ 1 ≤ n ∧ (1048576 < n ∨ lim < liveSum ps + clsN n))) :
    Calls Try.prog 28 #[.pointer (some ⟨p, 0, none⟩), .int .i64 n] w fun e w' => e = .returned (.tuple #[.int .i64 0, .int .i64 E]) ∧ Lv w0 p x lim ps L rs w' := by
  rcases hE with ⟨rfl, h1⟩ | ⟨rfl, h1, h2⟩
  · refine (alloc_ask h.ars.ar n h1).mono ?_
    rintro e w' ⟨rfl, hb⟩
    exact ⟨rfl, h.keep hb⟩
  · refine (alloc_mem h.ars.ar n h1 h2).mono ?_
    rintro e w' ⟨rfl, hb⟩
    exact ⟨rfl, h.keep hb⟩
theorem lv_free (h : Lv w0 p x lim ps L rs w) (E : Int) (hE : (sizeFrom 16 ps E).isSome = true) :
    Calls Try.prog 32 #[.pointer (some ⟨p, 0, none⟩), .slice (some ⟨w.heap.size, 0, none⟩) 1 1] (w.alloc (.cells #[.int .i64 E] 3)) fun e w' => ∃ x', e = .returned (.int .i64 0) ∧ Lv w0 p x' lim (freeP ps E) L rs w' := by
  have h1 := h.alloc (.cells #[.int .i64 E] 3)
  have hb := Blk.new w #[.int .i64 E] 3
  refine (free_yes h1.ars.ar [E] w.heap.size 0 1 1 rfl ?_ (Nat.le_refl _) (fun hk => Nat.lt_irrefl _ (h.ars.ar.lt _ hk)) (by omega) (fun e he => by simp at he; subst he; exact hE) (by simp)).mono ?_
  · intro i n hi
    cases i with
    | zero => simp at hi; subst hi; exact ⟨_, _, rfl, hb.cell 0⟩
    | succ i => simp at hi
  · rintro e w' ⟨rfl, x', h2, h3, h4⟩
    exact ⟨x', rfl, h1.moved h3 h2 h4 (Held.fst h.held (deadP_fst 16 ps E))⟩
theorem lv_free_no (h : Lv w0 p x lim ps L rs w) (E : Int) (hI : -9223372036854775808 ≤ E ∧ E ≤ 9223372036854775807) (hE : sizeFrom 16 ps E = none) :
    Calls Try.prog 32 #[.pointer (some ⟨p, 0, none⟩), .slice (some ⟨w.heap.size, 0, none⟩) 1 1] (w.alloc (.cells #[.int .i64 E] 3)) fun e w' => e = .returned (.int .i64 23) ∧ Lv w0 p x lim ps L rs w' := by
  have h1 := h.alloc (.cells #[.int .i64 E] 3)
  have hb := Blk.new w #[.int .i64 E] 3
  refine (free_no h1.ars.ar [E] w.heap.size 0 1 1 rfl ?_ (Nat.le_refl _) (by omega) (fun e he => by simp at he; subst he; exact hI) 0 (by omega) (fun i e hi => by omega) (fun e he => by simp at he; subst he; exact .inl hE)).mono ?_
  · intro i n hi
    cases i with
    | zero => simp at hi; subst hi; exact ⟨_, _, rfl, hb.cell 0⟩
    | succ i => simp at hi
  · rintro e w' ⟨rfl, rfl⟩
    exact ⟨rfl, h1⟩
theorem lv_fill (h : Lv w0 p x lim ps L rs w) {off k : Nat} (hi : Inside ps off k) (c : UInt8) (O K : Int) (hO : O = off) (hK : K = k) (b : Int) (hb : (c.toNat : Int) = b) : Calls Try.prog 26 #[.pointer (some ⟨p, 0, none⟩), .int .i64 O, .int .i64 K, .int .u8 b] w fun e w' =>
    e = .returned (.int .i64 0) ∧ Lv w0 p x lim ps (splice L off (List.replicate k c)) rs w' := by
  subst hb
  refine (ar_fill h.ars.ar hi c O K hO hK).mono ?_
  rintro e w' ⟨rfl, h1, h2⟩
  exact ⟨rfl, h.wrote h2 h1⟩
theorem lv_store (h : Lv w0 p x lim ps L rs w) {off k : Nat} (hi : Inside ps off k) (hk : k = 1 ∨ k = 2 ∨ k = 4 ∨ k = 8) (v : Nat) (hv : v < 2 ^ 64) (O K V : Int) (hO : O = off) (hK : K = k) (hV : V = v) : Calls Try.prog 29 #[.pointer (some ⟨p, 0, none⟩), .int .i64 O, .int .i64 K, .int .u64 V] w fun e w' =>
    e = .returned (.int .i64 0) ∧ Lv w0 p x lim ps (splice L off (leB k v)) rs w' := by
  subst hV
  refine (ar_store h.ars.ar hi hk v hv O K hO hK).mono ?_
  rintro e w' ⟨rfl, h1, h2⟩
  exact ⟨rfl, h.wrote h2 h1⟩
theorem lv_copy (h : Lv w0 p x lim ps L rs w) {dst src k : Nat} (hi : Inside ps dst k) (hj : Inside ps src k) (D S K : Int) (hD : D = dst) (hS : S = src) (hK : K = k) : Calls Try.prog 24 #[.pointer (some ⟨p, 0, none⟩), .int .i64 D, .int .i64 S, .int .i64 K] w fun e w' =>
    e = .returned (.int .i64 0) ∧ Lv w0 p x lim ps (splice L dst ((L.drop src).take k)) rs w' := by
  refine (ar_copy h.ars.ar hi hj D S K hD hS hK).mono ?_
  rintro e w' ⟨rfl, h1, h2⟩
  exact ⟨rfl, h.wrote h2 h1⟩
theorem lv_load (h : Lv w0 p x lim ps L rs w) {off k : Nat} (hi : Inside ps off k) (hk : k = 1 ∨ k = 2 ∨ k = 4 ∨ k = 8) (O K : Int) (hO : O = off) (hK : K = k) (r : Int) (hr : (leN ((L.drop off).take k) : Int) = r) : Calls Try.prog 30 #[.pointer (some ⟨p, 0, none⟩), .int .i64 O, .int .i64 K] w fun e w' =>
    e = .returned (.tuple #[.int .u64 r, .int .i64 0]) ∧ Lv w0 p x lim ps L rs w' := by
  refine (ar_load h.ars.ar hi hk O K hO hK r hr).mono ?_
  rintro e w' ⟨rfl, m, rfl⟩
  exact ⟨rfl, h.drewN m⟩
theorem lv_equal (h : Lv w0 p x lim ps L rs w) {dst src k : Nat} (hi : Inside ps dst k) (hj : Inside ps src k) (D S K : Int) (hD : D = dst) (hS : S = src) (hK : K = k) (r : Bool) (hr : decide ((L.drop dst).take k = (L.drop src).take k) = r) : Calls Try.prog 23 #[.pointer (some ⟨p, 0, none⟩), .int .i64 D, .int .i64 S, .int .i64 K] w fun e w' =>
    e = .returned (.tuple #[.bool r, .int .i64 0]) ∧ Lv w0 p x lim ps L rs w' := by
  refine (ar_equal h.ars.ar hi hj D S K hD hS hK r hr).mono ?_
  rintro e w' ⟨rfl, m, rfl⟩
  exact ⟨rfl, h.drewN m⟩
theorem lv_read (h : Lv w0 p x lim ps L rs w) {off k : Nat} (hi : Inside ps off k) (O K : Int) (hO : O = off) (hK : K = k) (S : ByteArray) (hS : S.data.toList = (L.drop off).take k) : Calls Try.prog 25 #[.pointer (some ⟨p, 0, none⟩), .int .i64 O, .int .i64 K] w fun e w' =>
    e = .returned (.tuple #[.string S, .int .i64 0]) ∧ Lv w0 p x lim ps L rs w' := by
  refine (ar_read h.ars.ar hi O K hO hK S hS).mono ?_
  rintro e w' ⟨rfl, hb⟩
  exact ⟨rfl, h.keep hb⟩
theorem lv_read_no (h : Lv w0 p x lim ps L rs w) (off k : Int) (hno : ¬ InP ps off k) : Calls Try.prog 25 #[.pointer (some ⟨p, 0, none⟩), .int .i64 off, .int .i64 k] w fun e w' => e = .returned (.tuple #[.string ⟨#[]⟩, .int .i64 24]) ∧ Lv w0 p x lim ps L rs w' := by
  refine (ar_read_no h.ars.ar off k hno).mono ?_
  rintro e w' ⟨rfl, m, rfl⟩
  exact ⟨rfl, h.drewN m⟩
theorem lv_fill_no (h : Lv w0 p x lim ps L rs w) (off k b : Int) (hno : ¬ InP ps off k) : Calls Try.prog 26 #[.pointer (some ⟨p, 0, none⟩), .int .i64 off, .int .i64 k, .int .u8 b] w fun e w' => e = .returned (.int .i64 24) ∧ Lv w0 p x lim ps L rs w' := by
  refine (ar_fill_no h.ars.ar off k b hno).mono ?_
  rintro e w' ⟨rfl, m, rfl⟩
  exact ⟨rfl, h.drewN m⟩
theorem lv_copy_no (h : Lv w0 p x lim ps L rs w) (a b k : Int) (hno : ¬ InP ps a k ∨ ¬ InP ps b k) : Calls Try.prog 24 #[.pointer (some ⟨p, 0, none⟩), .int .i64 a, .int .i64 b, .int .i64 k] w fun e w' => e = .returned (.int .i64 24) ∧ Lv w0 p x lim ps L rs w' := by
  refine (ar_copy_no h.ars.ar a b k hno).mono ?_
  rintro e w' ⟨rfl, m, rfl⟩
  exact ⟨rfl, h.drewN m⟩
theorem lv_equal_no (h : Lv w0 p x lim ps L rs w) (a b k : Int) (hno : ¬ InP ps a k ∨ ¬ InP ps b k) : Calls Try.prog 23 #[.pointer (some ⟨p, 0, none⟩), .int .i64 a, .int .i64 b, .int .i64 k] w fun e w' => e = .returned (.tuple #[.bool false, .int .i64 24]) ∧ Lv w0 p x lim ps L rs w' := by
  refine (ar_equal_no h.ars.ar a b k hno).mono ?_
  rintro e w' ⟨rfl, m, rfl⟩
  exact ⟨rfl, h.drewN m⟩
theorem lv_load_no (h : Lv w0 p x lim ps L rs w) (off k E : Int) (hE : (E = 10 ∧ ¬ isW k) ∨ (E = 24 ∧ isW k ∧ ¬ InP ps off k)) : Calls Try.prog 30 #[.pointer (some ⟨p, 0, none⟩), .int .i64 off, .int .i64 k] w fun e w' => e = .returned (.tuple #[.int .u64 0, .int .i64 E]) ∧ Lv w0 p x lim ps L rs w' := by
  refine (ar_load_no h.ars.ar off k E hE).mono ?_
  rintro e w' ⟨rfl, m, rfl⟩
  exact ⟨rfl, h.drewN m⟩
theorem lv_store_no (h : Lv w0 p x lim ps L rs w) (off k v E : Int) (hE : (E = 10 ∧ ¬ isW k) ∨ (E = 24 ∧ isW k ∧ ¬ InP ps off k)) : Calls Try.prog 29 #[.pointer (some ⟨p, 0, none⟩), .int .i64 off, .int .i64 k, .int .u64 v] w fun e w' => e = .returned (.int .i64 E) ∧ Lv w0 p x lim ps L rs w' := by
  refine (ar_store_no h.ars.ar off k v E hE).mono ?_
  rintro e w' ⟨rfl, m, rfl⟩
  exact ⟨rfl, h.drewN m⟩
end
end Go.Proofs.Ytpbalilnemjeeaa
/- What is proved here: sizes behind a take and a Free; a block stays inside when another is freed; Size of a live block. No condition. -/
namespace Go.Proofs.Ytpbalilnemjeeaa
set_option linter.unusedVariables false
set_option linter.unusedSimpArgs false
open Go.RowKit Pm Pa Pl Pd
theorem take_size (ps : Parts) (hp : ∀ y ∈ ps, 1 ≤ y.1) (c : Nat) (hc : 1 ≤ c) (j : Int) : sizeFrom 16 (takeP ps c) j = if j = ((takeAt ps c : Nat) : Int) then some c else sizeFrom 16 ps j := by
  rcases take_case ps c with ⟨_, e1, e2, _⟩ | ⟨a, b, rfl, _, e1, e2, _⟩
  · rw [e1, e2]; exact sizeFrom_app 16 ps hp c j
  · rw [e1, e2, sizeFrom_flip a b c true false (fun y hy => hp y (by simp [hy])) hc j]
    by_cases h : j = ((endOf a : Nat) : Int)
    · rw [if_pos h, if_pos h]; rfl
    · rw [if_neg h, if_neg h]
theorem take_none (ps : Parts) (hp : ∀ y ∈ ps, 1 ≤ y.1) (c : Nat) (hc : 1 ≤ c) : sizeFrom 16 ps ((takeAt ps c : Nat) : Int) = none := by
  rcases take_case ps c with ⟨_, e1, e2, _⟩ | ⟨a, b, rfl, _, e1, e2, _⟩
  · rw [e2]; exact sizeFrom_end 16 ps hp _ (by unfold endOf; omega)
  · rw [e2, sizeFrom_flip a b c false true (fun y hy => hp y (by simp [hy])) hc, if_pos rfl]; rfl
theorem deadP_get (o : Nat) (ps : Parts) (hp : ∀ y ∈ ps, 1 ≤ y.1) (E : Int) (i : Nat) : (deadP o ps E)[i]? = (ps[i]?).map fun y => if E = ((o + total (ps.take i) : Nat) : Int) then (y.1, false) else y := by
  induction ps generalizing o i with
  | nil => simp [deadP]
  | cons y t ih =>
    have hy := hp y (by simp)
    have ht : ∀ z ∈ t, 1 ≤ z.1 := fun z hz => hp z (List.mem_cons_of_mem _ hz)
    unfold deadP
    by_cases e : E = (o : Int)
    · rw [if_pos e]
      cases i with
      | zero => simp [total, e]
      | succ i =>
        rw [List.getElem?_cons_succ, List.getElem?_cons_succ, List.take_succ_cons, total_cons]
        have hne : ¬ E = ((o + (y.1 + total (t.take i)) : Nat) : Int) := by omega
        simp only [if_neg hne, Option.map_id']
    · rw [if_neg e]
      cases i with
      | zero => simp [total, e]
      | succ i =>
        rw [List.getElem?_cons_succ, List.getElem?_cons_succ, List.take_succ_cons, total_cons, ih (o + y.1) ht i, Nat.add_assoc]
theorem stOf_fst {ps qs : Parts} (h : qs.map (·.1) = ps.map (·.1)) (i : Nat) : stOf qs i = stOf ps i := by
  unfold stOf total
  rw [List.map_take, List.map_take, h]
theorem take_part (ps : Parts) (c : Nat) : ∃ i, (takeP ps c)[i]? = some (c, true) ∧ stOf (takeP ps c) i = takeAt ps c := by
  rcases take_case ps c with ⟨_, e1, e2, _⟩ | ⟨a, b, rfl, _, e1, e2, _⟩
  · rw [e1, e2]
    exact ⟨ps.length, by simp, by unfold stOf endOf; rw [List.take_left' rfl]⟩
  · rw [e1, e2]
    exact ⟨a.length, by simp, by unfold stOf endOf; rw [List.take_left' rfl]⟩
theorem inside_take_free {c : Nat} (ps : Parts) (hp : ∀ y ∈ takeP ps c, 1 ≤ y.1) (j k : Nat) (h : j + k ≤ c) (E : Int) (hE : E ≠ ((takeAt ps c : Nat) : Int)) : Inside (freeP (takeP ps c) E) (takeAt ps c + j) k := by
  obtain ⟨i, h1, h2⟩ := take_part ps c
  have h3 := stOf_fst (deadP_fst 16 (takeP ps c) E) i
  refine ⟨i, c, ?_, ?_, ?_⟩
  · unfold freeP
    rw [deadP_get 16 _ hp, h1, Option.map_some, if_neg]
    intro e
    apply hE
    rw [e, ← h2]; rfl
  · show stOf (deadP 16 (takeP ps c) E) i ≤ _
    rw [h3, h2]; omega
  · show _ ≤ stOf (deadP 16 (takeP ps c) E) i + c
    rw [h3, h2]; omega
theorem live_start {ps : Parts} (E : Int) (c : Nat) (h : sizeFrom 16 ps E = some c) : 0 ≤ E ∧ E ≤ endOf ps := by
  obtain ⟨a, b, hab, rfl⟩ := live_split 16 ps E c h
  have : 16 + total a ≤ endOf ps := by rw [hab]; unfold endOf; rw [total_app]; omega
  omega
theorem ar_size {w : World} {p : Nat} {x : Loc} {lim : Nat} {ps : Parts} {L : List UInt8} (h : ArAt w p x lim ps L) (E : Int) (c : Nat) (hE : sizeFrom 16 ps E = some c) :
    Calls Try.prog 41 #[.pointer (some ⟨p, 0, none⟩), .int .i64 E] w fun e w' => e = .returned (.tuple #[.int .i64 (c : Int), .int .i64 0]) ∧ w = w' := by
  obtain ⟨c0, c1, c2, c3, c4, c5, c6⟩ := h.cells
  have hb := live_start E c hE
  have hel := h.endle
  have hwe : (Lit.int .i64 E).wf = true := WalkArith.wf_i64 (by omega)
  have hlk : (Instr.lookup 125 (.map (some x.bs)) (.int .i64 E) true).run Try.prog w = .ok (.tuple #[.int .i64 (c : Int), .bool true]) w := by
    have := SM.look_ok h.sz hwe
    unfold szF at this
    rw [hE] at this
    exact this
  clear h hE
  go_enter Try.func41, Try.ntmps41
  go_wp2_with fail
  go_ret2
  exact ⟨rfl, rfl⟩
end Go.Proofs.Ytpbalilnemjeeaa
/- What is proved here: the contract of the laws' own act: what a step makes of the parts and of the bytes, and the number that it puts behind the list. Conditions: the arena and the list are there. -/
namespace Go.Proofs.Ytpbalilnemjeeaa
set_option linter.unusedVariables false
set_option linter.unusedSimpArgs false
open Go.RowKit Pm Pa Pl Pd
/-- a list of numbers of the call's own -/
def intR (v : Value) (es : List Int) : Row := ⟨3, 1, v, es.length, es.map (Value.int .i64)⟩
/-- the offset that a Free of the step means -/
def offA (es : List Int) (F : Int) : Int := if 0 < F ∧ F ≤ es.length then es.getD (F - 1).toNat 0 else F
def roomA (lim : Nat) (ps : Parts) (N : Int) : Bool := decide (1 ≤ N) && decide (N ≤ 1048576) && decide (liveSum ps + clsN N ≤ lim)
/-- the parts behind the step -/
def actP (lim : Nat) (ps : Parts) (es : List Int) (N F : Int) : Parts :=
  if F = 0 then (if roomA lim ps N = true then takeP ps (clsN N) else ps) else freeP ps (offA es F)
/-- the number that the step answers -/
def actR (lim : Nat) (ps : Parts) (es : List Int) (N F : Int) : Int :=
  if F = 0 then (if roomA lim ps N = true then (takeAt ps (clsN N) : Int) else if N < 1 then -21 else -22) else (if (sizeFrom 16 ps (offA es F)).isSome = true then 0 else -23)
/-- the bytes behind the step -/
def actB (lim : Nat) (ps : Parts) (L : List UInt8) (N F : Int) (b : UInt8) (L' : List UInt8) : Prop :=
  if F = 0 ∧ roomA lim ps N = true then ∃ L1, L1.take (endOf (takeP ps (clsN N))) = takeB (L.take (endOf ps)) ps (clsN N) ∧ endOf (takeP ps (clsN N)) ≤ L1.length ∧ L' = splice L1 (takeAt ps (clsN N)) (List.replicate (clsN N) b) else L' = L
theorem deadP_none (o : Nat) (ps : Parts) (k : Int) (hp : ∀ y ∈ ps, 1 ≤ y.1) (h : sizeFrom o ps k = none) : deadP o ps k = ps := by
  induction ps generalizing o with
  | nil => rfl
  | cons y t ih =>
    obtain ⟨c, l⟩ := y
    unfold deadP
    unfold sizeFrom at h
    by_cases e : k = (o : Int)
    · rw [if_pos e] at h ⊢
      cases l with
      | true => simp at h
      | false => rfl
    · rw [if_neg e] at h ⊢
      rw [ih (o + c) (fun z hz => hp z (List.mem_cons_of_mem _ hz)) h]
theorem take_inside (ps : Parts) (c : Nat) : Inside (takeP ps c) (takeAt ps c) c := by
  obtain ⟨i, h1, h2⟩ := take_part ps c
  exact ⟨i, c, h1, by omega, by omega⟩
section
variable {w0 w w' : World} {p : Nat} {x : Loc} {lim : Nat} {ps : Parts} {L : List UInt8} {rs : List Row}
/-- an append to list i -/
theorem Lv.app (h : Lv w0 p x lim ps L rs w) {i : Nat} {v : Value} {es : List Int} (hi : rs[i]? = some (intR v es)) {v' : Value} {E : Int} (hr : w'.ownsRow w0.heap.size 3 1 v' (es.length + 1) (es.map (Value.int .i64) ++ [.int .i64 E])) (ht : Turns (rows v) w w') (hl : ∀ g, g ∈ rows v' → g ∈ rows v ∨ w.heap.size ≤ g) :
    Lv w0 p x lim ps L (rs.set i (intR v' (es ++ [E]))) w' :=
  h.put hi (intR v' (es ++ [E])) ht (by unfold intR; rw [List.length_append, List.map_append]; exact hr) hl
set_option maxHeartbeats 2000000 in
set_option maxRecDepth 100000 in
theorem act_take (h : Lv w0 p x lim ps L rs w) {i : Nat} {v : Value} {es : List Int} (hi : rs[i]? = some (intR v es)) (hes : es.length ≤ 17592186044410) (N F : Int) (hF : F = 0) (b : UInt8) (B : Int) (hB : (b.toNat : Int) = B) (hN : 1 ≤ N ∧ N ≤ 1048576) (c : Nat) (hc : clsN N = c) (hroom : liveSum ps + c ≤ lim) (S : Int) (hS : (takeAt ps c : Int) = S) :
    Calls Try.prog 35 #[.pointer (some ⟨p, 0, none⟩), .agg #[.int .i64 N, .int .i64 F], v, .int .u8 B] w fun e w' => ∃ v' x' L' L1, e = .returned v' ∧ Lv w0 p x' lim (takeP ps c) L' (rs.set i (intR v' (es ++ [S]))) w' ∧ L1.take (endOf (takeP ps c)) = takeB (L.take (endOf ps)) ps c ∧ endOf (takeP ps c) ≤ L1.length ∧ L' = splice L1 (takeAt ps c) (List.replicate c b) := by
  subst hF
  have hb1 := Blk.new w #[.int .i64 N, .int .i64 0] 59
  have hA0 := h.alloc (.cells #[.int .i64 N, .int .i64 0] 59)
  obtain ⟨i0, hi0, hz0, hz1, hz2⟩ := info_parts infoInt
  replace hi0 := Lib.hid hi0
  replace hz0 := Lib.hid hz0
  replace hz1 := Lib.hid hz1
  replace hz2 := Lib.hid hz2
  have hnx := Lib.hid (fun hk => Nat.lt_irrefl _ (h.xlt _ hk) : ¬ w.heap.size ∈ x.all p)
  clear h
  go_enter Try.func35, Try.ntmps35
  go_upto_region 1 with (fail)
  generalize World.alloc w _ = wa at hb1 hA0 ⊢
  have c0 := hb1.cell 0
  have c1 := hb1.cell 1
  replace hA0 := Lib.hid hA0
  replace hB := Lib.hid hB
  replace hc := Lib.hid hc
  replace hS := Lib.hid hS
  replace hroom := Lib.hid hroom
  have hcl : Hid (cls N = (c : Int)) := by unfold Hid; rw [← hc.out]; exact (clsN_is hN).1
  go_wp2_with (first
    | (go_at_call 28; go_loud (refine (lv_alloc hA0.out N hN c hc.out hroom.out S hS.out).mono ?_; rintro e w2 ⟨x2, L2, rfl, h2, hb2, ht2⟩; replace h2 := Lib.hid h2; replace hb2 := Lib.hid hb2; have d0 := (hb1.turn ht2 hnx.out).cell 0; clear ht2))
    | (go_at_call 20; refine (num_any _ _).mono ?_; rintro e w' ⟨rfl, rfl⟩)
    | (go_at_call 50; go_loud (refine (class_to N _ hN).mono ?_; rw [hc.out]; rintro e w' ⟨rfl, rfl⟩))
    | (go_at_call 26; go_loud (refine (lv_fill h2.out (take_inside ps c) b S (c : Int) hS.out.symm rfl B hB.out).mono ?_; rintro e w3 ⟨rfl, h3⟩; replace h3 := Lib.hid (h3.alloc (.cells #[.int .i64 S] 3))))
    | (at_builtin; go_loud (refine wpList_append_loc _ rfl _ _ 29 rfl w0.heap.size 3 i0 (.int .i64 0) 1 8 Try.underlying29 hi0.out hz0.out hz1.out hz2.out rfl (by decide) v es.length _ rfl (h3.out.sh.row i _ hi) ⟨_, 0, none⟩ 1 1 [.int .i64 (S)] rfl rfl (cell_one_new _ _ _) (by simp [Value.oneCell']) (by unfold maxLen; omega) (by omega) (by have := h3.out.ars.below.size; exact this) ?_; intro v3 w3 hr3 ht3 hl3; have h9 := Lib.hid (h3.out.app hi hr3 ht3 hl3); clear hr3 ht3 hl3))
    | fail)
  go_ret
  exact ⟨v3, x2, _, L2, rfl, h9.out, hb2.out, h2.out.ars.ar.mem.le, rfl⟩
set_option maxHeartbeats 2000000 in
set_option maxRecDepth 100000 in
theorem act_no (h : Lv w0 p x lim ps L rs w) {i : Nat} {v : Value} {es : List Int} (hi : rs[i]? = some (intR v es)) (hes : es.length ≤ 17592186044410) (N F : Int) (hF : F = 0) (B E : Int) (hE : (E = 21 ∧ N < 1) ∨ (E = 22 ∧ 1 ≤ N ∧ (1048576 < N ∨ lim < liveSum ps + clsN N))) (R : Int) (hR : R = -E) :
    Calls Try.prog 35 #[.pointer (some ⟨p, 0, none⟩), .agg #[.int .i64 N, .int .i64 F], v, .int .u8 B] w fun e w' => ∃ v', e = .returned v' ∧ Lv w0 p x lim ps L (rs.set i (intR v' (es ++ [R]))) w' := by
  subst hF
  have hb1 := Blk.new w #[.int .i64 N, .int .i64 0] 59
  have hA0 := h.alloc (.cells #[.int .i64 N, .int .i64 0] 59)
  obtain ⟨i0, hi0, hz0, hz1, hz2⟩ := info_parts infoInt
  replace hi0 := Lib.hid hi0
  replace hz0 := Lib.hid hz0
  replace hz1 := Lib.hid hz1
  replace hz2 := Lib.hid hz2
  have hnx := Lib.hid (fun hk => Nat.lt_irrefl _ (h.xlt _ hk) : ¬ w.heap.size ∈ x.all p)
  clear h
  go_enter Try.func35, Try.ntmps35
  go_upto_region 1 with (fail)
  generalize World.alloc w _ = wa at hb1 hA0 ⊢
  have c0 := hb1.cell 0
  have c1 := hb1.cell 1
  replace hA0 := Lib.hid hA0
  have hE0 : ¬ E = 0 := by rcases hE with ⟨rfl, _⟩ | ⟨rfl, _⟩ <;> omega
  have hE1 : E = 21 ∨ E = 22 := by rcases hE with ⟨rfl, _⟩ | ⟨rfl, _⟩ <;> simp
  have hEb : 0 ≤ E ∧ E ≤ 100 := by omega
  replace hE := Lib.hid hE
  replace hE1 := Lib.hid hE1
  replace hR := Lib.hid hR
  go_wp2_with (first
    | (go_at_call 28; go_loud (refine (lv_no hA0.out N E hE.out).mono ?_; rintro e w2 ⟨rfl, h2⟩; replace h2 := Lib.hid (h2.alloc (.cells #[.int .i64 (-E)] 3))))
    | (go_at_call 20; refine (num_any _ _).mono ?_; rintro e w' ⟨rfl, rfl⟩)
    | (at_builtin; go_loud (refine wpList_append_loc _ rfl _ _ 29 rfl w0.heap.size 3 i0 (.int .i64 0) 1 8 Try.underlying29 hi0.out hz0.out hz1.out hz2.out rfl (by decide) v es.length _ rfl (h2.out.sh.row i _ hi) ⟨_, 0, none⟩ 1 1 [.int .i64 (-E)] rfl rfl (cell_one_new _ _ _) (by simp [Value.oneCell']) (by unfold maxLen; omega) (by omega) (by have := h2.out.ars.below.size; exact this) ?_; intro v3 w3 hr3 ht3 hl3; have h9 := Lib.hid (h2.out.app hi hr3 ht3 hl3); clear hr3 ht3 hl3))
    | fail)
  go_ret
  exact ⟨v3, rfl, by rw [hR.out]; exact h9.out⟩
set_option maxHeartbeats 2000000 in
set_option maxRecDepth 100000 in
theorem act_free (h : Lv w0 p x lim ps L rs w) {i : Nat} {v : Value} {es : List Int} (hi : rs[i]? = some (intR v es)) (hes : es.length ≤ 17592186044410) (N F : Int) (hF : F ≠ 0) (hFI : isI F) (B : Int) (O : Int) (hO : offA es F = O) (hE : (sizeFrom 16 ps O).isSome = true) :
    Calls Try.prog 35 #[.pointer (some ⟨p, 0, none⟩), .agg #[.int .i64 N, .int .i64 F], v, .int .u8 B] w fun e w' => ∃ v' x', e = .returned v' ∧ Lv w0 p x' lim (freeP ps O) L (rs.set i (intR v' (es ++ [0]))) w' := by
  obtain ⟨A, cap, hve, hsl⟩ : ∃ A cap, v = .slice A es.length cap ∧ ∀ w', Lv w0 p x lim ps L rs w' → IntsIn w' A es := by
    obtain ⟨A, cap, hve, _⟩ := own_slice (h.sh.row i _ hi)
    refine ⟨A, cap, hve, fun w' h' => ?_⟩
    obtain ⟨A', cap', hve', hi', _⟩ := own_slice (h'.sh.row i _ hi)
    have e : v = .slice A' es.length cap' := hve'
    rw [show v = .slice A es.length cap from hve] at e
    cases e
    exact hi'
  subst hve
  have hb1 := Blk.new w #[.int .i64 N, .int .i64 F] 59
  have hA0 := h.alloc (.cells #[.int .i64 N, .int .i64 F] 59)
  obtain ⟨i0, hi0, hz0, hz1, hz2⟩ := info_parts infoInt
  replace hi0 := Lib.hid hi0
  replace hz0 := Lib.hid hz0
  replace hz1 := Lib.hid hz1
  replace hz2 := Lib.hid hz2
  have hnx := Lib.hid (fun hk => Nat.lt_irrefl _ (h.xlt _ hk) : ¬ w.heap.size ∈ x.all p)
  clear h
  go_enter Try.func35, Try.ntmps35
  go_upto_region 1 with (fail)
  generalize World.alloc w _ = wa at hb1 hA0 ⊢
  have c0 := hb1.cell 0
  have c1 := hb1.cell 1
  replace hA0 := Lib.hid hA0
  have hF1 : ¬ F = 0 := hF
  have hI1 : -9223372036854775808 ≤ F ∧ F ≤ 9223372036854775807 := by unfold isI at hFI; omega
  by_cases g1 : 0 < F
  · by_cases g2 : F ≤ es.length
    · obtain ⟨e, he⟩ : ∃ e, Hid (es[(F - 1).toNat]? = some e) := ⟨_, List.getElem?_eq_getElem (by omega)⟩
      obtain ⟨gA, oA, hAe, hcA⟩ := hsl _ hA0.out _ _ he.out
      subst hAe
      have hOe : O = e := by
        rw [← hO]
        unfold offA
        rw [if_pos ⟨g1, g2⟩, List.getD_eq_getElem?_getD, he.out]; rfl
      subst hOe
      obtain ⟨J, hJ⟩ : ∃ J : Nat, Hid (J = (F - 1).toNat) := ⟨_, rfl⟩
      rw [← hJ.out] at hcA
      have hJ1 : F - 1 = (J : Int) := by rw [hJ.out]; omega
      have hJ2 : (J : Int) < es.length := by omega
      have hJ0 : (0 : Int) ≤ J := by omega
      clear hsl hO hF
      replace hi := hi
      go_wp2_with (first
        | (go_at_call 32; go_loud (refine (lv_free hA0.out _ hE).mono ?_; rintro e w2 ⟨x2, rfl, h2⟩; replace h2 := Lib.hid (h2.alloc (.cells #[.int .i64 0] 3))))
        | (at_builtin; go_loud (refine wpList_append_loc _ rfl _ _ 29 rfl w0.heap.size 3 i0 (.int .i64 0) 1 8 Try.underlying29 hi0.out hz0.out hz1.out hz2.out rfl (by decide) (.slice _ es.length cap) es.length _ rfl (h2.out.sh.row i _ hi) ⟨_, 0, none⟩ 1 1 [.int .i64 (0)] rfl rfl (cell_one_new _ _ _) (by simp [Value.oneCell']) (by unfold maxLen; omega) (by omega) (by have := h2.out.ars.below.size; exact this) ?_; intro v3 w3 hr3 ht3 hl3; have h9 := Lib.hid (h2.out.app hi hr3 ht3 hl3); clear hr3 ht3 hl3))
        | (go_at_call 20; refine (num_any _ _).mono ?_; rintro e w' ⟨rfl, rfl⟩)
        | fail)
      go_ret
      exact ⟨v3, x2, rfl, h9.out⟩
    · have hOe : O = F := by rw [← hO]; unfold offA; rw [if_neg (fun q => g2 q.2)]
      subst hOe
      clear hsl hO hF
      go_wp2_with (first
        | (go_at_call 32; go_loud (refine (lv_free hA0.out _ hE).mono ?_; rintro e w2 ⟨x2, rfl, h2⟩; replace h2 := Lib.hid (h2.alloc (.cells #[.int .i64 0] 3))))
        | (at_builtin; go_loud (refine wpList_append_loc _ rfl _ _ 29 rfl w0.heap.size 3 i0 (.int .i64 0) 1 8 Try.underlying29 hi0.out hz0.out hz1.out hz2.out rfl (by decide) (.slice _ es.length cap) es.length _ rfl (h2.out.sh.row i _ hi) ⟨_, 0, none⟩ 1 1 [.int .i64 (0)] rfl rfl (cell_one_new _ _ _) (by simp [Value.oneCell']) (by unfold maxLen; omega) (by omega) (by have := h2.out.ars.below.size; exact this) ?_; intro v3 w3 hr3 ht3 hl3; have h9 := Lib.hid (h2.out.app hi hr3 ht3 hl3); clear hr3 ht3 hl3))
        | (go_at_call 20; refine (num_any _ _).mono ?_; rintro e w' ⟨rfl, rfl⟩)
        | fail)
      go_ret
      exact ⟨v3, x2, rfl, h9.out⟩
  · have hOe : O = F := by rw [← hO]; unfold offA; rw [if_neg (fun q => g1 q.1)]
    subst hOe
    clear hsl hO hF
    go_wp2_with (first
      | (go_at_call 32; go_loud (refine (lv_free hA0.out _ hE).mono ?_; rintro e w2 ⟨x2, rfl, h2⟩; replace h2 := Lib.hid (h2.alloc (.cells #[.int .i64 0] 3))))
        | (at_builtin; go_loud (refine wpList_append_loc _ rfl _ _ 29 rfl w0.heap.size 3 i0 (.int .i64 0) 1 8 Try.underlying29 hi0.out hz0.out hz1.out hz2.out rfl (by decide) (.slice _ es.length cap) es.length _ rfl (h2.out.sh.row i _ hi) ⟨_, 0, none⟩ 1 1 [.int .i64 (0)] rfl rfl (cell_one_new _ _ _) (by simp [Value.oneCell']) (by unfold maxLen; omega) (by omega) (by have := h2.out.ars.below.size; exact this) ?_; intro v3 w3 hr3 ht3 hl3; have h9 := Lib.hid (h2.out.app hi hr3 ht3 hl3); clear hr3 ht3 hl3))
      | (go_at_call 20; refine (num_any _ _).mono ?_; rintro e w' ⟨rfl, rfl⟩)
      | fail)
    go_ret
    exact ⟨v3, x2, rfl, h9.out⟩
set_option maxHeartbeats 2000000 in
set_option maxRecDepth 100000 in
theorem act_freeNo (h : Lv w0 p x lim ps L rs w) {i : Nat} {v : Value} {es : List Int} (hi : rs[i]? = some (intR v es)) (hes : es.length ≤ 17592186044410) (N F : Int) (hF : F ≠ 0) (hFI : isI F) (B : Int) (O : Int) (hO : offA es F = O) (hE : sizeFrom 16 ps O = none) (hOI : isI O) :
    Calls Try.prog 35 #[.pointer (some ⟨p, 0, none⟩), .agg #[.int .i64 N, .int .i64 F], v, .int .u8 B] w fun e w' => ∃ v', e = .returned v' ∧ Lv w0 p x lim ps L (rs.set i (intR v' (es ++ [-23]))) w' := by
  obtain ⟨A, cap, hve, hsl⟩ : ∃ A cap, v = .slice A es.length cap ∧ ∀ w', Lv w0 p x lim ps L rs w' → IntsIn w' A es := by
    obtain ⟨A, cap, hve, _⟩ := own_slice (h.sh.row i _ hi)
    refine ⟨A, cap, hve, fun w' h' => ?_⟩
    obtain ⟨A', cap', hve', hi', _⟩ := own_slice (h'.sh.row i _ hi)
    have e : v = .slice A' es.length cap' := hve'
    rw [show v = .slice A es.length cap from hve] at e
    cases e
    exact hi'
  subst hve
  have hb1 := Blk.new w #[.int .i64 N, .int .i64 F] 59
  have hA0 := h.alloc (.cells #[.int .i64 N, .int .i64 F] 59)
  obtain ⟨i0, hi0, hz0, hz1, hz2⟩ := info_parts infoInt
  replace hi0 := Lib.hid hi0
  replace hz0 := Lib.hid hz0
  replace hz1 := Lib.hid hz1
  replace hz2 := Lib.hid hz2
  have hnx := Lib.hid (fun hk => Nat.lt_irrefl _ (h.xlt _ hk) : ¬ w.heap.size ∈ x.all p)
  clear h
  go_enter Try.func35, Try.ntmps35
  go_upto_region 1 with (fail)
  generalize World.alloc w _ = wa at hb1 hA0 ⊢
  have c0 := hb1.cell 0
  have c1 := hb1.cell 1
  replace hA0 := Lib.hid hA0
  have hF1 : ¬ F = 0 := hF
  have hI1 : -9223372036854775808 ≤ F ∧ F ≤ 9223372036854775807 := by unfold isI at hFI; omega
  by_cases g1 : 0 < F
  · by_cases g2 : F ≤ es.length
    · obtain ⟨e, he⟩ : ∃ e, Hid (es[(F - 1).toNat]? = some e) := ⟨_, List.getElem?_eq_getElem (by omega)⟩
      obtain ⟨gA, oA, hAe, hcA⟩ := hsl _ hA0.out _ _ he.out
      subst hAe
      have hOe : O = e := by
        rw [← hO]
        unfold offA
        rw [if_pos ⟨g1, g2⟩, List.getD_eq_getElem?_getD, he.out]; rfl
      subst hOe
      obtain ⟨J, hJ⟩ : ∃ J : Nat, Hid (J = (F - 1).toNat) := ⟨_, rfl⟩
      rw [← hJ.out] at hcA
      have hJ1 : F - 1 = (J : Int) := by rw [hJ.out]; omega
      have hJ2 : (J : Int) < es.length := by omega
      have hJ0 : (0 : Int) ≤ J := by omega
      clear hsl hO hF
      replace hi := hi
      go_wp2_with (first
        | (go_at_call 32; go_loud (refine (lv_free_no hA0.out _ (by unfold isI at hOI; omega) hE).mono ?_; rintro e w2 ⟨rfl, h2⟩; replace h2 := Lib.hid (h2.alloc (.cells #[.int .i64 (-23)] 3))))
        | (at_builtin; go_loud (refine wpList_append_loc _ rfl _ _ 29 rfl w0.heap.size 3 i0 (.int .i64 0) 1 8 Try.underlying29 hi0.out hz0.out hz1.out hz2.out rfl (by decide) (.slice _ es.length cap) es.length _ rfl (h2.out.sh.row i _ hi) ⟨_, 0, none⟩ 1 1 [.int .i64 (-23)] rfl rfl (cell_one_new _ _ _) (by simp [Value.oneCell']) (by unfold maxLen; omega) (by omega) (by have := h2.out.ars.below.size; exact this) ?_; intro v3 w3 hr3 ht3 hl3; have h9 := Lib.hid (h2.out.app hi hr3 ht3 hl3); clear hr3 ht3 hl3))
        | (go_at_call 20; refine (num_any _ _).mono ?_; rintro e w' ⟨rfl, rfl⟩)
        | fail)
      go_ret
      exact ⟨v3, rfl, h9.out⟩
    · have hOe : O = F := by rw [← hO]; unfold offA; rw [if_neg (fun q => g2 q.2)]
      subst hOe
      clear hsl hO hF
      go_wp2_with (first
        | (go_at_call 32; go_loud (refine (lv_free_no hA0.out _ (by unfold isI at hOI; omega) hE).mono ?_; rintro e w2 ⟨rfl, h2⟩; replace h2 := Lib.hid (h2.alloc (.cells #[.int .i64 (-23)] 3))))
        | (at_builtin; go_loud (refine wpList_append_loc _ rfl _ _ 29 rfl w0.heap.size 3 i0 (.int .i64 0) 1 8 Try.underlying29 hi0.out hz0.out hz1.out hz2.out rfl (by decide) (.slice _ es.length cap) es.length _ rfl (h2.out.sh.row i _ hi) ⟨_, 0, none⟩ 1 1 [.int .i64 (-23)] rfl rfl (cell_one_new _ _ _) (by simp [Value.oneCell']) (by unfold maxLen; omega) (by omega) (by have := h2.out.ars.below.size; exact this) ?_; intro v3 w3 hr3 ht3 hl3; have h9 := Lib.hid (h2.out.app hi hr3 ht3 hl3); clear hr3 ht3 hl3))
        | (go_at_call 20; refine (num_any _ _).mono ?_; rintro e w' ⟨rfl, rfl⟩)
        | fail)
      go_ret
      exact ⟨v3, rfl, h9.out⟩
  · have hOe : O = F := by rw [← hO]; unfold offA; rw [if_neg (fun q => g1 q.1)]
    subst hOe
    clear hsl hO hF
    go_wp2_with (first
      | (go_at_call 32; go_loud (refine (lv_free_no hA0.out _ (by unfold isI at hOI; omega) hE).mono ?_; rintro e w2 ⟨rfl, h2⟩; replace h2 := Lib.hid (h2.alloc (.cells #[.int .i64 (-23)] 3))))
        | (at_builtin; go_loud (refine wpList_append_loc _ rfl _ _ 29 rfl w0.heap.size 3 i0 (.int .i64 0) 1 8 Try.underlying29 hi0.out hz0.out hz1.out hz2.out rfl (by decide) (.slice _ es.length cap) es.length _ rfl (h2.out.sh.row i _ hi) ⟨_, 0, none⟩ 1 1 [.int .i64 (-23)] rfl rfl (cell_one_new _ _ _) (by simp [Value.oneCell']) (by unfold maxLen; omega) (by omega) (by have := h2.out.ars.below.size; exact this) ?_; intro v3 w3 hr3 ht3 hl3; have h9 := Lib.hid (h2.out.app hi hr3 ht3 hl3); clear hr3 ht3 hl3))
      | (go_at_call 20; refine (num_any _ _).mono ?_; rintro e w' ⟨rfl, rfl⟩)
      | fail)
    go_ret
    exact ⟨v3, rfl, h9.out⟩
/-- act, whatever the step -/
theorem act_any (h : Lv w0 p x lim ps L rs w) {i : Nat} {v : Value} {es : List Int} (hi : rs[i]? = some (intR v es)) (hes : es.length ≤ 17592186044410) (N F : Int) (hFI : isI F) (hrg : ∀ e ∈ es, isI e) (b : UInt8) (B : Int) (hB : (b.toNat : Int) = B) :
    Calls Try.prog 35 #[.pointer (some ⟨p, 0, none⟩), .agg #[.int .i64 N, .int .i64 F], v, .int .u8 B] w fun e w' => ∃ v' x' L', e = .returned v' ∧ Lv w0 p x' lim (actP lim ps es N F) L' (rs.set i (intR v' (es ++ [actR lim ps es N F]))) w' ∧ actB lim ps L N F b L' := by
  unfold actP actR actB
  by_cases hF : F = 0
  · by_cases hr : roomA lim ps N = true
    · obtain ⟨⟨h1, h2⟩, h3⟩ : (1 ≤ N ∧ N ≤ 1048576) ∧ liveSum ps + clsN N ≤ lim := by unfold roomA at hr; simpa using hr
      refine (act_take h hi hes N F hF b B hB ⟨h1, h2⟩ _ rfl h3 _ rfl).mono ?_
      rintro e w' ⟨v', x', L', L1, rfl, h4, h5, h6, h7⟩
      simp only [if_pos hF, if_pos hr, if_pos (And.intro hF hr)]
      exact ⟨v', x', L', rfl, h4, L1, h5, h6, h7⟩
    · have hnr : ¬ (F = 0 ∧ roomA lim ps N = true) := fun q => hr q.2
      simp only [if_pos hF, if_neg hr, if_neg hnr]
      by_cases h1 : N < 1
      · simp only [if_pos h1]
        refine (act_no h hi hes N F hF B 21 (.inl ⟨rfl, h1⟩) _ rfl).mono ?_
        rintro e w' ⟨v', rfl, h4⟩
        exact ⟨v', x, L, rfl, h4, rfl⟩
      · simp only [if_neg h1]
        have h2 : 1048576 < N ∨ lim < liveSum ps + clsN N := by
          unfold roomA at hr
          simp at hr
          by_cases q : N ≤ 1048576
          · exact .inr (hr (by omega) q)
          · exact .inl (by omega)
        refine (act_no h hi hes N F hF B 22 (.inr ⟨rfl, by omega, h2⟩) _ rfl).mono ?_
        rintro e w' ⟨v', rfl, h4⟩
        exact ⟨v', x, L, rfl, h4, rfl⟩
  · have hnr : ¬ (F = 0 ∧ roomA lim ps N = true) := fun q => hF q.1
    simp only [if_neg hF, if_neg hnr]
    cases hs : sizeFrom 16 ps (offA es F) with
    | some c =>
      refine (act_free h hi hes N F hF hFI B _ rfl (by rw [hs]; rfl)).mono ?_
      rintro e w' ⟨v', x', rfl, h4⟩
      exact ⟨v', x', L, rfl, h4, rfl⟩
    | none =>
      have hO : isI (offA es F) := by
        unfold offA
        by_cases q : 0 < F ∧ F ≤ es.length
        · rw [if_pos q, List.getD_eq_getElem?_getD, List.getElem?_eq_getElem (show (F - 1).toNat < es.length by omega)]
          exact hrg _ (List.getElem_mem _)
        · rw [if_neg q]; exact hFI
      refine (act_freeNo h hi hes N F hF hFI B _ rfl hs hO).mono ?_
      rintro e w' ⟨v', rfl, h4⟩
      have e9 : freeP ps (offA es F) = ps := deadP_none 16 ps _ (fun y hy => by have := (h.ars.ar.pos y hy).1; omega) hs
      rw [e9]
      exact ⟨v', x, L, rfl, h4, rfl⟩
end
end Go.Proofs.Ytpbalilnemjeeaa
/- What is proved here: the contract of Parts: a new list that tells where each part begins, its bytes, and whether it is live. Conditions: the arena is there. -/
namespace Go.Proofs.Ytpbalilnemjeeaa
set_option linter.unusedVariables false
set_option linter.unusedSimpArgs false
open Go.RowKit Pm Pa Pl
/-- elements of some cells each, one behind the other -/
def flatN {α : Type} (f : α → List Value) (l : List α) : List Value := (l.map f).flatten
theorem flatN_snoc {α : Type} (f : α → List Value) (l : List α) (e : α) : flatN f (l ++ [e]) = flatN f l ++ f e := by simp [flatN]
theorem flatN_app {α : Type} (f : α → List Value) (l m : List α) : flatN f (l ++ m) = flatN f l ++ flatN f m := by simp [flatN]
theorem flatN_len {α : Type} (f : α → List Value) (k : Nat) (hf : ∀ a, (f a).length = k) (l : List α) : (flatN f l).length = l.length * k := by
  induction l with
  | nil => simp [flatN]
  | cons e t ih =>
    have h : flatN f (e :: t) = f e ++ flatN f t := rfl
    rw [h, List.length_append, ih, List.length_cons, hf e, Nat.add_mul]; omega
theorem flatN_get {α : Type} (f : α → List Value) (k : Nat) (hf : ∀ a, (f a).length = k) (l : List α) (j t : Nat) (e : α) (hj : l[j]? = some e) (ht : t < k) : (flatN f l)[j * k + t]? = (f e)[t]? := by
  induction l generalizing j with
  | nil => simp at hj
  | cons d r ih =>
    have h : flatN f (d :: r) = f d ++ flatN f r := rfl
    rw [h]
    cases j with
    | zero =>
      simp at hj
      subst hj
      rw [Nat.zero_mul, Nat.zero_add, List.getElem?_append_left (by rw [hf]; exact ht)]
    | succ j =>
      have e1 : (j + 1) * k + t - k = j * k + t := by rw [Nat.add_mul]; omega
      rw [List.getElem?_append_right (by rw [hf, Nat.add_mul]; omega), hf, e1]
      exact ih j (by simpa using hj)
theorem own_cell {w : World} {B size n cap g : Nat} {e : TypeId} {xs : List Value} (h : w.ownsRow B e size (.slice (some ⟨g, 0, none⟩) n cap) n xs) (j : Nat) (u : Value) (hj : xs[j]? = some u) : w.cell? ⟨g, j, none⟩ = some u := by
  have h1 := h.cells (g := g) rfl j u hj
  rw [Addr.add_lit] at h1
  simpa using h1
theorem own_some {w : World} {B size n : Nat} {e : TypeId} {v : Value} {xs : List Value} (h : w.ownsRow B e size v n xs) : ∃ A cap, v = .slice A n cap ∧ (0 < n → ∃ g, A = some ⟨g, 0, none⟩) := by
  rcases h.2 with ⟨e1, h0⟩ | ⟨g, cap, cur, e1, _⟩
  · exact ⟨none, 0, by rw [e1, h0], fun hn => by omega⟩
  · exact ⟨some ⟨g, 0, none⟩, cap, e1, fun _ => ⟨g, rfl⟩⟩
theorem cells_three (w : World) (x y z : Value) (t : TypeId) : ∀ j u, [x, y, z][j]? = some u → (w.alloc (.cells #[x, y, z] t)).cell? ((⟨w.heap.size, 0, none⟩ : Addr).add j) = some u := by
  intro j u hj
  have hb := Blk.new w #[x, y, z] t
  rw [Addr.add_lit, Nat.zero_add, hb.cell j]
  simpa using hj
/-- a part: where it begins, its bytes, whether it is live -/
structure PE where
  o : Int
  c : Int
  l : Bool
def PE.cells (e : PE) : List Value := [.int .i64 e.o, .int .i64 e.c, .bool e.l]
def peAt (ps : Parts) (i : Nat) : PE := ⟨(stOf ps i : Nat), ((ps.getD i (0, false)).1 : Nat), (ps.getD i (0, false)).2⟩
def pes (ps : Parts) (k : Nat) : List PE := (List.range k).map (peAt ps)
theorem pes_succ (ps : Parts) (k : Nat) : pes ps (k + 1) = pes ps k ++ [peAt ps k] := by simp [pes, List.range_succ]
theorem pes_len (ps : Parts) (k : Nat) : (pes ps k).length = k := by simp [pes]
theorem pes_get (ps : Parts) (k i : Nat) (h : i < k) : (pes ps k)[i]? = some (peAt ps i) := by simp [pes, h]
theorem peAt_of (ps : Parts) (i c : Nat) (l : Bool) (h : ps[i]? = some (c, l)) : peAt ps i = ⟨(stOf ps i : Nat), (c : Nat), l⟩ := by
  unfold peAt
  rw [List.getD_eq_getElem?_getD, h]; rfl
theorem infoPart : (Try.prog.info? 65).map (fun i => (i.zero, i.size, i.bytes)) = some (some (.agg #[.int .i64 0, .int .i64 0, .bool false]), 3, 24) := by kernel_rfl
set_option maxHeartbeats 4000000 in
set_option maxRecDepth 100000 in
theorem ar_parts {w : World} {p : Nat} {x : Loc} {lim : Nat} {ps : Parts} {L : List UInt8} (h : ArAt w p x lim ps L) : Calls Try.prog 36 #[.pointer (some ⟨p, 0, none⟩)] w fun e w' =>
    ∃ v, e = .returned v ∧ w'.ownsRow w.heap.size 65 3 v ps.length (flatN PE.cells (pes ps ps.length)) ∧ Below w.heap.size w w' := by
  have hlen := h.len
  obtain ⟨A1, cap1, hv1, hs1⟩ := own_some h.st
  obtain ⟨A2, cap2, hv2, hs2⟩ := own_some h.cl
  obtain ⟨c0, c1, c2, c3, c4, c5, c6⟩ := h.cells
  rw [hv1] at c3
  have hA := Lib.hid h
  obtain ⟨j0, hj0, hy0, hy1, hy2⟩ := info_parts infoPart
  have hib : j0.bytes * ps.length ≤ 281474976710656 := by rw [hy2]; omega
  replace hj0 := Lib.hid hj0
  replace hy0 := Lib.hid hy0
  replace hy1 := Lib.hid hy1
  replace hy2 := Lib.hid hy2
  replace hv1 := Lib.hid hv1
  replace hv2 := Lib.hid hv2
  replace hs1 := Lib.hid hs1
  replace hs2 := Lib.hid hs2
  clear h
  go_enter Try.func36, Try.ntmps36
  go_upto_region 2 with (first
    | (at_make; refine wpList_make_own _ rfl _ _ _ rfl w.heap.size 65 j0 (.agg #[.int .i64 0, .int .i64 0, .bool false]) 3 Try.underlying61 hj0.out hy0.out hy1.out .i64 .i64 _ ps.length rfl rfl rfl hib (by unfold maxLen; omega) (by simp) ?_; intro w2 hrow hgr)
    | fail)
  have hB2 : Below w.heap.size w w2 := ⟨hgr.os, hgr.tape, hgr.output, hgr.size, fun k hk => hgr.block k (by omega) (by simp)⟩
  have hR2 : Hid (w2.ownsRow w.heap.size 65 3 (.slice (some ⟨w.heap.size, 0, none⟩) 0 ps.length) 0 (flatN PE.cells (pes ps 0))) := hrow
  obtain ⟨v0, hv0⟩ : ∃ v, Hid (v = Value.slice (some ⟨w.heap.size, 0, none⟩) 0 ps.length) := ⟨_, rfl⟩
  rw [← hv0.out] at hR2 ⊢
  obtain ⟨d0, d1, d2, d3, d4, d5, d6⟩ := (hA.out.keep hB2).cells
  rw [hv1.out] at d3
  replace hB2 := Lib.hid hB2
  clear hrow hgr hv0 hib c0 c1 c2 c3 c4 c5 c6 d0 d1 d2 d4 d5 d6
  go_upto_region 3 with (fail)
  clear d3
  obtain ⟨wo, rfl⟩ : ∃ wo : World, wo = w := ⟨_, rfl⟩
  go_loopw [3, 19] (fun a3 a19 wr => ∃ (k : Nat) (v : Value), k ≤ ps.length ∧ v = a3 ∧ a19 = .int .i64 (k : Int) ∧ Hid (wr.ownsRow wo.heap.size 65 3 v k (flatN PE.cells (pes ps k))) ∧ Hid (Below wo.heap.size wo wr)) (fun _ i _ => (ps.length - (intOf i).toNat))
  case atStart => exact ⟨0, v0, Nat.zero_le _, rfl, rfl, hR2, hB2⟩
  case round =>
    clear hR2 hB2
    obtain ⟨k, v, hk, rfl, rfl, hR, hB⟩ := hrel
    by_cases hlt : k < ps.length
    · obtain ⟨⟨c, l⟩, hi⟩ : ∃ a, ps[k]? = some a := ⟨_, List.getElem?_eq_getElem hlt⟩
      have hA2 := hA.out.keep hB.out
      obtain ⟨d0, d1, d2, d3, d4, d5, d6⟩ := hA2.cells
      rw [hv1.out] at d3
      rw [hv2.out] at d4
      obtain ⟨g1, hg1⟩ := hs1.out (by omega)
      obtain ⟨g2, hg2⟩ := hs2.out (by omega)
      subst hg1 hg2
      have hst := starts_get ps k hlt
      have e1 := own_cell (hv1.out ▸ hA2.st) k (.int .i64 ((stOf ps k : Nat) : Int)) (by unfold ints; rw [List.getElem?_map, hst]; rfl)
      have e2 := own_cell (hv2.out ▸ hA2.cl) k (.int .i64 (c : Int)) (by unfold ints; rw [List.getElem?_map, List.getElem?_map, hi]; rfl)
      have hsz := sizeFrom_at 16 ps (fun a ha => by have := (hA.out.pos a ha).1; omega) k c l hi
      have hse := st_le ps (fun a ha => (hA.out.pos a ha).1) k ps.length (by omega) (Nat.le_refl _)
      rw [st_end] at hse
      have hend := hA.out.endle
      have hwf : (Lit.int .i64 ((stOf ps k : Nat) : Int)).wf = true := WalkArith.wf_i64 (by omega)
      have hlk := SM.look_ok hA2.sz hwf
      have hsz' : szF ps ((stOf ps k : Nat) : Int) = if l = true then some (.int .i64 (c : Int)) else none := by
        unfold szF stOf
        rw [hsz]
        cases l <;> rfl
      rw [hsz'] at hlk
      have hpe := peAt_of ps k c l hi
      have hss := pes_succ ps k
      rw [hpe] at hss
      obtain ⟨S, hS⟩ : ∃ S, Hid (S = stOf ps k) := ⟨_, rfl⟩
      rw [← hS.out] at hlk e1 hss
      replace hss := Lib.hid hss
      have k0 : (0 : Int) ≤ k := by omega
      have k1 : (k : Int) < ps.length := by omega
      have hbz := hB.out.size
      have hlk2 : ∃ u, (Instr.lookup 125 (.map (some x.bs)) (.int .i64 (S : Int)) true).run Try.prog wr = .ok (.tuple #[u, .bool l]) wr := by
        cases l <;> exact ⟨_, hlk⟩
      obtain ⟨u, hlk2⟩ := hlk2
      clear hlk hst hsz hsz' hpe hi hA2 hse d0 d1 d2 d6
      go_wp2_with (first
        | (at_builtin; go_loud (refine wpList_append_loc _ rfl _ _ 61 rfl wo.heap.size 65 j0 (.agg #[.int .i64 0, .int .i64 0, .bool false]) 3 24 Try.underlying61 hj0.out hy0.out hy1.out hy2.out rfl (by decide) v k _ rfl (row_turn (S := []) hR.out (Turns.of_below ((Below.refl _ wr).alloc (Nat.le_refl _) _)) (by simp)) ⟨wr.heap.size, 0, none⟩ 1 1 [.int .i64 (S : Int), .int .i64 (c : Int), .bool l] rfl rfl (cells_three _ _ _ _ _) (by simp [Value.oneCell']) (by unfold maxLen; omega) (by omega) (by simp; omega) ?_; intro v3 w3 hr3 ht3 hl3; have hR3 : Hid (w3.ownsRow wo.heap.size 65 3 v3 (k + 1) (flatN PE.cells (pes ps (k + 1)))) := (by unfold Hid; rw [hss.out, flatN_snoc]; exact hr3); have hB3 := Lib.hid (Turns.below ((Below.then hB.out ((Below.refl _ wr).alloc (Nat.le_refl _) (.cells #[.int .i64 (S : Int), .int .i64 (c : Int), .bool l] 65)))) ht3 (fun g hg => (hR.out.lt g (by simpa [rows] using hg)).1) (by simp; omega)); clear hr3 ht3 hl3))
        | fail)
      exact ⟨⟨k + 1, v3, by omega, rfl, by go_num, hR3, hB3⟩, by simp [intOf]; omega⟩
    · obtain rfl : k = ps.length := by omega
      go_wp2_with fail
      go_ret
      exact ⟨_, rfl, hR.out, hB.out⟩
end Go.Proofs.Ytpbalilnemjeeaa
