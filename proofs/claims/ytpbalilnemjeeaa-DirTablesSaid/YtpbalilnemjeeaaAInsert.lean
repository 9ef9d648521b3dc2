/- What is proved here: the library's slices.Insert at []int, laid at this program, over a list of free blocks. Conditions: the list is there. -/
import Derived.Test.YtpbalilnemjeeaaATaken
import Derived.Shelf.Spec.SlicesInsert
import Derived.Shelf.Spec.SlicesInsertGrow
namespace Go.Proofs.Ytpbalilnemjeeaa
set_option linter.unusedVariables false
set_option linter.unusedSimpArgs false
open Go.Shelf Go.RowKit Pm Pa
def renI : Ren := ⟨fun | 21 => 77 | 27 => 109 | 28 => 110 | 35 => 129 | 39 => 141 | n => n, fun | 0 => 0 | 3 => 3 | 4 => 4 | 22 => 29 | n => n, fun n => n⟩
theorem laysI : Lays2.n21 Try.prog renI := {
  mixed := by kernel_rfl
  f21 := by kernel_rfl
  f27 := by kernel_rfl
  f28 := by kernel_rfl
  f35 := by kernel_rfl
  f39 := by kernel_rfl
  t0 := by kernel_rfl
  a0 := fun w => by kernel_rfl
  z0 := fun w => by kernel_rfl
  v0 := fun w => by kernel_rfl
  t3 := by kernel_rfl
  a3 := fun w => by kernel_rfl
  z3 := fun w => by kernel_rfl
  v3 := fun w => by kernel_rfl
  t4 := by kernel_rfl
  a4 := fun w => by kernel_rfl
  z4 := fun w => by kernel_rfl
  v4 := fun w => by kernel_rfl
  t22 := by kernel_rfl
  a22 := fun w => by kernel_rfl
  z22 := fun w => by kernel_rfl
  v22 := fun w => by kernel_rfl
  i3 := by kernel_rfl }
theorem set_block (g : Nat) (t : TypeId) (m : Nat × Nat) : ∀ (vs : List Value) (o : Nat) (w : World) (cur : Array Value), w.heap[g]? = some (.cells cur t m) →
    ∃ cur' : Array Value, (w.setCells g o vs).heap[g]? = some (.cells cur' t m) ∧ cur'.size = cur.size ∧ ∀ i, cur'[i]? = if o ≤ i ∧ i < o + vs.length ∧ i < cur.size then vs[i - o]? else cur[i]?
  | [], o, w, cur, h => ⟨cur, h, rfl, fun i => by rw [if_neg (by simp; omega)]⟩
  | v :: r, o, w, cur, h => by
    have h1 : (w.setCell ⟨g, o, none⟩ v).heap[g]? = some (.cells (cur.setIfInBounds o v) t m) := by simp [World.setCell, Array.getElem?_modify, h]
    obtain ⟨cur', h2, h3, h4⟩ := set_block g t m r (o + 1) _ _ h1
    refine ⟨cur', h2, by simpa using h3, fun i => ?_⟩
    rw [h4 i]
    simp only [Array.size_setIfInBounds, List.length_cons]
    by_cases e : i = o
    · subst e
      rw [if_neg (by omega), Array.getElem?_setIfInBounds, if_pos rfl]
      by_cases hc : i < cur.size
      · rw [if_pos hc, if_pos (by omega), Nat.sub_self]; rfl
      · rw [if_neg hc, if_neg (by omega)]
        exact (Array.getElem?_eq_none (by omega)).symm
    · rw [Array.getElem?_setIfInBounds, if_neg (show ¬ o = i from fun h => e h.symm)]
      by_cases hc : o + 1 ≤ i ∧ i < o + 1 + r.length ∧ i < cur.size
      · rw [if_pos hc, if_pos (by omega), show i - o = (i - (o + 1)) + 1 by omega, List.getElem?_cons_succ]
      · rw [if_neg hc, if_neg (by omega)]
theorem set_turns (g : Nat) : ∀ (vs : List Value) (o : Nat) (w : World), Turns [g] w (w.setCells g o vs)
  | [], o, w => Turns.refl _ w
  | v :: r, o, w => ((Turns.refl [g] w).set g o v (.inl (by simp))).trans (set_turns g r (o + 1) _)
theorem ints_at (l : List Nat) (j : Nat) (v : Value) (h : (ints l)[j]? = some v) : ∃ x : Nat, l[j]? = some x ∧ v = .int .i64 (x : Int) := by
  unfold ints at h
  rw [List.getElem?_map] at h
  obtain ⟨x, hx, rfl⟩ := Option.map_eq_some_iff.1 h
  exact ⟨x, hx, rfl⟩
theorem ints_one (l : List Nat) : ∀ v ∈ ints l, v.oneCell' = true := fun v hv => by
  obtain ⟨x, _, rfl⟩ := List.mem_map.1 hv; rfl
theorem ins_get (xs : List Nat) (i x k : Nat) (hi : i ≤ xs.length) : (xs.take i ++ x :: xs.drop i)[k]? = if k < i then xs[k]? else if k = i then some x else xs[k - 1]? := by
  rw [List.getElem?_append, List.length_take, Nat.min_eq_left hi]
  by_cases h1 : k < i
  · rw [if_pos h1, if_pos h1, List.getElem?_take, if_pos h1]
  · rw [if_neg h1, if_neg h1]
    by_cases h2 : k = i
    · subst h2; rw [if_pos rfl, Nat.sub_self]; rfl
    · rw [if_neg h2, show k - i = (k - 1 - i) + 1 by omega, List.getElem?_cons_succ, List.getElem?_drop]
      congr 1; omega
theorem ins_len (xs : List Nat) (i x : Nat) (hi : i ≤ xs.length) : (xs.take i ++ x :: xs.drop i).length = xs.length + 1 := by
  simp; omega
theorem zero_size (n : Nat) : (Builtin.zeroCells (Value.int .i64 0).cells n).size = n := by simp [Builtin.zeroCells, Value.cells]
theorem row_new (l : List Nat) (Z : Array Value) (k y : Nat) (h : l[k]? = some y) : ((ints l).toArray ++ Z)[0 + k]? = some (.int .i64 (y : Int)) := by
  have hk := (List.getElem?_eq_some_iff.1 h).1
  rw [Nat.zero_add, Array.getElem?_append_left (by simp [ints_len]; exact hk), List.getElem?_toArray]
  unfold ints
  rw [List.getElem?_map, h]; rfl
theorem ints_get (xs : List Nat) (k y : Nat) (h : xs[k]? = some y) : (ints xs)[k]? = some (.int .i64 (y : Int)) := by
  unfold ints; rw [List.getElem?_map, h]; rfl
set_option maxHeartbeats 2000000 in
theorem insert_any {w : World} {fb : List Nat} {u : Value} {xs : List Nat} (h : FreeRow w fb u xs) (i : Nat) (hi : i ≤ xs.length) (x vb : Nat) (hb : Blk w vb #[.int .i64 (x : Int)] 3) (hvb : ¬ vb ∈ rows u) (hlen : xs.length ≤ 1099511627776) (I : Int) (hI : I = i) :
    Calls Try.prog 77 #[u, .int .i64 I, .slice (some ⟨vb, 0, none⟩) 1 1] w fun e w' => ∃ v, e = .returned v ∧ FreeRow w' (rows v) v (xs.take i ++ x :: xs.drop i) ∧ Turns (rows u) w w' ∧ (∀ g, g ∈ rows v → g ∈ rows u ∨ (w.heap.size ≤ g ∧ g < w'.heap.size)) ∧ ∃ g, v.ownBlock = some g := by
  subst hI
  have hvs : ∀ j v, [Value.int .i64 (x : Int)][j]? = some v → w.cell? ⟨vb, 0 + j, none⟩ = some v := by
    intro j v hj
    cases j with
    | zero => simp at hj; subst hj; exact hb.cell 0
    | succ j => simp at hj
  have h1v : ∀ v ∈ [Value.int .i64 (x : Int)], v.oneCell' = true := by simp [Value.oneCell']
  have hl2 := ins_len xs i x hi
  have hsa : w.shape? vb = some (3, 1) := by unfold World.shape?; rw [show w.heap[vb]? = _ from hb]; rfl
  have hml : maxLen = 9223372036854775807 := rfl
  have hg1 := fun (w : World) (c : Nat) => grownCap_ge w (xs.length + 1) c 3
  have hg2 := fun (w : World) (c : Nat) => grownCap_le_maxLen w (xs.length + 1) c 3 (by omega)
  have grown : ∀ (base : Option Addr) (c : Nat), i = xs.length → u = .slice base xs.length c → xs.length ≤ c → c < xs.length + 1 → (base = none → xs.length = 0) → (∀ a, base = some a → ∀ j v, (ints xs)[j]? = some v → w.cell? (a.add j) = some v) →
      Calls Try.prog 77 #[u, .int .i64 i, .slice (some ⟨vb, 0, none⟩) 1 1] w fun e w' => ∃ v, e = .returned v ∧ FreeRow w' (rows v) v (xs.take i ++ x :: xs.drop i) ∧ Turns (rows u) w w' ∧ (∀ g, g ∈ rows v → g ∈ rows u ∨ (w.heap.size ≤ g ∧ g < w'.heap.size)) ∧ ∃ g, v.ownBlock = some g := by
    rintro base c rfl rfl h1 h2 h3 h4
    refine (Any2.slices_Insert_int_end_grow laysI base xs.length c vb 0 1 1 (ints xs) [Value.int .i64 (x : Int)] w (by omega) h1 h2 (by omega) (ints_len xs) rfl h3 h4 hvs h1v).mono ?_
    rintro e w' ⟨rfl, rfl⟩
    have e0 : xs.take xs.length ++ x :: xs.drop xs.length = xs ++ [x] := by simp
    refine ⟨_, rfl, .inr ⟨w.heap.size, 0, _, _, by rw [hl2]; rfl, by simp [rows, Value.ownBlock], Blk.new w.drew _ _, ?_, ?_, hg2 w c, fun k y hk => ?_⟩, ((Turns.refl _ w).drew).alloc _, fun g hg => ?_, ⟨_, rfl⟩⟩
    · have := hg1 w c
      rw [Array.size_append, zero_size]
      simp [ints_len]
      show grownCap w (xs.length + 1) c 3 ≤ xs.length + 1 + (grownCap w (xs.length + 1) c 3 - (xs.length + 1))
      omega
    · rw [hl2]; exact hg1 w c
    · rw [e0] at hk
      have e1 : ints xs ++ [Value.int .i64 (x : Int)] = ints (xs ++ [x]) := (ints_app xs x).symm
      rw [e1]
      exact row_new _ _ k y hk
    · simp [rows, Value.ownBlock] at hg
      subst hg
      exact .inr ⟨Nat.le_refl _, by simp⟩
  rcases h with ⟨rfl, rfl⟩ | ⟨g, o, cap, cur, rfl, _, e3, e4, e5, e7, e6⟩
  · exact grown none 0 (by simpa using hi) rfl (by simp) (by simp) (fun _ => rfl) (fun a e => by cases e)
  have hB : Blk w g cur 3 := e3
  have hC : ∀ j v, (ints xs)[j]? = some v → w.cell? ⟨g, o + j, none⟩ = some v := fun j v hj => by
    obtain ⟨y, hy, rfl⟩ := ints_at xs j v hj
    rw [hB.cell (o + j)]; exact e6 j y hy
  have hvg : vb ≠ g := fun e => hvb (by simp [rows, Value.ownBlock, e])
  have hsb : w.shape? g = some (3, cur.size) := by unfold World.shape?; rw [e3]
  have hkl : ∀ k y, (xs.take i ++ x :: xs.drop i)[k]? = some y → k < xs.length + 1 := fun k y hk => by
    have := (List.getElem?_eq_some_iff.1 hk).1
    rw [hl2] at this; exact this
  by_cases hr : xs.length + 1 ≤ cap
  · by_cases hlt : i < xs.length
    · refine (Any2.slices_Insert_int_shift laysI g o xs.length cap i vb 0 1 1 (ints xs) [Value.int .i64 (x : Int)] w hlt (by omega) hr (by omega) hvg (ints_len xs) rfl hC (fun j hj => ?_) (fun j hj => hB.free _) hvs (ints_one xs) h1v _ _ _ _ hsa hsb (by omega) (hb.free 0) (hb.free 1)).mono ?_
      · rw [hB.cell (o + j), Array.getElem?_eq_getElem (by omega)]; rfl
      rintro e w' ⟨rfl, rfl⟩
      obtain ⟨c1, b1, s1, k1⟩ := set_block g 3 (0, 0) ((ints xs).drop i) (o + (i + 1)) w.drew cur e3
      obtain ⟨c2, b2, s2, k2⟩ := set_block g 3 (0, 0) [Value.int .i64 (x : Int)] (o + i) _ c1 b1
      refine ⟨_, rfl, .inr ⟨g, o, cap, c2, by rw [hl2], by simp [rows, Value.ownBlock], b2, by omega, by omega, e7, fun k y hk => ?_⟩, ?_, fun g' hg => .inl hg, ⟨_, rfl⟩⟩
      · have hk1 := hkl k y hk
        rw [ins_get xs i x k hi] at hk
        rw [k2 (o + k), k1 (o + k)]
        simp only [List.length_cons, List.length_nil, List.length_drop, ints_len]
        split at hk
        · rw [if_neg (by omega), if_neg (by omega)]; exact e6 k y hk
        · split at hk
          · cases hk
            rw [if_pos (by omega), show o + k - (o + i) = 0 by omega]; rfl
          · rw [if_neg (by omega), if_pos (by omega), List.getElem?_drop, show i + (o + k - (o + (i + 1))) = k - 1 by omega]
            exact ints_get xs _ y hk
      · exact ((Turns.refl _ w).drew.trans (set_turns g _ _ _)).trans (set_turns g _ _ _)
    · obtain rfl : i = xs.length := by omega
      refine (Any2.slices_Insert_int_end_room laysI g o xs.length cap vb 0 1 1 [Value.int .i64 (x : Int)] w (by omega) hr (by omega) rfl (fun j hj => ?_) (fun j hj => hB.free _) hvs h1v).mono ?_
      · rw [hB.cell (o + xs.length + j), Array.getElem?_eq_getElem (by omega)]; rfl
      rintro e w' ⟨rfl, rfl⟩
      obtain ⟨c2, b2, s2, k2⟩ := set_block g 3 (0, 0) [Value.int .i64 (x : Int)] (o + xs.length) w cur e3
      refine ⟨_, rfl, .inr ⟨g, o, cap, c2, by rw [hl2], by simp [rows, Value.ownBlock], b2, by omega, by omega, e7, fun k y hk => ?_⟩, set_turns g _ _ _, fun g' hg => .inl hg, ⟨_, rfl⟩⟩
      have hk1 := hkl k y hk
      rw [ins_get xs _ x k hi] at hk
      rw [k2 (o + k)]
      simp only [List.length_cons, List.length_nil]
      split at hk
      · rw [if_neg (by omega)]; exact e6 k y hk
      · split at hk
        · cases hk
          rw [if_pos (by omega), show o + k - (o + xs.length) = 0 by omega]; rfl
        · omega
  · by_cases hlt : i < xs.length
    · refine (Any2.slices_Insert_int_grow laysI g o xs.length cap i vb 0 1 1 (ints xs) [Value.int .i64 (x : Int)] w hlt (by omega) e5 (by omega) (by omega) (ints_len xs) rfl hC hvs (ints_one xs) h1v).mono ?_
      rintro e w' ⟨rfl, rfl⟩
      have b0 : (w.alloc (.cells (((ints xs).take i).toArray ++ Builtin.zeroCells (Value.int .i64 0).cells (xs.length + 1 - i) ++ Builtin.zeroCells (Value.int .i64 0).cells (grownCap w (xs.length + 1) cap 3 - (xs.length + 1))) 3)).drew.heap[w.heap.size]? = some (.cells (((ints xs).take i).toArray ++ Builtin.zeroCells (Value.int .i64 0).cells (xs.length + 1 - i) ++ Builtin.zeroCells (Value.int .i64 0).cells (grownCap w (xs.length + 1) cap 3 - (xs.length + 1))) 3 (0, 0)) := Blk.new w _ _
      have s0 : (((ints xs).take i).toArray ++ Builtin.zeroCells (Value.int .i64 0).cells (xs.length + 1 - i) ++ Builtin.zeroCells (Value.int .i64 0).cells (grownCap w (xs.length + 1) cap 3 - (xs.length + 1))).size = grownCap w (xs.length + 1) cap 3 := by
        have := hg1 w cap
        rw [Array.size_append, Array.size_append, zero_size, zero_size]
        simp [ints_len]
        omega
      obtain ⟨c1, b1, s1, k1⟩ := set_block w.heap.size 3 (0, 0) [Value.int .i64 (x : Int)] i _ _ b0
      obtain ⟨c2, b2, s2, k2⟩ := set_block w.heap.size 3 (0, 0) ((ints xs).drop i) (i + 1) (World.drew (World.setCells (World.drew (w.alloc _)) w.heap.size i [Value.int .i64 (x : Int)])) c1 b1
      have hgg := hg1 w cap
      refine ⟨_, rfl, .inr ⟨w.heap.size, 0, _, c2, by rw [hl2]; rfl, by simp [rows, Value.ownBlock], b2, by rw [s2, s1, s0]; exact Nat.le_of_eq (Nat.zero_add _), by rw [hl2]; exact hgg, hg2 w cap, fun k y hk => ?_⟩, ?_, fun g' hg => ?_, ⟨_, rfl⟩⟩
      · have hk1 := hkl k y hk
        rw [ins_get xs i x k hi] at hk
        rw [k2 (0 + k), k1 (0 + k), s1, s0]
        simp only [List.length_cons, List.length_nil, List.length_drop, ints_len]
        split at hk
        · rw [if_neg (by omega), if_neg (by omega), Nat.zero_add, Array.append_assoc, Array.getElem?_append_left (by simp [ints_len]; omega), List.getElem?_toArray, List.getElem?_take, if_pos (by omega)]
          exact ints_get xs k y hk
        · split at hk
          · cases hk
            rw [if_neg (by omega), if_pos (by omega), show 0 + k - i = 0 by omega]; rfl
          · rw [if_pos (by omega), List.getElem?_drop, show i + (0 + k - (i + 1)) = k - 1 by omega]
            exact ints_get xs _ y hk
      · have t1 : Turns [w.heap.size] w _ := ((((Turns.refl [w.heap.size] w).alloc (.cells (((ints xs).take i).toArray ++ Builtin.zeroCells (Value.int .i64 0).cells (xs.length + 1 - i) ++ Builtin.zeroCells (Value.int .i64 0).cells (grownCap w (xs.length + 1) cap 3 - (xs.length + 1))) 3)).drew.trans (set_turns w.heap.size [Value.int .i64 (x : Int)] i _)).drew).trans (set_turns w.heap.size ((ints xs).drop i) (i + 1) _)
        exact t1.more fun y hy => .inr (by simp only [List.mem_singleton] at hy; omega)
      · simp [rows, Value.ownBlock] at hg
        subst hg
        refine .inr ⟨Nat.le_refl _, ?_⟩
        exact (Array.getElem?_eq_some_iff.1 b2).1
    · refine grown (some ⟨g, o, none⟩) cap (by omega) rfl e5 (by omega) (fun e => by cases e) ?_
      rintro a ha j v hj
      cases ha
      rw [Addr.add_lit]
      exact hC j v hj
end Go.Proofs.Ytpbalilnemjeeaa
