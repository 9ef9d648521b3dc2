/- What is proved here: an arena in memory: its head, its memory, its lists, its two maps; what a call that turns other blocks leaves of it; New and End. No condition. -/
import Derived.Test.YtpbalilnemjeeaaAPl
import Derived.Test.YtpbalilnemjeeaaMSix
import Derived.Test.YtpbalilnemjeeaaASearch
import Derived.Test.YtpbalilnemjeeaaAClass
import Derived.Maps.AppendAt
import Derived.OwnWalk
import Derived.RangeFuncBox
namespace Go.Proofs.Ytpbalilnemjeeaa
set_option linter.unusedVariables false
set_option linter.unusedSimpArgs false
open Go.RowKit Pm Pa
def rows (v : Value) : List Nat := v.ownBlock.toList
def ints (l : List Nat) : List Value := l.map fun (x : Nat) => Value.int .i64 (x : Int)
theorem ints_len (l : List Nat) : (ints l).length = l.length := by simp [ints]
theorem ints_app (l : List Nat) (x : Nat) : ints (l ++ [x]) = ints l ++ [.int .i64 (x : Int)] := by simp [ints]
/-- one list of free blocks -/
def FreeRow (w : World) (fb : List Nat) (u : Value) (xs : List Nat) : Prop :=
  (u = .slice none 0 0 ∧ xs = []) ∨ ∃ g o cap cur, u = .slice (some ⟨g, o, none⟩) xs.length cap ∧ g ∈ fb ∧ w.heap[g]? = some (.cells cur 3 (0, 0)) ∧ o + cap ≤ cur.size ∧ xs.length ≤ cap ∧ cap ≤ maxLen ∧ ∀ (k x : Nat), xs[k]? = some x → cur[o + k]? = some (.int .i64 (x : Int))
/-- the map of the free blocks -/
def FreeAt (w : World) (b : Nat) (ps : Parts) (fb : List Nat) : Prop :=
  ∃ f, FM w b ps.length f ∧ (∀ k : Int, (Lit.int .i64 k).wf = true → FreeRow w fb ((f k).getD (.slice none 0 0)) (deadFrom 16 ps k)) ∧
    (∀ (j k : Int) (u v : Value) (g : Nat), j ≠ k → f j = some u → f k = some v → u.ownBlock = some g → v.ownBlock = some g → False) ∧ ∀ k : Int, (f k).isSome = true → k ∈ ps.map fun a => (a.1 : Int)
structure Loc where
  m : Nat
  q : Nat
  bs : Nat
  bf : Nat
  v1 : Value
  v2 : Value
  fb : List Nat
def Loc.all (x : Loc) (p : Nat) : List Nat := p :: x.m :: x.q :: x.bs :: x.bf :: (rows x.v1 ++ rows x.v2 ++ x.fb)
/-- the blocks are apart: each has a tag of its kind -/
def Tagged (x : Loc) (p : Nat) : Prop := ∃ lab : Nat → Nat, lab p = 0 ∧ lab x.m = 1 ∧ lab x.q = 2 ∧ lab x.bs = 3 ∧ lab x.bf = 4 ∧ (∀ g, g ∈ rows x.v1 → lab g = 5) ∧ (∀ g, g ∈ rows x.v2 → lab g = 6) ∧ ∀ g, g ∈ x.fb → lab g = 7
theorem Tagged.turn {x x' : Loc} {p N : Nat} (h : Tagged x p) (hN : ∀ k, k ∈ x.all p → k < N) (hm : x'.m = x.m) (hbs : x'.bs = x.bs) (hbf : x'.bf = x.bf) (hfb : x'.fb = x.fb)
    (hq : x'.q = x.q ∨ N ≤ x'.q) (h1 : ∀ g, g ∈ rows x'.v1 → g ∈ rows x.v1 ∨ (N ≤ g ∧ g ≠ x'.q)) (h2 : ∀ g, g ∈ rows x'.v2 → g ∈ rows x.v2 ∨ (N ≤ g ∧ g ≠ x'.q ∧ ¬ g ∈ rows x'.v1)) : Tagged x' p := by
  obtain ⟨lab, l0, l1, l2, l3, l4, l5, l6, l7⟩ := h
  have hl : ∀ k, k = p ∨ k = x.m ∨ k = x.q ∨ k = x.bs ∨ k = x.bf ∨ k ∈ rows x.v1 ∨ k ∈ rows x.v2 ∨ k ∈ x.fb → k < N := fun k hk => hN k (by simp [Loc.all]; exact hk)
  refine ⟨fun k => if k < N then lab k else if k = x'.q then 2 else if k ∈ rows x'.v1 then 5 else 6, ?_, ?_, ?_, ?_, ?_, ?_, ?_, ?_⟩
  · simp only []; rw [if_pos (hl p (by simp))]; exact l0
  · simp only [hm]; rw [if_pos (hl x.m (by simp))]; exact l1
  · simp only []
    rcases hq with e | e
    · rw [e, if_pos (hl x.q (by simp))]; exact l2
    · rw [if_neg (by omega), if_pos trivial]
  · simp only [hbs]; rw [if_pos (hl x.bs (by simp))]; exact l3
  · simp only [hbf]; rw [if_pos (hl x.bf (by simp))]; exact l4
  · intro g hg
    simp only []
    rcases h1 g hg with e | ⟨e, e2⟩
    · rw [if_pos (hl g (by simp [e]))]; exact l5 g e
    · rw [if_neg (by omega), if_neg e2, if_pos hg]
  · intro g hg
    simp only []
    rcases h2 g hg with e | ⟨e, e2, e3⟩
    · rw [if_pos (hl g (by simp [e]))]; exact l6 g e
    · rw [if_neg (by omega), if_neg e2, if_neg e3]
  · intro g hg
    rw [hfb] at hg
    simp only []
    rw [if_pos (hl g (by simp [hg]))]; exact l7 g hg
/-- an arena at block p -/
structure ArAt (w : World) (p : Nat) (x : Loc) (lim : Nat) (ps : Parts) (L : List UInt8) : Prop where
  hd : Blk w p #[.int .i64 (lim : Int), .int .i64 (liveSum ps : Int), .pointer (some ⟨x.m, 0, none⟩), x.v1, x.v2, .map (some x.bs), .map (some x.bf)] 128
  mem : MemAt w x.m x.q L (endOf ps)
  st : w.ownsRow 0 3 1 x.v1 ps.length (ints (starts ps))
  cl : w.ownsRow 0 3 1 x.v2 ps.length (ints (ps.map (·.1)))
  sz : SM w x.bs ps.length (szF ps)
  fr : FreeAt w x.bf ps x.fb
  nd : Tagged x p
  fl : ∀ k, k ∈ x.fb → k < w.heap.size
  pos : ∀ a ∈ ps, 16 ≤ a.1 ∧ a.1 ≤ 1048576
  lv : liveSum ps ≤ lim
  lm : lim ≤ 2097152
theorem row_turn {w w' : World} {S : List Nat} {base size n : Nat} {e : TypeId} {v : Value} {xs : List Value} (h : w.ownsRow base e size v n xs) (ht : Turns S w w') (hS : ∀ g, g ∈ rows v → ¬ g ∈ S) : w'.ownsRow base e size v n xs := by
  refine ⟨h.1, ?_⟩
  rcases h.2 with hn | ⟨g, cap, cur, rfl, hb, hgg, rest⟩
  · exact .inl hn
  · refine .inr ⟨g, cap, cur, rfl, hb, ?_, rest⟩
    rw [ht.block g (Array.getElem?_eq_some_iff.1 hgg).1 (hS g (by simp [rows, Value.ownBlock]))]
    exact hgg
theorem turns_grown {w w' : World} {v : Value} (h : w.grownBy w' v.ownBlock) : Turns (rows v) w w' :=
  ⟨h.os, h.tape, h.output, h.size, fun k hk hn => h.block k hk (fun e => hn (by rw [rows, ← e]; simp))⟩
theorem row_lt {w : World} {base size n : Nat} {e : TypeId} {v : Value} {xs : List Value} (h : w.ownsRow base e size v n xs) {g : Nat} (hg : g ∈ rows v) : g < w.heap.size := (h.lt g (by simpa [rows] using hg)).2
theorem free_turn {w w' : World} {S fb : List Nat} {b : Nat} {ps : Parts} (h : FreeAt w b ps fb) (ht : Turns S w w') (hb : ¬ b ∈ S) (hf : ∀ g, g ∈ fb → ¬ g ∈ S) : FreeAt w' b ps fb := by
  obtain ⟨f, h1, h2, h3⟩ := h
  refine ⟨f, h1.turn ht hb, fun k hk => ?_, h3⟩
  rcases h2 k hk with h | ⟨g, o, cap, cur, e1, e2, e3, e4⟩
  · exact .inl h
  · exact .inr ⟨g, o, cap, cur, e1, e2, (ht.block g (Array.getElem?_eq_some_iff.1 e3).1 (hf g e2)).trans e3, e4⟩
theorem free_app {w : World} {fb : List Nat} {b : Nat} {ps : Parts} (h : FreeAt w b ps fb) (c : Nat) : FreeAt w b (ps ++ [(c, true)]) fb := by
  obtain ⟨f, h1, h2, h3, h4⟩ := h
  exact ⟨f, IM.mono h1 (by simp), fun k hk => by rw [deadFrom_app]; exact h2 k hk, h3, fun k hk => by rw [List.map_append]; exact List.mem_append_left _ (h4 k hk)⟩
section
variable {w w' : World} {p : Nat} {x : Loc} {lim : Nat} {ps : Parts} {L : List UInt8}
theorem mem_all (k : Nat) : k ∈ x.all p ↔ k = p ∨ k = x.m ∨ k = x.q ∨ k = x.bs ∨ k = x.bf ∨ k ∈ rows x.v1 ∨ k ∈ rows x.v2 ∨ k ∈ x.fb := by
  simp [Loc.all]
theorem ArAt.turn (h : ArAt w p x lim ps L) {S : List Nat} (ht : Turns S w w') (hS : ∀ k, k ∈ x.all p → ¬ k ∈ S) : ArAt w' p x lim ps L := by
  have hm := fun k hk => hS k ((mem_all k).2 hk)
  exact ⟨h.hd.turn ht (hm _ (.inl rfl)), h.mem.turn ht (hm _ (.inr (.inl rfl))) (hm _ (.inr (.inr (.inl rfl)))), row_turn h.st ht (fun g hg => hm g (by simp [hg])), row_turn h.cl ht (fun g hg => hm g (by simp [hg])),
    h.sz.turn ht (hm _ (by simp)), free_turn h.fr ht (hm _ (by simp)) (fun g hg => hm g (by simp [hg])), h.nd, fun k hk => Nat.lt_of_lt_of_le (h.fl k hk) ht.size, h.pos, h.lv, h.lm⟩
theorem ArAt.keep (h : ArAt w p x lim ps L) (hb : Below w.heap.size w w') : ArAt w' p x lim ps L := h.turn (S := []) (Turns.of_below hb) (by simp)
theorem ArAt.drew (h : ArAt w p x lim ps L) : ArAt w.drew p x lim ps L := h.keep (Below.refl _ _).drew
theorem ArAt.drewN (h : ArAt w p x lim ps L) (m : Nat) : ArAt (w.drewN m) p x lim ps L := h.keep (below_drewN (Below.refl _ _) m)
theorem ArAt.alloc (h : ArAt w p x lim ps L) (o : Obj) : ArAt (w.alloc o) p x lim ps L := h.keep ((Below.refl _ _).alloc (Nat.le_refl _) o)
theorem ArAt.cells (h : ArAt w p x lim ps L) : w.cell? ⟨p, 0, none⟩ = some (.int .i64 (lim : Int)) ∧ w.cell? ⟨p, 1, none⟩ = some (.int .i64 (liveSum ps : Int)) ∧ w.cell? ⟨p, 2, none⟩ = some (.pointer (some ⟨x.m, 0, none⟩)) ∧
    w.cell? ⟨p, 3, none⟩ = some x.v1 ∧ w.cell? ⟨p, 4, none⟩ = some x.v2 ∧ w.cell? ⟨p, 5, none⟩ = some (.map (some x.bs)) ∧ w.cell? ⟨p, 6, none⟩ = some (.map (some x.bf)) :=
  ⟨h.hd.cell 0, h.hd.cell 1, h.hd.cell 2, h.hd.cell 3, h.hd.cell 4, h.hd.cell 5, h.hd.cell 6⟩
theorem ArAt.lt (h : ArAt w p x lim ps L) (k : Nat) (hk : k ∈ x.all p) : k < w.heap.size := by
  rcases (mem_all k).1 hk with rfl | rfl | rfl | rfl | rfl | hk | hk | hk
  · exact h.hd.lt
  · exact h.mem.ptr.lt
  · exact h.mem.dat.lt
  · exact h.sz.lt
  · obtain ⟨f, h1, _⟩ := h.fr
    exact h1.lt
  · exact row_lt h.st hk
  · exact row_lt h.cl hk
  · exact h.fl k hk
theorem ArAt.endle (h : ArAt w p x lim ps L) : endOf ps ≤ 134217728 := Nat.le_trans h.mem.le h.mem.cap
theorem ArAt.len (h : ArAt w p x lim ps L) : 16 * ps.length + 16 ≤ 134217728 := by
  have := h.endle
  have := total_ge ps (fun a ha => (h.pos a ha).1)
  unfold endOf at *
  omega
theorem ar_end (h : ArAt w p x lim ps L) : Calls Try.prog 33 #[.pointer (some ⟨p, 0, none⟩)] w fun e w' => e = .returned (.int .i64 (endOf ps : Int)) ∧ w = w' := by
  obtain ⟨c0, c1, c2, c3, c4, c5, c6⟩ := h.cells
  have hm := h.mem
  clear h
  go_enter Try.func33, Try.ntmps33
  go_wp2_with (first | (go_at_call 78; refine (len_any hm).mono ?_; rintro e w' ⟨rfl, rfl⟩) | fail)
  go_ret
  exact ⟨rfl, rfl⟩
theorem ar_live (h : ArAt w p x lim ps L) : Calls Try.prog 34 #[.pointer (some ⟨p, 0, none⟩)] w fun e w' => e = .returned (.int .i64 (liveSum ps : Int)) ∧ w = w' := by
  obtain ⟨c0, c1, c2, c3, c4, c5, c6⟩ := h.cells
  clear h
  go_enter Try.func34, Try.ntmps34
  go_wp2_with fail
  go_ret
  exact ⟨rfl, rfl⟩
theorem ar_limit (h : ArAt w p x lim ps L) : Calls Try.prog 42 #[.pointer (some ⟨p, 0, none⟩)] w fun e w' => e = .returned (.int .i64 (lim : Int)) ∧ w = w' := by
  obtain ⟨c0, c1, c2, c3, c4, c5, c6⟩ := h.cells
  clear h
  go_enter Try.func42, Try.ntmps42
  go_wp2_with fail
  go_ret
  exact ⟨rfl, rfl⟩
end
theorem free_made (w : World) : FreeAt (w.alloc (.map #[] 0)) w.heap.size [] [] := ⟨_, IM.made w, fun k hk => .inl ⟨rfl, rfl⟩, fun j k u v g _ h => (by cases h), fun k h => by cases h⟩
theorem arnew_yes (lim : Nat) (w : World) (h : lim ≤ 2097152) : Calls Try.prog 19 #[.int .i64 (lim : Int)] w fun e w' =>
    ∃ p x L, e = .returned (.tuple #[.pointer (some ⟨p, 0, none⟩), .int .i64 0]) ∧ ArAt w' p x lim [] L ∧ Below w.heap.size w w' ∧ ∀ k, k ∈ x.all p → w.heap.size ≤ k := by
  have g1 : ¬ (lim : Int) < 0 := by omega
  have g2 : ¬ 2097152 < (lim : Int) := by omega
  have hmm := @run_makeMap Try.prog
  go_enter Try.func19, Try.ntmps19
  go_wp2_with (first | (go_at_call 64; refine (new_yes 16 _ (by decide)).mono ?_; rintro e w1 ⟨rfl, hm, hb⟩) | fail)
  go_ret2
  have hlt := hm.ptr.lt
  have hl2 := hb.size
  refine ⟨w1.heap.size + 1 + 1, ⟨w.heap.size + 1, w.heap.size, w1.heap.size, w1.heap.size + 1, .slice none 0 0, .slice none 0 0, []⟩, List.replicate 16 0, rfl, ⟨?_, ?_, World.ownsRow_nil _ _ _ _, World.ownsRow_nil _ _ _ _, ?_, ?_, ?_, by simp, by simp, by simp [liveSum], h⟩, ?_, ?_⟩
  · have h3 := Blk.new ((w1.alloc (.map #[] 0)).alloc (.map #[] 0)) #[.int .i64 (lim : Int), .int .i64 0, .pointer (some ⟨w.heap.size + 1, 0, none⟩), .slice none 0 0, .slice none 0 0, .map (some w1.heap.size), .map (some (w1.heap.size + 1))] 128
    simp only [World.size_alloc] at h3
    exact h3
  · exact ((hm.alloc _).alloc _).alloc _
  · exact ((IM.made w1).alloc _).alloc _
  · have h4 := free_made (w1.alloc (.map #[] 0))
    rw [World.size_alloc] at h4
    exact free_turn h4 (S := []) (Turns.of_below ((Below.refl _ _).alloc (Nat.le_refl _) _)) (by simp) (by simp)
  · refine ⟨fun k => if k = w1.heap.size + 1 + 1 then 0 else if k = w.heap.size + 1 then 1 else if k = w.heap.size then 2 else if k = w1.heap.size then 3 else 4, by simp, ?_, ?_, ?_, ?_, by simp [rows, Value.ownBlock], by simp [rows, Value.ownBlock], by simp⟩
    · simp only []; rw [if_neg (by omega), if_pos trivial]
    · simp only []; rw [if_neg (by omega), if_neg (by omega), if_pos trivial]
    · simp only []; rw [if_neg (by omega), if_neg (by omega), if_neg (by omega), if_pos trivial]
    · simp only []; rw [if_neg (by omega), if_neg (by omega), if_neg (by omega), if_neg (by omega)]
  · exact ((hb.alloc hl2 _).alloc (by simp; omega) _).alloc (by simp; omega) _
  · intro k hk
    rw [mem_all] at hk
    simp [rows, Value.ownBlock] at hk
    omega
theorem arnew_no (lim : Int) (w : World) (h : lim < 0 ∨ 2097152 < lim) : Calls Try.prog 19 #[.int .i64 lim] w fun e w' => e = .returned (.tuple #[.pointer none, .int .i64 20]) ∧ w = w' := by
  by_cases g1 : lim < 0
  · go_enter Try.func19, Try.ntmps19
    go_wp2_with fail
    go_ret2
    exact ⟨rfl, rfl⟩
  · have g2 : 2097152 < lim := by omega
    go_enter Try.func19, Try.ntmps19
    go_wp2_with fail
    go_ret2
    exact ⟨rfl, rfl⟩
end Go.Proofs.Ytpbalilnemjeeaa
