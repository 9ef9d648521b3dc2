/- What is proved here: the walk of the law CtrlRanges. Conditions: the library's table lies in memory. -/
import Derived.Test.YtakmaedimelaaaaDoorCAll
import Derived.Test.YtakmaedimelaaaaDoorCToldAll
import Derived.Maps.AppendAt
import Derived.RangeFuncBox
import Derived.OwnWalk
import Derived.Laws.EntriesVeiled
namespace Go.Proofs.YtakmaedimelaaaaDoor
set_option linter.unusedVariables false
set_option linter.unusedSimpArgs false
open Go.RowKit Pl
attribute [local go_sem] Oper.semAt_some
/-- what the walk still knows: nothing old has turned; the call's own arguments; the bound; the answer's cell -/
structure Rg (w0 : World) (a : Nat) (n : Nat) (i c t stop : Int) (W : World) : Prop where
  below : Below w0.heap.size w0 W
  ask : Blk W a #[.int .u64 n, .int .i64 i, .int .i64 c, .int .i64 t] 24
  stp : Blk W (a + 1) #[.int .i64 stop] 3
  res : Blk W (a + 2) #[.bool false] 4
  base : w0.heap.size ≤ a
section
variable {w0 W W' : World} {a n : Nat} {i c t stop : Int}
theorem Rg.keep (h : Rg w0 a n i c t stop W) (hb : Below W.heap.size W W') : Rg w0 a n i c t stop W' := ⟨Below.then h.below hb, h.ask.keep hb, h.stp.keep hb, h.res.keep hb, h.base⟩
theorem Rg.under (h : Rg w0 a n i c t stop W) {B : Nat} (hb : Below B W W') (hB : a + 3 ≤ B) : Rg w0 a n i c t stop W' := ⟨h.below.trans (hb.mono (by have := h.base; omega)), h.ask.below hb (by omega), h.stp.below hb (by omega), h.res.below hb (by omega), h.base⟩
theorem Rg.drew (h : Rg w0 a n i c t stop W) : Rg w0 a n i c t stop W.drew := h.keep (Below.refl _ _).drew
theorem Rg.drewN (h : Rg w0 a n i c t stop W) (m : Nat) : Rg w0 a n i c t stop (W.drewN m) := h.keep (below_drewN (Below.refl _ _) m)
theorem Rg.al (h : Rg w0 a n i c t stop W) (o : Obj) : Rg w0 a n i c t stop (W.alloc o) := h.keep ((Below.refl _ _).alloc (Nat.le_refl _) o)
theorem Rg.set (h : Rg w0 a n i c t stop W) (g k : Nat) (v : Value) (hg : a + 3 ≤ g) : Rg w0 a n i c t stop (W.setCell ⟨g, k, none⟩ v) :=
  ⟨h.below.setCell (p := ⟨g, k, none⟩) (by have := h.base; show w0.heap.size ≤ g; omega) v, h.ask.other g k v (by omega), h.stp.other g k v (by omega), h.res.other g k v (by omega), h.base⟩
theorem Rg.two (h : Rg w0 a n i c t stop W) : Rg w0 a n i c t stop W ∧ W.cell? ⟨a, 0, none⟩ = some (.int .u64 n) := ⟨h, h.ask.cell 0⟩
theorem Rg.all (h : Rg w0 a n i c t stop W) : Rg w0 a n i c t stop W ∧ W.cell? ⟨a, 0, none⟩ = some (.int .u64 n) ∧ W.cell? ⟨a, 1, none⟩ = some (.int .i64 i) ∧ W.cell? ⟨a, 3, none⟩ = some (.int .i64 t) := ⟨h, h.ask.cell 0, h.ask.cell 1, h.ask.cell 3⟩
end
/-- a block of eight cells, written over -/
theorem fill8 {W : World} {S : Nat} {c0 c1 c2 c3 c4 c5 c6 c7 : Value} {ty : TypeId} (h : Blk W S #[c0, c1, c2, c3, c4, c5, c6, c7] ty) (v0 v1 v2 v3 v4 v5 v6 v7 : Value) :
    Blk ((((((((W.setCell ⟨S, 0, none⟩ v0).setCell ⟨S, 1, none⟩ v1).setCell ⟨S, 2, none⟩ v2).setCell ⟨S, 3, none⟩ v3).setCell ⟨S, 4, none⟩ v4).setCell ⟨S, 5, none⟩ v5).setCell ⟨S, 6, none⟩ v6).setCell ⟨S, 7, none⟩ v7) S #[v0, v1, v2, v3, v4, v5, v6, v7] ty := by
  have h8 := (((((((h.set 0 v0).set 1 v1).set 2 v2).set 3 v3).set 4 v4).set 5 v5).set 6 v6).set 7 v7
  simpa using h8
theorem Blk.set1 {W : World} {g : Nat} {c : Value} {ty : TypeId} (h : Blk W g #[c] ty) (v : Value) : Blk (W.setCell ⟨g, 0, none⟩ v) g #[v] ty := by
  have := h.set 0 v
  simpa using this
theorem fillbs {W : World} {S : Nat} {c : Value} {ty : TypeId} (q : Nat → Bool) (h : Blk W S #[c, c, c, c, c, c, c, c] ty) :
    Blk ((((((((W.setCell ⟨S, 0, none⟩ (.bool (q 0))).setCell ⟨S, 1, none⟩ (.bool (q 1))).setCell ⟨S, 2, none⟩ (.bool (q 2))).setCell ⟨S, 3, none⟩ (.bool (q 3))).setCell ⟨S, 4, none⟩ (.bool (q 4))).setCell ⟨S, 5, none⟩ (.bool (q 5))).setCell ⟨S, 6, none⟩ (.bool (q 6))).setCell ⟨S, 7, none⟩ (.bool (q 7))) S (bs q) ty := fill8 h _ _ _ _ _ _ _ _
theorem other8 {W : World} {B S : Nat} {cs : Array Value} {ty : TypeId} (h : Blk W B cs ty) (hn : S ≠ B) (v0 v1 v2 v3 v4 v5 v6 v7 : Value) :
    Blk ((((((((W.setCell ⟨S, 0, none⟩ v0).setCell ⟨S, 1, none⟩ v1).setCell ⟨S, 2, none⟩ v2).setCell ⟨S, 3, none⟩ v3).setCell ⟨S, 4, none⟩ v4).setCell ⟨S, 5, none⟩ v5).setCell ⟨S, 6, none⟩ v6).setCell ⟨S, 7, none⟩ v7) B cs ty :=
  (((((((h.other S 0 _ hn).other S 1 _ hn).other S 2 _ hn).other S 3 _ hn).other S 4 _ hn).other S 5 _ hn).other S 6 _ hn).other S 7 _ hn
/-- and the two sets -/
structure Rs (w0 : World) (a B S : Nat) (n : Nat) (i c t stop : Int) (p : Nat → Bool) (W : World) : Prop where
  rg : Rg w0 a n i c t stop W
  bit : Blk W B #[.int .u64 (mask p : Nat)] 26
  st : Blk W S (bs p) 29
  hB : a + 3 ≤ B
  hS : a + 3 ≤ S
  ne : B ≠ S
section
variable {w0 W W' : World} {a B S n : Nat} {i c t stop : Int} {p : Nat → Bool}
theorem Rs.keep (h : Rs w0 a B S n i c t stop p W) (hb : Below W.heap.size W W') : Rs w0 a B S n i c t stop p W' := ⟨h.rg.keep hb, h.bit.keep hb, h.st.keep hb, h.hB, h.hS, h.ne⟩
theorem Rs.under (h : Rs w0 a B S n i c t stop p W) {D : Nat} (hb : Below D W W') (h1 : B < D) (h2 : S < D) : Rs w0 a B S n i c t stop p W' := ⟨h.rg.under hb (by have := h.hB; omega), h.bit.below hb h1, h.st.below hb h2, h.hB, h.hS, h.ne⟩
theorem Rs.drew (h : Rs w0 a B S n i c t stop p W) : Rs w0 a B S n i c t stop p W.drew := h.keep (Below.refl _ _).drew
theorem Rs.al (h : Rs w0 a B S n i c t stop p W) (o : Obj) : Rs w0 a B S n i c t stop p (W.alloc o) := h.keep ((Below.refl _ _).alloc (Nat.le_refl _) o)
theorem Rs.set (h : Rs w0 a B S n i c t stop p W) (g k : Nat) (v : Value) (h1 : B < g) (h2 : S < g) : Rs w0 a B S n i c t stop p (W.setCell ⟨g, k, none⟩ v) := ⟨h.rg.set g k v (by have := h.hB; omega), h.bit.other g k v (by omega), h.st.other g k v (by omega), h.hB, h.hS, h.ne⟩
theorem Rs.facts (h : Rs w0 a B S n i c t stop p W) : W.cell? ⟨B, 0, none⟩ = some (.int .u64 (mask p : Nat)) ∧ W.frozen? ⟨B, 0, none⟩ = false ∧
    W.cell? ⟨S, 0, none⟩ = some (.bool (p 0)) ∧ W.cell? ⟨S, 1, none⟩ = some (.bool (p 1)) ∧ W.cell? ⟨S, 2, none⟩ = some (.bool (p 2)) ∧ W.cell? ⟨S, 3, none⟩ = some (.bool (p 3)) ∧
    W.cell? ⟨S, 4, none⟩ = some (.bool (p 4)) ∧ W.cell? ⟨S, 5, none⟩ = some (.bool (p 5)) ∧ W.cell? ⟨S, 6, none⟩ = some (.bool (p 6)) ∧ W.cell? ⟨S, 7, none⟩ = some (.bool (p 7)) ∧ (∀ k, W.frozen? ⟨S, k, none⟩ = false) := by
  obtain ⟨s0, s1, s2, s3, s4, s5, s6, s7⟩ := cells8 h.st
  exact ⟨h.bit.cell 0, h.bit.free 0, s0, s1, s2, s3, s4, s5, s6, s7, fun k => h.st.free k⟩
theorem Rs.fill {cb c0 c1 c2 c3 c4 c5 c6 c7 : Value} (hg : Rg w0 a n i c t stop W) (hb : Blk W B #[cb] 26) (hs : Blk W S #[c0, c1, c2, c3, c4, c5, c6, c7] 29) (hB : a + 3 ≤ B) (hS : a + 3 ≤ S) (ne : B ≠ S) (q : Nat → Bool) :
    Rs w0 a B S n i c t stop q (((((((((W.setCell ⟨B, 0, none⟩ (.int .u64 (mask q : Nat))).setCell ⟨S, 0, none⟩ (.bool (q 0))).setCell ⟨S, 1, none⟩ (.bool (q 1))).setCell ⟨S, 2, none⟩ (.bool (q 2))).setCell ⟨S, 3, none⟩ (.bool (q 3))).setCell ⟨S, 4, none⟩ (.bool (q 4))).setCell ⟨S, 5, none⟩ (.bool (q 5))).setCell ⟨S, 6, none⟩ (.bool (q 6))).setCell ⟨S, 7, none⟩ (.bool (q 7))) := by
  have hb1 := hb.set 0 (.int .u64 (mask q : Nat))
  simp only [List.setIfInBounds_toArray, List.set_cons_zero] at hb1
  exact ⟨((((((((hg.set B 0 _ hB).set S 0 _ hS).set S 1 _ hS).set S 2 _ hS).set S 3 _ hS).set S 4 _ hS).set S 5 _ hS).set S 6 _ hS).set S 7 _ hS, other8 hb1 (fun e => ne e.symm) _ _ _ _ _ _ _ _, fill8 (hs.other B 0 _ ne) _ _ _ _ _ _ _ _, hB, hS, ne⟩
theorem Rg.size (h : Rg w0 a n i c t stop W) : a + 3 ≤ W.heap.size := h.res.lt
theorem Rs.f4 (hg : Rg w0 a n i c t stop W) (q : Nat → Bool) : Rs w0 a W.heap.size (W.heap.size + 1) n i c t stop q ((W.alloc (.cells #[.int .u64 (mask q : Nat)] 26)).alloc (.cells #[.bool (q 0), .bool (q 1), .bool (q 2), .bool (q 3), .bool (q 4), .bool (q 5), .bool (q 6), .bool (q 7)] 29)) := by
  have h2 := Blk.new (W.alloc (.cells #[.int .u64 (mask q : Nat)] 26)) (bs q) 29
  rw [World.size_alloc] at h2
  exact ⟨(hg.al _).al _, (Blk.new _ _ _).alloc _, h2, hg.size, by have := hg.size; omega, by omega⟩
theorem Rs.f5 (hg : Rg w0 a n i c t stop W) (q : Nat → Bool) : Rs w0 a (W.heap.size + 1) W.heap.size n i c t stop q ((W.alloc (.cells #[.bool (q 0), .bool (q 1), .bool (q 2), .bool (q 3), .bool (q 4), .bool (q 5), .bool (q 6), .bool (q 7)] 29)).alloc (.cells #[.int .u64 (mask q : Nat)] 26)) := by
  have h2 := Blk.new (W.alloc (.cells #[.bool (q 0), .bool (q 1), .bool (q 2), .bool (q 3), .bool (q 4), .bool (q 5), .bool (q 6), .bool (q 7)] 29)) #[.int .u64 (mask q : Nat)] 26
  rw [World.size_alloc] at h2
  exact ⟨(hg.al _).al _, h2, (Blk.new _ (bs q) _).alloc _, by have := hg.size; omega, hg.size, by omega⟩
theorem Rs.f2 {cb : Value} (hg : Rg w0 a n i c t stop W) (hb : Blk W B #[cb] 26) (hB : a + 3 ≤ B) (q : Nat → Bool) : Rs w0 a B W.heap.size n i c t stop q ((W.setCell ⟨B, 0, none⟩ (.int .u64 (mask q : Nat))).alloc (.cells #[.bool (q 0), .bool (q 1), .bool (q 2), .bool (q 3), .bool (q 4), .bool (q 5), .bool (q 6), .bool (q 7)] 29)) := by
  have hs : (W.setCell ⟨B, 0, none⟩ (.int .u64 (mask q : Nat))).heap.size = W.heap.size := by simp [World.setCell]
  have h2 := Blk.new (W.setCell ⟨B, 0, none⟩ (.int .u64 (mask q : Nat))) (bs q) 29
  rw [hs] at h2
  exact ⟨(hg.set B 0 _ hB).al _, (hb.set1 _).alloc _, h2, hB, hg.size, by have := hb.lt; omega⟩
theorem Rs.f3 {cc : Value} (hg : Rg w0 a n i c t stop W) (hs : Blk W S #[cc, cc, cc, cc, cc, cc, cc, cc] 29) (hS : a + 3 ≤ S) (q : Nat → Bool) : Rs w0 a W.heap.size S n i c t stop q (((((((((W.setCell ⟨S, 0, none⟩ (.bool (q 0))).setCell ⟨S, 1, none⟩ (.bool (q 1))).setCell ⟨S, 2, none⟩ (.bool (q 2))).setCell ⟨S, 3, none⟩ (.bool (q 3))).setCell ⟨S, 4, none⟩ (.bool (q 4))).setCell ⟨S, 5, none⟩ (.bool (q 5))).setCell ⟨S, 6, none⟩ (.bool (q 6))).setCell ⟨S, 7, none⟩ (.bool (q 7))).alloc (.cells #[.int .u64 (mask q : Nat)] 26)) := by
  have hz : ((((((((W.setCell ⟨S, 0, none⟩ (.bool (q 0))).setCell ⟨S, 1, none⟩ (.bool (q 1))).setCell ⟨S, 2, none⟩ (.bool (q 2))).setCell ⟨S, 3, none⟩ (.bool (q 3))).setCell ⟨S, 4, none⟩ (.bool (q 4))).setCell ⟨S, 5, none⟩ (.bool (q 5))).setCell ⟨S, 6, none⟩ (.bool (q 6))).setCell ⟨S, 7, none⟩ (.bool (q 7))).heap.size = W.heap.size := by simp [World.setCell]
  have h2 := Blk.new ((((((((W.setCell ⟨S, 0, none⟩ (.bool (q 0))).setCell ⟨S, 1, none⟩ (.bool (q 1))).setCell ⟨S, 2, none⟩ (.bool (q 2))).setCell ⟨S, 3, none⟩ (.bool (q 3))).setCell ⟨S, 4, none⟩ (.bool (q 4))).setCell ⟨S, 5, none⟩ (.bool (q 5))).setCell ⟨S, 6, none⟩ (.bool (q 6))).setCell ⟨S, 7, none⟩ (.bool (q 7))) #[.int .u64 (mask q : Nat)] 26
  rw [hz] at h2
  exact ⟨((((((((hg.set S 0 _ hS).set S 1 _ hS).set S 2 _ hS).set S 3 _ hS).set S 4 _ hS).set S 5 _ hS).set S 6 _ hS).set S 7 _ hS).al _, h2, (fillbs q hs).alloc _, hg.size, hS, by have := hs.lt; omega⟩
end
namespace Pl
def slotsTo (p : Nat → Bool) (k : Nat) : List Nat := (List.range k).filter p
theorem slotsTo_zero (p : Nat → Bool) : slotsTo p 0 = [] := rfl
theorem slotsTo_succ (p : Nat → Bool) (k : Nat) : slotsTo p (k + 1) = slotsTo p k ++ (if p k = true then [k] else []) := by
  unfold slotsTo
  rw [List.range_succ, List.filter_append]
  cases h : p k <;> simp [h]
theorem slotsTo_len (p : Nat → Bool) (k : Nat) : (slotsTo p k).length ≤ k := by
  unfold slotsTo
  exact Nat.le_trans (List.length_filter_le _ _) (by simp)
theorem slotsTo_eight (p : Nat → Bool) : slotsTo p 8 = slots p := by
  simp only [slotsTo_succ, slotsTo_zero, slots, slotsB, List.nil_append, Bool.cond_eq_ite]
/-- a slice of numbers in a block of the call's own -/
def Rowed (W : World) (v : Value) (xs : List Nat) (lo hi : Nat) : Prop :=
  (v = .slice none 0 0 ∧ xs = []) ∨ ∃ g cap, lo ≤ g ∧ g < hi ∧ v = .slice (some ⟨g, 0, none⟩) xs.length cap ∧ ∀ (k x : Nat), xs[k]? = some x → W.cell? ⟨g, k, none⟩ = some (.int .i64 (x : Int))
theorem Rowed.of {W : World} {v : Value} {xs : List Nat} {base : Nat} (h : W.ownsRow base 3 1 v xs.length (xs.map fun x : Nat => Value.int .i64 (x : Int))) : Rowed W v xs base W.heap.size := by
  rcases h.2 with ⟨rfl, h0⟩ | ⟨g, cap, cur, rfl, hb, hgb, hr⟩
  · exact .inl ⟨rfl, List.length_eq_zero_iff.1 h0⟩
  · refine .inr ⟨g, cap, hb, (Array.getElem?_eq_some_iff.1 hgb).1, rfl, fun k x hk => ?_⟩
    have := h.cells (g := g) rfl k (.int .i64 (x : Int)) (by rw [List.getElem?_map, hk]; rfl)
    cases k with
    | zero => simpa [Addr.add] using this
    | succ k => simpa [Addr.add] using this
theorem Rowed.under {W W' : World} {v : Value} {xs : List Nat} {lo hi B : Nat} (h : Rowed W v xs lo hi) (hb : Below B W W') (hB : hi ≤ B) : Rowed W' v xs lo hi := by
  rcases h with h | ⟨g, cap, h1, h2, h3, h4⟩
  · exact .inl h
  · exact .inr ⟨g, cap, h1, h2, h3, fun k x hk => (hb.cell (p := ⟨g, k, none⟩) (by show g < B; omega)).trans (h4 k x hk)⟩
theorem Rowed.set {W : World} {v : Value} {xs : List Nat} {lo hi : Nat} (h : Rowed W v xs lo hi) (g i : Nat) (u : Value) (hg : hi ≤ g) : Rowed (W.setCell ⟨g, i, none⟩ u) v xs lo hi := by
  rcases h with h | ⟨g', cap, h1, h2, h3, h4⟩
  · exact .inl h
  · exact .inr ⟨g', cap, h1, h2, h3, fun k x hk => (World.cell?_setCell_far _ _ _ _ (by show g ≠ g'; omega)).trans (h4 k x hk)⟩
end Pl
/-- what lies ahead of the loops over the function -/
structure Rt (w0 : World) (a B S A7 Bn Q : Nat) (n : Nat) (i c t stop : Int) (p : Nat → Bool) (v : Value) (W : World) : Prop where
  rs : Rs w0 a B S n i c t stop p W
  al : Blk W A7 #[v] 33
  row : Rowed W v (slots p) A7 Bn
  bx : Blk W Bn #[.int .u64 (mask p : Nat)] 26
  sq : Blk W Q #[.func (.func 29) #[] #[.pointer (some ⟨Bn, 0, none⟩)]] 35
  o1 : B < A7
  o2 : S < A7
  o3 : A7 < Bn
  o4 : Bn < Q
section
variable {w0 W W' : World} {a B S A7 Bn Q n : Nat} {i c t stop : Int} {p : Nat → Bool} {v : Value}
theorem Rt.under (h : Rt w0 a B S A7 Bn Q n i c t stop p v W) {D : Nat} (hb : Below D W W') (hD : Q < D) : Rt w0 a B S A7 Bn Q n i c t stop p v W' := by
  have := h.o1; have := h.o2; have := h.o3; have := h.o4
  exact ⟨h.rs.under hb (by omega) (by omega), h.al.below hb (by omega), h.row.under hb (by omega), h.bx.below hb (by omega), h.sq.below hb hD, h.o1, h.o2, h.o3, h.o4⟩
theorem Rt.keep (h : Rt w0 a B S A7 Bn Q n i c t stop p v W) (hb : Below W.heap.size W W') : Rt w0 a B S A7 Bn Q n i c t stop p v W' := h.under hb h.sq.lt
theorem Rt.set (h : Rt w0 a B S A7 Bn Q n i c t stop p v W) (g k : Nat) (u : Value) (hg : Q < g) : Rt w0 a B S A7 Bn Q n i c t stop p v (W.setCell ⟨g, k, none⟩ u) := by
  have := h.o1; have := h.o2; have := h.o3; have := h.o4
  exact ⟨h.rs.set g k u (by omega) (by omega), h.al.other g k u (by omega), h.row.set g k u (by omega), h.bx.other g k u (by omega), h.sq.other g k u (by omega), h.o1, h.o2, h.o3, h.o4⟩
end
theorem infoInt : (Tryd.prog.info? 3).map (fun i => (i.zero, i.size, i.bytes)) = some (some (.int .i64 0), 1, 8) := by kernel_rfl
section
variable (w : World)
theorem run_equalIn_func_nil (d : Nat) (fn : Fn) (first captured : Array Value) : (Op.equalIn (d + 1) 35 (.func fn first captured) .nilFunc).run Tryd.prog w = .ok false w := by
  simp [Op.equalIn, run_underlying Tryd.underlying35]
theorem run_eql_func_nil (fn : Fn) (first captured : Array Value) : (binOp .eql 35 (.func fn first captured) .nilFunc).run Tryd.prog w = .ok (.bool false) w := by
  simp only [binOp]
  simp [show Op.equal 35 (.func fn first captured) .nilFunc = Op.equalIn (9999 + 1) 35 (.func fn first captured) .nilFunc from rfl, run_equalIn_func_nil w 9999]
end
theorem Stays.low {B D : Nat} {W W1 W2 : World} (h : Stays B W W1) (hb : Below D W1 W2) (hD : W.heap.size ≤ D) : Stays B W W2 := ⟨Nat.le_trans h.1 hb.size, fun k hk hl => (hb.block k (by omega)).trans (h.2 k hk hl)⟩
theorem Stays.set2 {B : Nat} {W W1 : World} (h : Stays B W W1) (g i : Nat) (v : Value) (hg : W.heap.size ≤ g) : Stays B W (W1.setCell ⟨g, i, none⟩ v) :=
  ⟨by simpa [World.setCell] using h.1, fun k hk hl => (Below.heap_setCell W1 ⟨g, i, none⟩ v k (by show k ≠ g; omega)).trans (h.2 k hk hl)⟩
theorem is_lit (p : Nat → Bool) (w : World) : Calls Tryd.prog 15 #[.agg #[.int .u64 (mask p : Nat)], .agg #[.bool (p 0), .bool (p 1), .bool (p 2), .bool (p 3), .bool (p 4), .bool (p 5), .bool (p 6), .bool (p 7)]] w fun e w' => e = .returned (.bool true) ∧ Below w.heap.size w w' := is_any p w
theorem results_boolcell {fn : Func} {q : Tmp} (h : fn.results = #[.cell q 4]) (tmps : Array Value) (w : World) (g : Nat) (b : Bool) (hp : tmps.getD q undef = .pointer (some ⟨g, 0, none⟩)) (hc : w.cell? ⟨g, 0, none⟩ = some (.bool b)) : (results fn tmps).run Tryd.prog w = .ok (.bool b) w := by
  have hp' : tmps[q]?.getD undef = .pointer (some ⟨g, 0, none⟩) := by simpa using hp
  simp [results, h, hp', asAddr, go_sem, hc, Tryd.underlying4, Result.andThen]
theorem closed {w W : World} {a B S A7 Bn Q n D D2 : Nat} {i c t stop : Int} {p : Nat → Bool} {v : Value} {tmps : Array Value} (hT : Rt w a B S A7 Bn Q n i c t stop p v W) (hDD : D ≠ D2)
    (hK : W.heap[D]? = some (.deferred (some []))) (hK2 : W.heap[D2]? = some (.deferred (some []))) (hD2 : D < D2) (hD : a + 3 ≤ D) (hp : tmps.getD 4 undef = .pointer (some ⟨a + 2, 0, none⟩)) :
    bodyPostM Fence.wide 9 Tryd.prog Tryd.f3 (fun e w' => e = .returned (.bool true) ∧ Below w.heap.size w w') .ret
      { tmps := tmps, defers := [{ target := .collected D2, args := #[] }, { target := .collected D, args := #[] }] } (W.setCell ⟨a + 1 + 1, 0, none⟩ (.bool true)) := by
  have hbase := hT.rs.rg.base
  have h2 : (W.setCell ⟨a + 1 + 1, 0, none⟩ (.bool true)).heap[D2]? = some (.deferred (some [])) := (Below.heap_setCell W ⟨a + 1 + 1, 0, none⟩ _ D2 (by show D2 ≠ a + 1 + 1; omega)).trans hK2
  have h1 : ((W.setCell ⟨a + 1 + 1, 0, none⟩ (.bool true)).putObj D2 (.deferred none)).heap[D]? = some (.deferred (some [])) :=
    (World.putObj_heap_other (by omega)).trans ((Below.heap_setCell W ⟨a + 1 + 1, 0, none⟩ _ D (by show D ≠ a + 1 + 1; omega)).trans hK)
  have hR : Blk (W.setCell ⟨a + 1 + 1, 0, none⟩ (.bool true)) (a + 2) #[.bool true] 4 := hT.rs.rg.res.set1 _
  have hR2 : Blk (((W.setCell ⟨a + 1 + 1, 0, none⟩ (.bool true)).putObj D2 (.deferred none)).putObj D (.deferred none)) (a + 2) #[.bool true] 4 :=
    (World.putObj_heap_other (by omega)).trans ((World.putObj_heap_other (by omega)).trans hR)
  have hb : Below w.heap.size w (W.setCell ⟨a + 1 + 1, 0, none⟩ (.bool true)) := hT.rs.rg.below.setCell (p := ⟨a + 1 + 1, 0, none⟩) (by show w.heap.size ≤ a + 1 + 1; omega) _
  have hb2 := hb.trans (below_put _ D2 (.deferred none) (B := w.heap.size) (by omega) (Array.getElem?_eq_some_iff.1 h2).1)
  have hb3 := hb2.trans (below_put _ D (.deferred none) (B := w.heap.size) (by omega) (Array.getElem?_eq_some_iff.1 h1).1)
  refine ⟨by simp, .inl ⟨_, _, rfl, run_takeDeferred h2, ⟨by simp, .inl ⟨_, _, rfl, run_takeDeferred h1, ?_⟩⟩⟩⟩
  exact ⟨_, results_boolcell rfl _ _ (a + 2) true hp (hR2.cell 0), rfl, hb3⟩
theorem rmatch_lit (n : Nat) (t : Int) (w : World) (h : n < 18446744073709551616) (p : Nat → Bool) (hp : matF n t = p) : Calls Tryd.prog 7 #[.int .u64 n, .int .i64 t] w fun e w' => e = .returned (.agg #[.bool (p 0), .bool (p 1), .bool (p 2), .bool (p 3), .bool (p 4), .bool (p 5), .bool (p 6), .bool (p 7)]) ∧ Below w.heap.size w w' := by
  subst hp; exact rmatch_any n t w h
theorem match_lit (n : Nat) (t : Int) (w : World) (h : n < 18446744073709551616) (p : Nat → Bool) (hp : matF n t = p) : Calls Tryd.prog 6 #[.int .u64 n, .int .i64 t] w fun e w' => e = .returned (.agg #[.int .u64 ((mask p : Nat) : Int)]) ∧ Below w.heap.size w w' := by
  subst hp; exact match_any n t w h
theorem rmatchFull_lit (n : Nat) (w : World) (h : n < 18446744073709551616) (p : Nat → Bool) (hp : ful n = p) : Calls Tryd.prog 9 #[.int .u64 n] w fun e w' => e = .returned (.agg #[.bool (p 0), .bool (p 1), .bool (p 2), .bool (p 3), .bool (p 4), .bool (p 5), .bool (p 6), .bool (p 7)]) ∧ Below w.heap.size w w' := by
  subst hp; exact rmatchFull_any n w h
theorem matchFull_lit (n : Nat) (w : World) (h : n < 18446744073709551616) (p : Nat → Bool) (hp : ful n = p) : Calls Tryd.prog 8 #[.int .u64 n] w fun e w' => e = .returned (.agg #[.int .u64 ((mask p : Nat) : Int)]) ∧ Below w.heap.size w w' := by
  subst hp; exact matchFull_any n w h
theorem rmatchVacant_lit (n : Nat) (w : World) (h : n < 18446744073709551616) (p : Nat → Bool) (hp : vac n = p) : Calls Tryd.prog 11 #[.int .u64 n] w fun e w' => e = .returned (.agg #[.bool (p 0), .bool (p 1), .bool (p 2), .bool (p 3), .bool (p 4), .bool (p 5), .bool (p 6), .bool (p 7)]) ∧ Below w.heap.size w w' := by
  subst hp; exact rmatchVacant_any n w h
theorem matchVacant_lit (n : Nat) (w : World) (h : n < 18446744073709551616) (p : Nat → Bool) (hp : vac n = p) : Calls Tryd.prog 10 #[.int .u64 n] w fun e w' => e = .returned (.agg #[.int .u64 ((mask p : Nat) : Int)]) ∧ Below w.heap.size w w' := by
  subst hp; exact matchVacant_any n w h
theorem rmatchEmpty_lit (n : Nat) (w : World) (h : n < 18446744073709551616) (p : Nat → Bool) (hp : mat n 128 = p) : Calls Tryd.prog 13 #[.int .u64 n] w fun e w' => e = .returned (.agg #[.bool (p 0), .bool (p 1), .bool (p 2), .bool (p 3), .bool (p 4), .bool (p 5), .bool (p 6), .bool (p 7)]) ∧ Below w.heap.size w w' := by
  subst hp; exact rmatchEmpty_any n w h
theorem matchEmpty_lit (n : Nat) (w : World) (h : n < 18446744073709551616) (p : Nat → Bool) (hp : mat n 128 = p) : Calls Tryd.prog 12 #[.int .u64 n] w fun e w' => e = .returned (.agg #[.int .u64 ((mask p : Nat) : Int)]) ∧ Below w.heap.size w w' := by
  subst hp; exact matchEmpty_any n w h
theorem zero8 {W : World} {S : Nat} (h : Blk W S #[.bool false, .bool false, .bool false, .bool false, .bool false, .bool false, .bool false, .bool false] 29) :
    W.cell? ⟨S, 0, none⟩ = some (.bool false) ∧ W.cell? ⟨S, 1, none⟩ = some (.bool false) ∧ W.cell? ⟨S, 2, none⟩ = some (.bool false) ∧ W.cell? ⟨S, 3, none⟩ = some (.bool false) ∧ W.cell? ⟨S, 4, none⟩ = some (.bool false) ∧ W.cell? ⟨S, 5, none⟩ = some (.bool false) ∧ W.cell? ⟨S, 6, none⟩ = some (.bool false) ∧ W.cell? ⟨S, 7, none⟩ = some (.bool false) :=
  ⟨h.cell 0, h.cell 1, h.cell 2, h.cell 3, h.cell 4, h.cell 5, h.cell 6, h.cell 7⟩
set_option maxHeartbeats 20000000 in
set_option maxRecDepth 100000 in
theorem ranges_all (n : Nat) (i c t stop : Int) (w : World) (hTab : Tab w) (h : n < 18446744073709551616) :
    Calls Tryd.prog 3 #[.agg #[.int .u64 n, .int .i64 i, .int .i64 c, .int .i64 t], .int .i64 stop] w fun e w' => e = .returned (.bool true) ∧ Below w.heap.size w w' := by
  refine callsIn_wide.1 (callsIn_of_wp_marks (n := 9) Tryd.func3 rfl trivial (wpIn_wide.2 ?_) rfl)
  simp only [Tryd.ntmps3, List.size_toArray, List.length_cons, List.length_nil, Nat.reduceAdd, Nat.reduceSub, Array.replicate_succ, Array.replicate_zero, List.push_toArray, List.append_toArray, List.nil_append, List.cons_append]
  replace hTab := Lib.hid hTab
  have hA := Blk.new w #[.int .u64 n, .int .i64 i, .int .i64 c, .int .i64 t] 24
  go_upto_region 1 with (fail)
  have hR : Rg w w.heap.size n i c t stop (((w.alloc (.cells #[.int .u64 n, .int .i64 i, .int .i64 c, .int .i64 t] 24)).alloc (.cells #[.int .i64 stop] 3)).alloc (.cells #[.bool false] 4)) := by
    have h2 := Blk.new (w.alloc (.cells #[.int .u64 n, .int .i64 i, .int .i64 c, .int .i64 t] 24)) #[.int .i64 stop] 3
    have h3 := Blk.new ((w.alloc (.cells #[.int .u64 n, .int .i64 i, .int .i64 c, .int .i64 t] 24)).alloc (.cells #[.int .i64 stop] 3)) #[.bool false] 4
    simp only [World.size_alloc] at h2 h3
    exact ⟨((((Below.refl _ _).alloc (Nat.le_refl _) _).alloc (by simp) _).alloc (by simp; omega) _), (hA.alloc _).alloc _, h2.alloc _, h3, Nat.le_refl _⟩
  obtain ⟨a, ha⟩ : ∃ a, Hid (a = w.heap.size) := ⟨_, rfl⟩
  have hR2 : Rg w a n i c t stop (((w.alloc (.cells #[.int .u64 n, .int .i64 i, .int .i64 c, .int .i64 t] 24)).alloc (.cells #[.int .i64 stop] 3)).alloc (.cells #[.bool false] 4)) := by rw [ha.out]; exact hR
  rw [← ha.out]
  clear hR hA
  generalize World.alloc _ (.cells #[.bool false] _) = wz at hR2 ⊢
  have hX := hR2
  clear hR2
  go_cut [5, 6] from 16 (fun v5 v6 wc => ∃ B S p, v5 = .pointer (some ⟨B, 0, none⟩) ∧ v6 = .pointer (some ⟨S, 0, none⟩) ∧ Hid (Rs w a B S n i c t stop p wc))
  case first =>
    obtain ⟨_, q0, q1, q3⟩ := hX.all
    obtain ⟨pm, hpm⟩ : ∃ p, Hid (matF n t = p) := ⟨_, rfl⟩
    go_region_held3 (fun w' => Rg w a n i c t stop w' ∧ w'.cell? ⟨a, 0, none⟩ = some (.int .u64 n) ∧ w'.cell? ⟨a, 1, none⟩ = some (.int .i64 i) ∧ w'.cell? ⟨a, 3, none⟩ = some (.int .i64 t))
      (first | with_reducible exact hX.all | with_reducible exact hX.drew.all | (with_reducible refine Rg.all ?_; have hlt9 := hX.res.lt; repeat (first | with_reducible exact hX | with_reducible refine Rg.drew ?_ | with_reducible refine Rg.al ?_ _ | (with_reducible refine Rg.set ?_ _ _ _ (by first | omega | (simp only [World.size_alloc]; omega))))))
      ((first
        | (go_at_call 6; (with_reducible refine (match_lit n t _ h pm hpm.out).mono ?_); rintro e w' ⟨rfl, hb⟩; have hz := hX.res.lt; have hs9 := hb.size; (first | (replace hX := hX.keep hb) | (replace hX := hX.drew.keep hb) | (replace hX := (hX.al _).keep hb) | (replace hX := ((hX.al _).al _).keep hb) | (replace hX := (hX.drew.al _).keep hb) | (replace hX := ((hX.drew.al _).al _).keep hb)); (try (first | (replace k5 := k5.keep hb) | (replace k5 := (k5.alloc _).keep hb) | (replace k5 := ((k5.alloc _).alloc _).keep hb))); (try (first | (replace k6 := k6.keep hb) | (replace k6 := (k6.alloc _).keep hb) | (replace k6 := ((k6.alloc _).alloc _).keep hb))); (try (first | (have k5 := (Blk.new _ #[.int .u64 0] 26).keep hb) | (have k5 := ((Blk.new _ #[.int .u64 0] 26).alloc _).keep hb) | (have k5 := (Blk.new _ #[.int .u64 0] 26).drew.keep hb) | (have k5 := ((Blk.new _ #[.int .u64 0] 26).alloc _).drew.keep hb))); (try (first | (have k6 := (Blk.new _ #[.bool false, .bool false, .bool false, .bool false, .bool false, .bool false, .bool false, .bool false] 29).keep hb) | (have k6 := ((Blk.new _ #[.bool false, .bool false, .bool false, .bool false, .bool false, .bool false, .bool false, .bool false] 29).alloc _).keep hb) | (have k6 := (Blk.new _ #[.bool false, .bool false, .bool false, .bool false, .bool false, .bool false, .bool false, .bool false] 29).drew.keep hb) | (have k6 := ((Blk.new _ #[.bool false, .bool false, .bool false, .bool false, .bool false, .bool false, .bool false, .bool false] 29).alloc _).drew.keep hb))); (try simp only [World.size_alloc] at k5); (try simp only [World.size_alloc] at k6); (try have l5 := k5.lt); (try have l6 := k6.lt); (try have c5 := k5.cell 0); (try have f5 := k5.free 0); (try (have s9 := zero8 k6; obtain ⟨s0, s1, s2, s3, s4, s5, s6, s7⟩ := s9)); (try have f6 := fun k => k6.free k))
        | (go_at_call 7; (with_reducible refine (rmatch_lit n t _ h pm hpm.out).mono ?_); rintro e w' ⟨rfl, hb⟩; have hz := hX.res.lt; have hs9 := hb.size; (first | (replace hX := hX.keep hb) | (replace hX := hX.drew.keep hb) | (replace hX := (hX.al _).keep hb) | (replace hX := ((hX.al _).al _).keep hb) | (replace hX := (hX.drew.al _).keep hb) | (replace hX := ((hX.drew.al _).al _).keep hb)); (try (first | (replace k5 := k5.keep hb) | (replace k5 := (k5.alloc _).keep hb) | (replace k5 := ((k5.alloc _).alloc _).keep hb))); (try (first | (replace k6 := k6.keep hb) | (replace k6 := (k6.alloc _).keep hb) | (replace k6 := ((k6.alloc _).alloc _).keep hb))); (try (first | (have k5 := (Blk.new _ #[.int .u64 0] 26).keep hb) | (have k5 := ((Blk.new _ #[.int .u64 0] 26).alloc _).keep hb) | (have k5 := (Blk.new _ #[.int .u64 0] 26).drew.keep hb) | (have k5 := ((Blk.new _ #[.int .u64 0] 26).alloc _).drew.keep hb))); (try (first | (have k6 := (Blk.new _ #[.bool false, .bool false, .bool false, .bool false, .bool false, .bool false, .bool false, .bool false] 29).keep hb) | (have k6 := ((Blk.new _ #[.bool false, .bool false, .bool false, .bool false, .bool false, .bool false, .bool false, .bool false] 29).alloc _).keep hb) | (have k6 := (Blk.new _ #[.bool false, .bool false, .bool false, .bool false, .bool false, .bool false, .bool false, .bool false] 29).drew.keep hb) | (have k6 := ((Blk.new _ #[.bool false, .bool false, .bool false, .bool false, .bool false, .bool false, .bool false, .bool false] 29).alloc _).drew.keep hb))); (try simp only [World.size_alloc] at k5); (try simp only [World.size_alloc] at k6); (try have l5 := k5.lt); (try have l6 := k6.lt); (try have c5 := k5.cell 0); (try have f5 := k5.free 0); (try (have s9 := zero8 k6; obtain ⟨s0, s1, s2, s3, s4, s5, s6, s7⟩ := s9)); (try have f6 := fun k => k6.free k))))
    all_goals
      clear ha q0 q1 q3 hpm hTab
      go_wp2_with fail
      go_meet
      case rel =>
        have hz9 := hX.res.lt
        refine ⟨_, _, pm, rfl, rfl, ?_⟩
        have hz8 : a + 3 ≤ w'.heap.size := hz9
        refine Lib.hid ?_
        first
          | with_reducible exact Rs.f4 hX pm
          | with_reducible exact Rs.f5 hX pm
          | (with_reducible refine Rs.f2 hX k5 ?_ pm; omega)
          | (with_reducible refine Rs.f3 hX k6 ?_ pm; omega)
          | (with_reducible refine Rs.fill hX k5 k6 ?_ ?_ ?_ pm <;> omega)
  case rest =>
    obtain ⟨B, S, pm, rfl, rfl, hS⟩ := hcut
    clear hX
    replace hS := hS.out
    obtain ⟨_, q0, q1, q3⟩ := hS.rg.all
    go_upto_block 0 with (fail)
    go_cut [28] from 28 (fun v wc => Hid (∃ p, Rs w a B S n i c t stop p wc))
    case first =>
      by_cases h0 : i = 0
      · subst h0
        go_upto_region 4 with (fail)
        obtain ⟨pm2, hpm2⟩ : ∃ p, Hid (ful n = p) := ⟨_, rfl⟩
        have hne := hS.ne
        have hB9 := hS.hB
        have hS9 := hS.hS
        have hX := hS.rg
        obtain ⟨_, q0, q1, q3⟩ := hX.all
        go_region_held3 (fun w' => Rg w a n 0 c t stop w' ∧ w'.cell? ⟨a, 0, none⟩ = some (.int .u64 n))
          (first | with_reducible exact hX.two | with_reducible exact hX.drew.two | (with_reducible refine Rg.two ?_; repeat (first | with_reducible exact hX | with_reducible refine Rg.drew ?_ | (with_reducible refine Rg.set ?_ _ _ _ (by omega)))))
          ((first
            | (go_at_call 8; (with_reducible refine (matchFull_lit n _ h pm2 hpm2.out).mono ?_); rintro e w' ⟨rfl, hb⟩; (first | (replace hS := hS.keep hb) | (replace hS := hS.drew.keep hb)); have hX := hS.rg; obtain ⟨b0, bf, s0, s1, s2, s3, s4, s5, s6, s7, sf⟩ := hS.facts)
            | (go_at_call 9; (with_reducible refine (rmatchFull_lit n _ h pm2 hpm2.out).mono ?_); rintro e w' ⟨rfl, hb⟩; (first | (replace hS := hS.keep hb) | (replace hS := hS.drew.keep hb)); have hX := hS.rg; obtain ⟨b0, bf, s0, s1, s2, s3, s4, s5, s6, s7, sf⟩ := hS.facts)))
        all_goals
          go_wp2_with fail
          go_meet
          case rel => exact ⟨pm2, Rs.fill hS.rg hS.bit hS.st hS.hB hS.hS hS.ne pm2⟩
      by_cases h1 : i = 1
      · subst h1
        go_upto_region 6 with (fail)
        obtain ⟨pm2, hpm2⟩ : ∃ p, Hid (vac n = p) := ⟨_, rfl⟩
        have hne := hS.ne
        have hB9 := hS.hB
        have hS9 := hS.hS
        have hX := hS.rg
        obtain ⟨_, q0, q1, q3⟩ := hX.all
        go_region_held3 (fun w' => Rg w a n 1 c t stop w' ∧ w'.cell? ⟨a, 0, none⟩ = some (.int .u64 n))
          (first | with_reducible exact hX.two | with_reducible exact hX.drew.two | (with_reducible refine Rg.two ?_; repeat (first | with_reducible exact hX | with_reducible refine Rg.drew ?_ | (with_reducible refine Rg.set ?_ _ _ _ (by omega)))))
          ((first
            | (go_at_call 10; (with_reducible refine (matchVacant_lit n _ h pm2 hpm2.out).mono ?_); rintro e w' ⟨rfl, hb⟩; (first | (replace hS := hS.keep hb) | (replace hS := hS.drew.keep hb)); have hX := hS.rg; obtain ⟨b0, bf, s0, s1, s2, s3, s4, s5, s6, s7, sf⟩ := hS.facts)
            | (go_at_call 11; (with_reducible refine (rmatchVacant_lit n _ h pm2 hpm2.out).mono ?_); rintro e w' ⟨rfl, hb⟩; (first | (replace hS := hS.keep hb) | (replace hS := hS.drew.keep hb)); have hX := hS.rg; obtain ⟨b0, bf, s0, s1, s2, s3, s4, s5, s6, s7, sf⟩ := hS.facts)))
        all_goals
          go_wp2_with fail
          go_meet
          case rel => exact ⟨pm2, Rs.fill hS.rg hS.bit hS.st hS.hB hS.hS hS.ne pm2⟩
      by_cases h2 : i = 2
      · subst h2
        go_upto_region 8 with (fail)
        obtain ⟨pm2, hpm2⟩ : ∃ p, Hid (mat n 128 = p) := ⟨_, rfl⟩
        have hne := hS.ne
        have hB9 := hS.hB
        have hS9 := hS.hS
        have hX := hS.rg
        obtain ⟨_, q0, q1, q3⟩ := hX.all
        go_region_held3 (fun w' => Rg w a n 2 c t stop w' ∧ w'.cell? ⟨a, 0, none⟩ = some (.int .u64 n))
          (first | with_reducible exact hX.two | with_reducible exact hX.drew.two | (with_reducible refine Rg.two ?_; repeat (first | with_reducible exact hX | with_reducible refine Rg.drew ?_ | (with_reducible refine Rg.set ?_ _ _ _ (by omega)))))
          ((first
            | (go_at_call 12; (with_reducible refine (matchEmpty_lit n _ h pm2 hpm2.out).mono ?_); rintro e w' ⟨rfl, hb⟩; (first | (replace hS := hS.keep hb) | (replace hS := hS.drew.keep hb)); have hX := hS.rg; obtain ⟨b0, bf, s0, s1, s2, s3, s4, s5, s6, s7, sf⟩ := hS.facts)
            | (go_at_call 13; (with_reducible refine (rmatchEmpty_lit n _ h pm2 hpm2.out).mono ?_); rintro e w' ⟨rfl, hb⟩; (first | (replace hS := hS.keep hb) | (replace hS := hS.drew.keep hb)); have hX := hS.rg; obtain ⟨b0, bf, s0, s1, s2, s3, s4, s5, s6, s7, sf⟩ := hS.facts)))
        all_goals
          go_wp2_with fail
          go_meet
          case rel => exact ⟨pm2, Rs.fill hS.rg hS.bit hS.st hS.hB hS.hS hS.ne pm2⟩
      go_wp2_with fail
      go_meet
      case rel => exact ⟨pm, hS⟩
    case rest =>
      obtain ⟨p, hS⟩ := hcut.out
      clear hcut q0 q1 q3
      have hBA := hS.bit.lt
      have hSA := hS.st.lt
      obtain ⟨A7, hA7⟩ : ∃ A, Hid (A = wc.heap.size) := ⟨_, rfl⟩
      have hv0 : Boxed (wc.alloc (.cells #[.slice none 0 0] 33)) A7 33 (.slice none 0 0) := by rw [hA7.out]; exact Boxed.new _ _ _
      have hS0 := hS.al (.cells #[.slice none 0 0] 33)
      have hA0 : (wc.alloc (.cells #[.slice none 0 0] 33)).heap.size = A7 + 1 := by rw [hA7.out]; simp
      obtain ⟨i0, hi, hz0, hz1, hz2⟩ := info_parts infoInt
      replace hi := Lib.hid hi
      replace hz0 := Lib.hid hz0
      replace hz1 := Lib.hid hz1
      replace hz2 := Lib.hid hz2
      go_wp2_with fail
      rw [← hA7.out] at hBA hSA ⊢
      generalize wc.alloc (.cells #[.slice none 0 0] 33) = wq at hv0 hS0 hA0 ⊢
      clear hS
      go_loopw [8] (fun iv wr => ∃ (k : Nat) (v : Value), k ≤ 8 ∧ iv = .int .i64 k ∧ Boxed wr A7 33 v ∧ Hid (wr.ownsRow A7 3 1 v (slotsTo p k).length ((slotsTo p k).map fun x : Nat => Value.int .i64 (x : Int))) ∧ Hid (v = .slice none 0 0 ↔ slotsTo p k = []) ∧ Hid (Below A7 wq wr)) (fun iv _ => (8 - intOf iv).toNat)
      case atStart => exact ⟨0, _, by decide, rfl, hv0, World.ownsRow_nil _ _ _ _, ⟨fun _ => rfl, fun _ => rfl⟩, Below.refl _ _⟩
      case round =>
        obtain ⟨k, v, hk, rfl, hv, hrow, hnil, hbl⟩ := hrel
        have hSr : Rs w a B S n i c t stop p wr := hS0.under hbl.out hBA hSA
        by_cases hlt : k < 8
        · obtain ⟨b, hpk⟩ : ∃ b, Hid (p k = b) := ⟨_, rfl⟩
          have ck : wr.cell? ⟨S, k, none⟩ = some (.bool b) := by rw [hSr.st.cell k, bs_get _ _ hlt, hpk.out]
          have k0 : (0 : Int) ≤ k := by omega
          have k8 : (k : Int) < 8 := by omega
          have hcv := hv.cell
          have hfv := hv.frozen
          have hwz : A7 < wr.heap.size := hv.lt
          cases b with
          | true =>
            have hlen := slotsTo_len p k
            go_wp2_with (first
              | (at_builtin; refine wpList_append_own _ rfl _ _ 33 rfl A7 3 i0 (.int .i64 0) 1 8 Tryd.underlying33 hi.out hz0.out hz1.out hz2.out rfl (by decide) _ _ _ rfl (hrow.out.alloc _) ⟨wr.heap.size, 0, none⟩ 1 1 [.int .i64 (k : Int)] rfl rfl (cell_one_new _ _ _) (by simp [Value.oneCell']) (by unfold maxLen; omega) (by omega) (by simp; omega) ?_; intro v' w1 hown' hgrow hnn; obtain ⟨g', cap', rfl⟩ := ownsRow_succ hown'; obtain ⟨hv1, hv2, hr2, hk2, hb2⟩ := hv.appended (by decide) hrow.out (by omega) (Nat.le_refl _) hown' hgrow; have hc1 := hv1.cell; have hf1 := hv1.frozen)
              | fail)
            have e1 : slotsTo p (k + 1) = slotsTo p k ++ [k] := by rw [slotsTo_succ, hpk.out]; rfl
            refine ⟨⟨k + 1, _, by omega, by go_num, hv2, ?_, ⟨fun e => (by cases e), fun e => (by rw [e1] at e; simp at e)⟩, hbl.out.trans hb2⟩, by simp [intOf]; omega⟩
            rw [e1, List.length_append, List.map_append]
            exact hr2
          | false =>
            have e1 : slotsTo p (k + 1) = slotsTo p k := by rw [slotsTo_succ, hpk.out]; simp
            go_wp2_with fail
            exact ⟨⟨k + 1, v, by omega, by go_num, hv, by rw [e1]; exact hrow, by rw [e1]; exact hnil, hbl⟩, by simp [intOf]; omega⟩
        · obtain rfl : k = 8 := by omega
          rw [show (((8 : Nat) : Int)) = 8 from rfl]
          have hro : Rowed wr v (slots p) A7 wr.heap.size := by
            have h9 := hrow.out
            rw [slotsTo_eight] at h9
            exact Rowed.of h9
          have hBc := hSr.bit.cell 0
          have hAl := hv
          have hA7r := hv.lt
          obtain ⟨Bn, hBn⟩ : ∃ b, Hid (b = wr.heap.size) := ⟨_, rfl⟩
          clear hrow hnil hbl hv hv0 hS0 hA0 hi hz0 hz1 hz2
          have hfn := fun w => run_eql_func_nil w (.func 29) #[] #[.pointer (some ⟨Bn, 0, none⟩)]
          go_upto_block 3 with (first
            | (go_at_call 14; (with_reducible refine (all_any p _).mono ?_); rintro e w2 ⟨rfl, hb2, hbx⟩; rw [← hBn.out] at hbx ⊢; have hz2 := hbx.lt; have hs2 := hb2.size)
            | fail)
          have hbW : Below Bn wr ((w2.alloc (.cells #[.func (.func 29) #[] #[.pointer (some ⟨Bn, 0, none⟩)]] 35)).alloc (.cells #[.int .i64 0] 3)) := by
            rw [hBn.out]
            exact (hb2.alloc hs2 _).alloc (by simp; omega) _
          obtain ⟨Q, hQ⟩ : ∃ Q, Hid (Q = w2.heap.size) := ⟨_, rfl⟩
          have hT : Rt w a B S A7 Bn Q n i c t stop p v ((w2.alloc (.cells #[.func (.func 29) #[] #[.pointer (some ⟨Bn, 0, none⟩)]] 35)).alloc (.cells #[.int .i64 0] 3)) := by
            have hA9 : A7 < Bn := by rw [hBn.out]; exact hA7r
            refine ⟨hSr.under hbW (by omega) (by omega), Blk.below hAl hbW hA9, ?_, (hbx.alloc _).alloc _, ?_, hBA, hSA, hA9, by rw [hQ.out]; exact hz2⟩
            · rw [← hBn.out] at hro
              exact hro.under hbW (Nat.le_refl _)
            · rw [hQ.out]
              exact (Blk.new _ _ _).alloc _
          have hN : Blk ((w2.alloc (.cells #[.func (.func 29) #[] #[.pointer (some ⟨Bn, 0, none⟩)]] 35)).alloc (.cells #[.int .i64 0] 3)) (Q + 1) #[.int .i64 0] 3 := by
            have h9 := Blk.new (w2.alloc (.cells #[.func (.func 29) #[] #[.pointer (some ⟨Bn, 0, none⟩)]] 35)) #[.int .i64 0] 3
            rw [World.size_alloc, ← hQ.out] at h9
            exact h9
          have hsz : ((w2.alloc (.cells #[.func (.func 29) #[] #[.pointer (some ⟨Bn, 0, none⟩)]] 35)).alloc (.cells #[.int .i64 0] 3)).heap.size = Q + 2 := by rw [hQ.out]; simp
          rw [← hQ.out]
          generalize World.alloc (World.alloc w2 _) _ = w3 at hT hN hsz ⊢
          clear hbW hro hSr hAl hbx hb2 hfn hA7r hz2 hs2 hBc hA7 hBn hQ hk hlt
          have hlen : (slots p).length ≤ 8 := by rw [← slotsTo_eight]; exact slotsTo_len p 8
          have hbB := hT.bx.lt
          have hbc := hT.bx.cell 0
          have hcQ := hT.sq.cell 0
          go_wp2_with fail
          refine wpIn_wide.1 (range_low (n := 9) rfl (by decide) (gf := 29) (lb := #[.pointer (some ⟨Bn, 0, none⟩)]) rfl trivial (enters_of Tryd.func29 (by kernel_rfl) rfl)
            (all1_low 8 (by decide) Bn p w3 hbB hbc) (Below.refl _ _) (fun _ => rfl)
            (fun xs W => Rt w a B S A7 Bn Q n i c t stop p v W ∧ Blk W (Q + 1) #[.int .i64 (xs.length : Int)] 3)
            (fun cd xs W => cd = .exit 3 ∧ (xs.length : Int) = stop ∧ Rt w a B S A7 Bn Q n i c t stop p v W ∧ Blk W (Q + 1) #[.int .i64 stop] 3)
            (fun xs W W' h hb => ⟨h.1.under hb (by omega), h.2.below hb (by omega)⟩)
            (fun xs W h => hTab.out.since h.1.rs.rg.below)
            (fun cd xs W W' h hb => ⟨h.1, h.2.1, h.2.2.1.under hb (by omega), h.2.2.2.below hb (by omega)⟩)
            ⟨hT, hN⟩ ?a1 ?assign ?body ?done ?stop)
          case assign =>
            intro l x W K hK
            gi_wp2
            exact hK
          case body =>
            rintro l pre x W hr hle hsW ⟨hT1, hN1⟩ ⟨r, hsl⟩
            have hpl : pre.length < (slots p).length := by rw [hsl]; simp
            have hgx : (slots p)[pre.length]? = some x := by rw [hsl]; simp
            clear hsl
            rcases hT1.row with ⟨_, h0⟩ | ⟨g, cap, hg1, hg2, rfl, hcell⟩
            · rw [h0] at hpl; simp at hpl
            have hcx := hcell _ _ hgx; clear hcell hgx
            have cN := hN1.cell 0
            have fN := hN1.free 0
            have cA := hT1.al.cell 0
            have cS := hT1.rs.rg.stp.cell 0
            obtain ⟨b0, bf, s0, s1, s2, s3, s4, s5, s6, s7, sf⟩ := hT1.rs.facts
            have hx0 : (pre.length : Int) < ((slots p).length : Int) := by omega
            have hx1 : (0 : Int) ≤ (pre.length : Int) := by omega
            have hx2 : ¬ ((slots p).length : Int) ≤ (pre.length : Int) := by omega
            have hx3 : ¬ (slots p).length ≤ pre.length := by omega
            by_cases hst : (pre.length : Int) + 1 = stop
            · gi_wp2_with (refine ⟨trivial, ?_⟩; gi_at_call 15; refine (CallsIn.inRound l (callsIn_wide.2 (is_any p _))).mono ?_; rintro e w5 ⟨rfl, hb5⟩; have hT5 := (hT1.set (Q + 1) 0 (.int .i64 stop) (by omega)).keep hb5; have hN5 := (Blk.set1 hN1 (.int .i64 stop)).keep hb5; have cN5 := hN5.cell 0; have cS5 := hT5.rs.rg.stp.cell 0)
              exact ⟨((Stays.refl _ _).set _ _ _ (by omega)).trans (Stays.below hb5), rfl, by rw [List.length_append]; exact_mod_cast hst, hT5, hN5⟩
            · gi_wp2_with (refine ⟨trivial, ?_⟩; gi_at_call 15; refine (CallsIn.inRound l (callsIn_wide.2 (is_any p _))).mono ?_; rintro e w5 ⟨rfl, hb5⟩; have hT5 := (hT1.set (Q + 1) 0 (.int .i64 ((pre.length : Int) + 1)) (by omega)).keep hb5; have hN5 := (Blk.set1 hN1 (.int .i64 ((pre.length : Int) + 1))).keep hb5; have cN5 := hN5.cell 0; have cS5 := hT5.rs.rg.stp.cell 0)
              exact ⟨((Stays.refl _ _).set _ _ _ (by omega)).trans (Stays.below hb5), hT5, by rw [List.length_append]; exact hN5⟩
          case done =>
            rintro D xs W hD rfl ⟨hT1, hN1⟩ hK
            obtain ⟨m, hm, hmm⟩ : ∃ m : Int, Hid (m = ((slots p).length : Int)) ∧ Hid (m = stop ∨ m = ((slots p).length : Int)) := ⟨_, rfl, .inr rfl⟩
            rw [← hm.out] at hN1
            clear hm
            dsimp only
            have cN := hN1.cell 0
            have cS := hT1.rs.rg.stp.cell 0
            have cA := hT1.al.cell 0
            go_upto_region 27 with (fail)
            go_cut [98] from 90 (fun v9 wd => v9 = .bool false ∧ Rt w a B S A7 Bn Q n i c t stop p v wd ∧ Hid (wd.heap[D]? = some (.deferred (some []))))
            case first =>
              by_cases hms : m = stop
              · subst hms
                go_wp2_with fail
                go_meet
                case rel => exact ⟨rfl, hT1, hK⟩
              · have hml : m = ((slots p).length : Int) := by rcases hmm.out with e | e; exact absurd e hms; exact e
                subst hml
                rcases hT1.row with ⟨rfl, h0⟩ | ⟨g, cap, _, _, rfl, _⟩
                · rw [h0] at cN hms
                  go_wp2_with fail
                  go_meet
                  case rel => exact ⟨rfl, hT1, hK⟩
                · go_wp2_with fail
                  go_meet
                  case rel => exact ⟨rfl, hT1, hK⟩
            case rest =>
              obtain ⟨rfl, hT2, hK2⟩ := hcut
              have hQD : Q < D := by omega
              clear hT hN hT1 hN1 hK cN cS cA hmm hsz hbB hbc hS hcQ
              have hDl : D < wc.heap.size := (Array.getElem?_eq_some_iff.1 hK2.out).1
              have lQ := hT2.sq.lt
              have cQ := hT2.sq.cell 0
              obtain ⟨N2, hN2e⟩ : ∃ N, Hid (N = wc.heap.size) := ⟨_, rfl⟩
              have hT3 : Rt w a B S A7 Bn Q n i c t stop p v (wc.alloc (.cells #[.int .i64 0] 3)) := hT2.keep ((Below.refl _ _).alloc (Nat.le_refl _) _)
              have hN3 : Blk (wc.alloc (.cells #[.int .i64 0] 3)) N2 #[.int .i64 0] 3 := by rw [hN2e.out]; exact Blk.new _ _ _
              have hK3 : Hid ((wc.alloc (.cells #[.int .i64 0] 3)).heap[D]? = some (.deferred (some []))) := (Below.heap_alloc _ _ _ hDl).trans hK2.out
              have hs6 : (wc.alloc (.cells #[.int .i64 0] 3)).heap.size = N2 + 1 := by rw [hN2e.out]; simp
              go_wp2_with fail
              rw [← hN2e.out] at hDl lQ ⊢
              generalize wc.alloc (.cells #[.int .i64 0] 3) = w6 at hT3 hN3 hK3 hs6 ⊢
              clear hT2 hK2 cQ hN2e
              have hbB := hT3.bx.lt
              have hbc := hT3.bx.cell 0
              refine wpIn_wide.1 (range_low (n := 9) rfl (by decide) (gf := 29) (lb := #[.pointer (some ⟨Bn, 0, none⟩)]) rfl trivial (enters_of Tryd.func29 (by kernel_rfl) rfl)
                (all1_low 8 (by decide) Bn p w6 hbB hbc) (Below.refl _ _) (fun _ => rfl)
                (fun xs W => Rt w a B S A7 Bn Q n i c t stop p v W ∧ Blk W N2 #[.int .i64 (xs.length : Int)] 3 ∧ Hid (W.heap[D]? = some (.deferred (some []))))
                (fun cd xs W => False)
                (fun xs W W' h hb => ⟨h.1.under hb (by omega), h.2.1.below hb (by omega), (hb.block D (by omega)).trans h.2.2.out⟩)
                (fun xs W h => hTab.out.since h.1.rs.rg.below)
                (fun cd xs W W' h hb => h)
                ⟨hT3, hN3, hK3⟩ ?a2D ?assign2D ?body2D ?done2D ?stop2D)
              case assign2D =>
                intro l x W K hK
                gi_wp2
                exact hK
              case body2D =>
                rintro l pre x W ⟨lr, hr⟩ hle hsW ⟨hT4, hN4, hK4⟩ ⟨r, hsl⟩
                have hpl : pre.length < (slots p).length := by rw [hsl]; simp
                have hgx : (slots p)[pre.length]? = some x := by rw [hsl]; simp
                clear hsl
                rcases hT4.row with ⟨_, h0⟩ | ⟨g, cap, hg1, hg2, rfl, hcell⟩
                · rw [h0] at hpl; simp at hpl
                have hcx := hcell _ _ hgx; clear hcell hgx
                have cN := hN4.cell 0
                have fN := hN4.free 0
                have cA := hT4.al.cell 0
                have cQ := hT4.sq.cell 0
                have hlW : l < W.heap.size := (Array.getElem?_eq_some_iff.1 hr).1
                have hx0 : (pre.length : Int) < ((slots p).length : Int) := by omega
                have hx1 : (0 : Int) ≤ (pre.length : Int) := by omega
                have hx2 : ¬ ((slots p).length : Int) ≤ (pre.length : Int) := by omega
                have hx3 : ¬ (slots p).length ≤ pre.length := by omega
                have hNW : N2 < W.heap.size := by omega
                have hQN : ¬ N2 = Q := by omega
                have lQW := hT4.sq.lt
                gi_wp2
                have hT5 : Rt w a B S A7 Bn Q n i c t stop p (.slice (some ⟨g, 0, none⟩) (slots p).length cap) ((W.setCell ⟨N2, 0, none⟩ (.int .i64 ((pre.length : Int) + 1))).alloc (.cells #[.int .i64 0] 3)) := (hT4.set N2 0 _ lQ).keep ((Below.refl _ _).alloc (Nat.le_refl _) _)
                have hN5 := (Blk.set1 hN4 (.int .i64 ((pre.length : Int) + 1))).alloc (.cells #[.int .i64 0] 3)
                have hM5 : Blk ((W.setCell ⟨N2, 0, none⟩ (.int .i64 ((pre.length : Int) + 1))).alloc (.cells #[.int .i64 0] 3)) W.heap.size #[.int .i64 0] 3 := by
                  have h9 := Blk.new (W.setCell ⟨N2, 0, none⟩ (.int .i64 ((pre.length : Int) + 1))) #[.int .i64 0] 3
                  rw [show (W.setCell ⟨N2, 0, none⟩ (.int .i64 ((pre.length : Int) + 1))).heap.size = W.heap.size from by simp [World.setCell]] at h9
                  exact h9
                have hK5 : Hid (((W.setCell ⟨N2, 0, none⟩ (.int .i64 ((pre.length : Int) + 1))).alloc (.cells #[.int .i64 0] 3)).heap[D]? = some (.deferred (some []))) := by
                  have h9 := (Below.heap_setCell W ⟨N2, 0, none⟩ (.int .i64 ((pre.length : Int) + 1)) D (by show D ≠ N2; omega)).trans hK4.out
                  exact (Below.heap_alloc _ _ _ (Array.getElem?_eq_some_iff.1 h9).1).trans h9
                have hr5 : ((W.setCell ⟨N2, 0, none⟩ (.int .i64 ((pre.length : Int) + 1))).alloc (.cells #[.int .i64 0] 3)).heap[l]? = some (.loop lr) := by
                  have h9 := (Below.heap_setCell W ⟨N2, 0, none⟩ (.int .i64 ((pre.length : Int) + 1)) l (by show l ≠ N2; omega)).trans hr
                  exact (Below.heap_alloc _ _ _ (Array.getElem?_eq_some_iff.1 h9).1).trans h9
                have hst5 : Stays w6.heap.size W ((W.setCell ⟨N2, 0, none⟩ (.int .i64 ((pre.length : Int) + 1))).alloc (.cells #[.int .i64 0] 3)) := ((Stays.refl _ _).set _ _ _ (by omega)).trans (Stays.below ((Below.refl _ _).alloc (Nat.le_refl _) _))
                have hs5 : ((W.setCell ⟨N2, 0, none⟩ (.int .i64 ((pre.length : Int) + 1))).alloc (.cells #[.int .i64 0] 3)).heap.size = W.heap.size + 1 := by simp [World.setCell]
                obtain ⟨N3, hN3e⟩ : ∃ N, Hid (N = W.heap.size) := ⟨_, rfl⟩
                have hg3 : W.heap.size ≤ N3 := by rw [hN3e.out]; exact Nat.le_refl _
                rw [← hN3e.out] at hM5 hs5 ⊢
                generalize World.alloc (World.setCell W _ _) _ = w7 at hT5 hN5 hM5 hK5 hr5 hst5 hs5 ⊢
                have hbB5 := hT5.bx.lt
                have hbc5 := hT5.bx.cell 0
                have hNN : N2 < N3 := by rw [hN3e.out]; omega
                clear cN fN cA cQ hcx
                refine range_low_in (n := 9 - 1 - 1) (l₀ := l) (r₀ := lr) rfl hr5 (by decide) (gf := 29) (lb := #[.pointer (some ⟨Bn, 0, none⟩)]) rfl trivial (enters_of Tryd.func29 (by kernel_rfl) rfl)
                  ((all1_low 6 (by decide) Bn p w7 hbB5 hbc5).inRound l) (Below.refl _ _) (fun _ => rfl)
                  (fun ys W' => Rt w a B S A7 Bn Q n i c t stop p (.slice (some ⟨g, 0, none⟩) (slots p).length cap) W' ∧ Blk W' N2 #[.int .i64 ((pre.length : Int) + 1)] 3 ∧ Hid (W'.heap[D]? = some (.deferred (some []))) ∧ Blk W' N3 #[.int .i64 (ys.length : Int)] 3 ∧ Stays w6.heap.size W W')
                  (fun cd ys W' => False)
                  (fun ys W' W'' h hb => ⟨h.1.under hb (by omega), h.2.1.below hb (by omega), (hb.block D (by omega)).trans h.2.2.1.out, h.2.2.2.1.below hb (by omega), h.2.2.2.2.low hb (by omega)⟩)
                  (fun ys W' h => hTab.out.since h.1.rs.rg.below)
                  (fun cd ys W' W'' h hb => h)
                  ⟨hT5, hN5, hK5, hM5, hst5⟩ ?a3D ?assign3D ?body3D ?done3D ?stop3D
                case assign3D =>
                  intro l3 x3 W' K hK
                  gi_wp2
                  exact hK
                case body3D =>
                  rintro l3 pre3 x3 W' hsW3 ⟨hT6, hN6, hK6, hM6, hst6⟩ ⟨r3, hsl3⟩
                  have hpl3 : pre3.length < (slots p).length := by rw [hsl3]; simp
                  have hgx3 : (slots p)[pre3.length]? = some x3 := by rw [hsl3]; simp
                  clear hsl3
                  rcases hT6.row with ⟨h0, _⟩ | ⟨g', cap', _, _, he, hcell6⟩
                  · cases h0
                  cases he
                  have hcx3 := hcell6 _ _ hgx3; clear hcell6 hgx3
                  have cM := hM6.cell 0
                  have fM := hM6.free 0
                  have cA := hT6.al.cell 0
                  have hy0 : (pre3.length : Int) < ((slots p).length : Int) := by omega
                  have hy1 : (0 : Int) ≤ (pre3.length : Int) := by omega
                  have hy2 : ¬ ((slots p).length : Int) ≤ (pre3.length : Int) := by omega
                  have hy3 : ¬ (slots p).length ≤ pre3.length := by omega
                  gi_wp2
                  exact ⟨(Stays.refl _ _).set _ _ _ (by omega), hT6.set N3 0 _ (by omega), hN6.other N3 0 _ (by omega), (Below.heap_setCell W' ⟨N3, 0, none⟩ _ D (by show D ≠ N3; omega)).trans hK6.out, by rw [List.length_append]; exact Blk.set1 hM6 _, (by first | exact hst6.set2 _ _ _ (by omega) | (rw [hs6] at hst6; exact hst6.set2 _ _ _ (by omega)))⟩
                case done3D =>
                  rintro ys W' rfl ⟨hT6, hN6, hK6, hM6, hst6⟩
                  have cM := hM6.cell 0
                  have cA := hT6.al.cell 0
                  gi_wp2
                  exact ⟨hst6, hT6, by rw [List.length_append]; exact hN6, hK6⟩
                case stop3D =>
                  rintro cd ys W' hp h
                  exact h.elim
              case done2D =>
                rintro D2 xs W hD2 rfl ⟨hT4, hN4, hK4⟩ hK7
                have cN := hN4.cell 0
                have cA := hT4.al.cell 0
                obtain ⟨b0, bf, s0, s1, s2, s3, s4, s5, s6, s7, sf⟩ := hT4.rs.facts
                have cR := hT4.rs.rg.res.cell 0
                have fR := hT4.rs.rg.res.free 0
                rcases hT4.row with ⟨rfl, h0⟩ | ⟨g, cap, hg1, hg2, rfl, hcell⟩
                · rw [h0] at cN
                  go_wp2_with (first
                    | (go_at_call 15; (with_reducible refine (is_lit p _).mono ?_); rintro e w8 ⟨rfl, hb8⟩; have hT8 := hT4.keep hb8; have cR8 := hT8.rs.rg.res.cell 0; have fR8 := hT8.rs.rg.res.free 0)
                    | fail)
                  exact closed hT8 (by omega) ((hb8.block D (Array.getElem?_eq_some_iff.1 hK4.out).1).trans hK4.out) ((hb8.block D2 (Array.getElem?_eq_some_iff.1 hK7).1).trans hK7) (by omega) (by have := hT8.rs.hB; have := hT8.o1; have := hT8.o3; have := hT8.o4; omega) rfl
                · go_wp2_with (first
                    | (go_at_call 15; (with_reducible refine (is_lit p _).mono ?_); rintro e w8 ⟨rfl, hb8⟩; have hT8 := hT4.keep hb8; have cR8 := hT8.rs.rg.res.cell 0; have fR8 := hT8.rs.rg.res.free 0)
                    | fail)
                  exact closed hT8 (by omega) ((hb8.block D (Array.getElem?_eq_some_iff.1 hK4.out).1).trans hK4.out) ((hb8.block D2 (Array.getElem?_eq_some_iff.1 hK7).1).trans hK7) (by omega) (by have := hT8.rs.hB; have := hT8.o1; have := hT8.o3; have := hT8.o4; omega) rfl
              case stop2D =>
                rintro D2 cd pre W hD2 hpre h
                exact h.elim
          case stop =>
            rintro D cd pre W hD hpre ⟨rfl, hl, hT1, hN1⟩ hK
            obtain ⟨m, hm, hmm⟩ : ∃ m : Int, Hid (m = stop) ∧ Hid (m = stop ∨ m = ((slots p).length : Int)) := ⟨_, rfl, .inl rfl⟩
            rw [← hm.out] at hN1
            clear hm hl
            refine wpIn_wide.2 ?_
            have cN := hN1.cell 0
            have cS := hT1.rs.rg.stp.cell 0
            have cA := hT1.al.cell 0
            go_upto_region 27 with (fail)
            go_cut [98] from 90 (fun v9 wd => v9 = .bool false ∧ Rt w a B S A7 Bn Q n i c t stop p v wd ∧ Hid (wd.heap[D]? = some (.deferred (some []))))
            case first =>
              by_cases hms : m = stop
              · subst hms
                go_wp2_with fail
                go_meet
                case rel => exact ⟨rfl, hT1, hK⟩
              · have hml : m = ((slots p).length : Int) := by rcases hmm.out with e | e; exact absurd e hms; exact e
                subst hml
                rcases hT1.row with ⟨rfl, h0⟩ | ⟨g, cap, _, _, rfl, _⟩
                · rw [h0] at cN hms
                  go_wp2_with fail
                  go_meet
                  case rel => exact ⟨rfl, hT1, hK⟩
                · go_wp2_with fail
                  go_meet
                  case rel => exact ⟨rfl, hT1, hK⟩
            case rest =>
              obtain ⟨rfl, hT2, hK2⟩ := hcut
              have hQD : Q < D := by omega
              clear hT hN hT1 hN1 hK cN cS cA hmm hsz hbB hbc hS hcQ
              have hDl : D < wc.heap.size := (Array.getElem?_eq_some_iff.1 hK2.out).1
              have lQ := hT2.sq.lt
              have cQ := hT2.sq.cell 0
              obtain ⟨N2, hN2e⟩ : ∃ N, Hid (N = wc.heap.size) := ⟨_, rfl⟩
              have hT3 : Rt w a B S A7 Bn Q n i c t stop p v (wc.alloc (.cells #[.int .i64 0] 3)) := hT2.keep ((Below.refl _ _).alloc (Nat.le_refl _) _)
              have hN3 : Blk (wc.alloc (.cells #[.int .i64 0] 3)) N2 #[.int .i64 0] 3 := by rw [hN2e.out]; exact Blk.new _ _ _
              have hK3 : Hid ((wc.alloc (.cells #[.int .i64 0] 3)).heap[D]? = some (.deferred (some []))) := (Below.heap_alloc _ _ _ hDl).trans hK2.out
              have hs6 : (wc.alloc (.cells #[.int .i64 0] 3)).heap.size = N2 + 1 := by rw [hN2e.out]; simp
              go_wp2_with fail
              rw [← hN2e.out] at hDl lQ ⊢
              generalize wc.alloc (.cells #[.int .i64 0] 3) = w6 at hT3 hN3 hK3 hs6 ⊢
              clear hT2 hK2 cQ hN2e
              have hbB := hT3.bx.lt
              have hbc := hT3.bx.cell 0
              refine wpIn_wide.1 (range_low (n := 9) rfl (by decide) (gf := 29) (lb := #[.pointer (some ⟨Bn, 0, none⟩)]) rfl trivial (enters_of Tryd.func29 (by kernel_rfl) rfl)
                (all1_low 8 (by decide) Bn p w6 hbB hbc) (Below.refl _ _) (fun _ => rfl)
                (fun xs W => Rt w a B S A7 Bn Q n i c t stop p v W ∧ Blk W N2 #[.int .i64 (xs.length : Int)] 3 ∧ Hid (W.heap[D]? = some (.deferred (some []))))
                (fun cd xs W => False)
                (fun xs W W' h hb => ⟨h.1.under hb (by omega), h.2.1.below hb (by omega), (hb.block D (by omega)).trans h.2.2.out⟩)
                (fun xs W h => hTab.out.since h.1.rs.rg.below)
                (fun cd xs W W' h hb => h)
                ⟨hT3, hN3, hK3⟩ ?a2S ?assign2S ?body2S ?done2S ?stop2S)
              case assign2S =>
                intro l x W K hK
                gi_wp2
                exact hK
              case body2S =>
                rintro l pre x W ⟨lr, hr⟩ hle hsW ⟨hT4, hN4, hK4⟩ ⟨r, hsl⟩
                have hpl : pre.length < (slots p).length := by rw [hsl]; simp
                have hgx : (slots p)[pre.length]? = some x := by rw [hsl]; simp
                clear hsl
                rcases hT4.row with ⟨_, h0⟩ | ⟨g, cap, hg1, hg2, rfl, hcell⟩
                · rw [h0] at hpl; simp at hpl
                have hcx := hcell _ _ hgx; clear hcell hgx
                have cN := hN4.cell 0
                have fN := hN4.free 0
                have cA := hT4.al.cell 0
                have cQ := hT4.sq.cell 0
                have hlW : l < W.heap.size := (Array.getElem?_eq_some_iff.1 hr).1
                have hx0 : (pre.length : Int) < ((slots p).length : Int) := by omega
                have hx1 : (0 : Int) ≤ (pre.length : Int) := by omega
                have hx2 : ¬ ((slots p).length : Int) ≤ (pre.length : Int) := by omega
                have hx3 : ¬ (slots p).length ≤ pre.length := by omega
                have hNW : N2 < W.heap.size := by omega
                have hQN : ¬ N2 = Q := by omega
                have lQW := hT4.sq.lt
                gi_wp2
                have hT5 : Rt w a B S A7 Bn Q n i c t stop p (.slice (some ⟨g, 0, none⟩) (slots p).length cap) ((W.setCell ⟨N2, 0, none⟩ (.int .i64 ((pre.length : Int) + 1))).alloc (.cells #[.int .i64 0] 3)) := (hT4.set N2 0 _ lQ).keep ((Below.refl _ _).alloc (Nat.le_refl _) _)
                have hN5 := (Blk.set1 hN4 (.int .i64 ((pre.length : Int) + 1))).alloc (.cells #[.int .i64 0] 3)
                have hM5 : Blk ((W.setCell ⟨N2, 0, none⟩ (.int .i64 ((pre.length : Int) + 1))).alloc (.cells #[.int .i64 0] 3)) W.heap.size #[.int .i64 0] 3 := by
                  have h9 := Blk.new (W.setCell ⟨N2, 0, none⟩ (.int .i64 ((pre.length : Int) + 1))) #[.int .i64 0] 3
                  rw [show (W.setCell ⟨N2, 0, none⟩ (.int .i64 ((pre.length : Int) + 1))).heap.size = W.heap.size from by simp [World.setCell]] at h9
                  exact h9
                have hK5 : Hid (((W.setCell ⟨N2, 0, none⟩ (.int .i64 ((pre.length : Int) + 1))).alloc (.cells #[.int .i64 0] 3)).heap[D]? = some (.deferred (some []))) := by
                  have h9 := (Below.heap_setCell W ⟨N2, 0, none⟩ (.int .i64 ((pre.length : Int) + 1)) D (by show D ≠ N2; omega)).trans hK4.out
                  exact (Below.heap_alloc _ _ _ (Array.getElem?_eq_some_iff.1 h9).1).trans h9
                have hr5 : ((W.setCell ⟨N2, 0, none⟩ (.int .i64 ((pre.length : Int) + 1))).alloc (.cells #[.int .i64 0] 3)).heap[l]? = some (.loop lr) := by
                  have h9 := (Below.heap_setCell W ⟨N2, 0, none⟩ (.int .i64 ((pre.length : Int) + 1)) l (by show l ≠ N2; omega)).trans hr
                  exact (Below.heap_alloc _ _ _ (Array.getElem?_eq_some_iff.1 h9).1).trans h9
                have hst5 : Stays w6.heap.size W ((W.setCell ⟨N2, 0, none⟩ (.int .i64 ((pre.length : Int) + 1))).alloc (.cells #[.int .i64 0] 3)) := ((Stays.refl _ _).set _ _ _ (by omega)).trans (Stays.below ((Below.refl _ _).alloc (Nat.le_refl _) _))
                have hs5 : ((W.setCell ⟨N2, 0, none⟩ (.int .i64 ((pre.length : Int) + 1))).alloc (.cells #[.int .i64 0] 3)).heap.size = W.heap.size + 1 := by simp [World.setCell]
                obtain ⟨N3, hN3e⟩ : ∃ N, Hid (N = W.heap.size) := ⟨_, rfl⟩
                have hg3 : W.heap.size ≤ N3 := by rw [hN3e.out]; exact Nat.le_refl _
                rw [← hN3e.out] at hM5 hs5 ⊢
                generalize World.alloc (World.setCell W _ _) _ = w7 at hT5 hN5 hM5 hK5 hr5 hst5 hs5 ⊢
                have hbB5 := hT5.bx.lt
                have hbc5 := hT5.bx.cell 0
                have hNN : N2 < N3 := by rw [hN3e.out]; omega
                clear cN fN cA cQ hcx
                refine range_low_in (n := 9 - 1 - 1) (l₀ := l) (r₀ := lr) rfl hr5 (by decide) (gf := 29) (lb := #[.pointer (some ⟨Bn, 0, none⟩)]) rfl trivial (enters_of Tryd.func29 (by kernel_rfl) rfl)
                  ((all1_low 6 (by decide) Bn p w7 hbB5 hbc5).inRound l) (Below.refl _ _) (fun _ => rfl)
                  (fun ys W' => Rt w a B S A7 Bn Q n i c t stop p (.slice (some ⟨g, 0, none⟩) (slots p).length cap) W' ∧ Blk W' N2 #[.int .i64 ((pre.length : Int) + 1)] 3 ∧ Hid (W'.heap[D]? = some (.deferred (some []))) ∧ Blk W' N3 #[.int .i64 (ys.length : Int)] 3 ∧ Stays w6.heap.size W W')
                  (fun cd ys W' => False)
                  (fun ys W' W'' h hb => ⟨h.1.under hb (by omega), h.2.1.below hb (by omega), (hb.block D (by omega)).trans h.2.2.1.out, h.2.2.2.1.below hb (by omega), h.2.2.2.2.low hb (by omega)⟩)
                  (fun ys W' h => hTab.out.since h.1.rs.rg.below)
                  (fun cd ys W' W'' h hb => h)
                  ⟨hT5, hN5, hK5, hM5, hst5⟩ ?a3S ?assign3S ?body3S ?done3S ?stop3S
                case assign3S =>
                  intro l3 x3 W' K hK
                  gi_wp2
                  exact hK
                case body3S =>
                  rintro l3 pre3 x3 W' hsW3 ⟨hT6, hN6, hK6, hM6, hst6⟩ ⟨r3, hsl3⟩
                  have hpl3 : pre3.length < (slots p).length := by rw [hsl3]; simp
                  have hgx3 : (slots p)[pre3.length]? = some x3 := by rw [hsl3]; simp
                  clear hsl3
                  rcases hT6.row with ⟨h0, _⟩ | ⟨g', cap', _, _, he, hcell6⟩
                  · cases h0
                  cases he
                  have hcx3 := hcell6 _ _ hgx3; clear hcell6 hgx3
                  have cM := hM6.cell 0
                  have fM := hM6.free 0
                  have cA := hT6.al.cell 0
                  have hy0 : (pre3.length : Int) < ((slots p).length : Int) := by omega
                  have hy1 : (0 : Int) ≤ (pre3.length : Int) := by omega
                  have hy2 : ¬ ((slots p).length : Int) ≤ (pre3.length : Int) := by omega
                  have hy3 : ¬ (slots p).length ≤ pre3.length := by omega
                  gi_wp2
                  exact ⟨(Stays.refl _ _).set _ _ _ (by omega), hT6.set N3 0 _ (by omega), hN6.other N3 0 _ (by omega), (Below.heap_setCell W' ⟨N3, 0, none⟩ _ D (by show D ≠ N3; omega)).trans hK6.out, by rw [List.length_append]; exact Blk.set1 hM6 _, (by first | exact hst6.set2 _ _ _ (by omega) | (rw [hs6] at hst6; exact hst6.set2 _ _ _ (by omega)))⟩
                case done3S =>
                  rintro ys W' rfl ⟨hT6, hN6, hK6, hM6, hst6⟩
                  have cM := hM6.cell 0
                  have cA := hT6.al.cell 0
                  gi_wp2
                  exact ⟨hst6, hT6, by rw [List.length_append]; exact hN6, hK6⟩
                case stop3S =>
                  rintro cd ys W' hp h
                  exact h.elim
              case done2S =>
                rintro D2 xs W hD2 rfl ⟨hT4, hN4, hK4⟩ hK7
                have cN := hN4.cell 0
                have cA := hT4.al.cell 0
                obtain ⟨b0, bf, s0, s1, s2, s3, s4, s5, s6, s7, sf⟩ := hT4.rs.facts
                have cR := hT4.rs.rg.res.cell 0
                have fR := hT4.rs.rg.res.free 0
                rcases hT4.row with ⟨rfl, h0⟩ | ⟨g, cap, hg1, hg2, rfl, hcell⟩
                · rw [h0] at cN
                  go_wp2_with (first
                    | (go_at_call 15; (with_reducible refine (is_lit p _).mono ?_); rintro e w8 ⟨rfl, hb8⟩; have hT8 := hT4.keep hb8; have cR8 := hT8.rs.rg.res.cell 0; have fR8 := hT8.rs.rg.res.free 0)
                    | fail)
                  exact closed hT8 (by omega) ((hb8.block D (Array.getElem?_eq_some_iff.1 hK4.out).1).trans hK4.out) ((hb8.block D2 (Array.getElem?_eq_some_iff.1 hK7).1).trans hK7) (by omega) (by have := hT8.rs.hB; have := hT8.o1; have := hT8.o3; have := hT8.o4; omega) rfl
                · go_wp2_with (first
                    | (go_at_call 15; (with_reducible refine (is_lit p _).mono ?_); rintro e w8 ⟨rfl, hb8⟩; have hT8 := hT4.keep hb8; have cR8 := hT8.rs.rg.res.cell 0; have fR8 := hT8.rs.rg.res.free 0)
                    | fail)
                  exact closed hT8 (by omega) ((hb8.block D (Array.getElem?_eq_some_iff.1 hK4.out).1).trans hK4.out) ((hb8.block D2 (Array.getElem?_eq_some_iff.1 hK7).1).trans hK7) (by omega) (by have := hT8.rs.hB; have := hT8.o1; have := hT8.o3; have := hT8.o4; omega) rfl
              case stop2S =>
                rintro D2 cd pre W hD2 hpre h
                exact h.elim
theorem ranges_any (n i c t stop : Int) (w : World) (hTab : Tab w) (hn : 0 ≤ n ∧ n < 18446744073709551616) :
    Calls Tryd.prog 3 #[.agg #[.int .u64 n, .int .i64 i, .int .i64 c, .int .i64 t], .int .i64 stop] w fun e w' => e = .returned (.bool true) ∧ Below w.heap.size w w' := by
  obtain ⟨n, rfl⟩ := Int.eq_ofNat_of_zero_le hn.1
  exact ranges_all n i c t stop w hTab (by omega)
end Go.Proofs.YtakmaedimelaaaaDoor
