/- What is proved here: the contract of the law's own turned: a list is written full, three lists go on behind it. Conditions: a list of bytes in a block known whole, without room. -/
import Derived.Test.YtkchhggbiopffaaQHolds
import Derived.ArgAppend
namespace Go.Proofs.Ytkchhggbiopffaa
set_option linter.unusedVariables false
set_option linter.unusedSimpArgs false
open Go.RowKit Pm
/-- a list in a new block -/
def NewIn (w W : World) (v : Value) (X : List UInt8) : Prop :=
  ∃ g c, v = .slice (some ⟨g, 0, none⟩) X.length c ∧ w.heap.size ≤ g ∧ g < W.heap.size ∧ ∀ (j : Nat) (b : UInt8), X[j]? = some b → W.cell? ⟨g, j, none⟩ = some (.int .u8 (b.toNat : Int))
theorem NewIn.keep {w W W' : World} {v : Value} {X : List UInt8} (h : NewIn w W v X) (hb : Below W.heap.size W W') : NewIn w W' v X := by
  obtain ⟨g, c, e, h1, h2, h3⟩ := h
  exact ⟨g, c, e, h1, Nat.lt_of_lt_of_le h2 hb.size, fun j b hj => (hb.cell (p := ⟨g, j, none⟩) h2).trans (h3 j b hj)⟩
theorem NewIn.of_row {w w1 W : World} {v : Value} {n : Nat} {X : List UInt8} (hn : 0 < n) (hb : w.heap.size ≤ w1.heap.size) (h : W.ownsRow w1.heap.size 5 1 v n (cl X)) : NewIn w W v X := by
  have hl : X.length = n := by have := h.1; simpa [cl] using this
  have hc := fun g => h.cells (g := g)
  rcases h.2 with ⟨rfl, h0⟩ | ⟨g, cap, cur, rfl, h1, h2, h3⟩
  · omega
  · refine ⟨g, cap, by rw [hl], by omega, (Array.getElem?_eq_some_iff.1 h2).1, fun j b hj => ?_⟩
    have := hc g rfl j (.int .u8 (b.toNat : Int)) (by rw [cl, List.getElem?_map, hj]; rfl)
    rw [Addr.add_lit] at this
    simpa using this
theorem NewIn.since {w w1 W : World} {v : Value} {X : List UInt8} (h : NewIn w1 W v X) (hb : w.heap.size ≤ w1.heap.size) : NewIn w W v X := by
  obtain ⟨g, c, e, h1, h2, h3⟩ := h
  exact ⟨g, c, e, Nat.le_trans hb h1, h2, h3⟩
theorem wpList_append_full {ops : Array Oper} {Q : Exit → Act → World → Prop} {rest : List Oper} {o : Oper} {a : Act} (W : World) (arr : Array Value) (s x : Operand) (hgd : o.guard = none)
    (hop : o.op = .call { callee := .builtin .append, args := #[s, x], argTypes := #[27, 27] }) (g n : Nat) (m : UInt8) (L : List UInt8) (harr : arr = (cl L).toArray) (hb : Blk W g (bv (List.replicate n m)) 5)
    (hs : a.eval s = .slice (some ⟨g, 0, none⟩) n n) (k c : Nat) (hx : a.eval x = .slice (some ⟨W.heap.size, 0, none⟩) k c) (hk : L.length = k) (hk0 : 0 < k) (hn : n + k ≤ 140000000)
    (h : ∀ v' w', NewIn W w' v' (List.replicate n m ++ L) → Below W.heap.size W w' → wpList Try.prog ops Q rest (a.put o.dst v') w') : wpList Try.prog ops Q (o :: rest) a (W.alloc (.cells arr 5)) := by
  subst harr
  obtain ⟨i0, hi, hz0, hz1, hz2⟩ := info_parts infoU8
  have hB2 := hb.alloc (.cells (cl L).toArray 5)
  have hN := Blk.new W (cl L).toArray 5
  refine wpList_append_grows _ hgd s x 27 hop 5 i0 (.int .u8 0) 1 1 Try.underlying27 hi hz0 hz1 hz2 rfl (by decide) (some ⟨g, 0, none⟩) n n (cl (List.replicate n m)) hs (by simp) (by simp [cl]) ?_ ⟨W.heap.size, 0, none⟩ k c (cl L) hx (by simp [cl, hk]) ?_ ?_ (by omega) (by unfold maxLen; omega) (by omega) ?_
  · intro b hb j u hu
    obtain rfl := Option.some.inj hb
    rw [Addr.add_lit, Nat.zero_add, hB2.cell, bv_get?]
    unfold cl at hu
    rwa [List.getElem?_map] at hu
  · intro j u hu
    rw [Addr.add_lit, Nat.zero_add, hN.cell]
    simpa using hu
  · intro u hu
    unfold cl at hu
    obtain ⟨b, _, rfl⟩ := List.mem_map.1 hu
    rfl
  · intro v' w' ho hg
    have hsz : (W.alloc (.cells (cl L).toArray 5)).heap.size = W.heap.size + 1 := by simp
    refine h v' w' (NewIn.of_row (w1 := W.alloc (.cells (cl L).toArray 5)) (n := n + k) (by omega) (by rw [hsz]; omega) ?_) (Below.grown ((Below.refl _ _).alloc (Nat.le_refl _) _) hg (by rw [hsz]; omega) (by simp))
    rw [show cl (List.replicate n m ++ L) = cl (List.replicate n m) ++ cl L by simp [cl]]
    exact ho
theorem NewIn.set {w W : World} {v : Value} {X : List UInt8} (h : NewIn w W v X) (r i : Nat) (u : Value) (hr : r < w.heap.size) : NewIn w (W.setCell ⟨r, i, none⟩ u) v X := by
  obtain ⟨g, c, e, h1, h2, h3⟩ := h
  refine ⟨g, c, e, h1, by simpa [World.setCell] using h2, fun j b hj => ?_⟩
  exact (turn_cell ((Turns.refl [r] W).set r i u (Or.inl (by simp))) (by simp; omega) (h3 j b hj))
/-- what turned answers -/
def Turned (w : World) (g n : Nat) (m : UInt8) (e : Ending) (w' : World) : Prop :=
  ∃ v1 v2 v3 : Value, e = .returned (.agg #[.slice (some ⟨g, 0, none⟩) n n, v1, v2, v3, .int .u8 (m.toNat : Int)]) ∧ Turns [g] w w' ∧ NewIn w w' v1 (marks m n 1) ∧ NewIn w w' v2 (marks m n 2) ∧ NewIn w w' v3 (marks m n 3) ∧ Blk w' g (bv (List.replicate n m)) 5
theorem fill_step (X : List UInt8) (n j : Nat) (m : UInt8) (hX : X.length = n) (hj : j < n) : (List.replicate j m ++ X.drop j).set j m = List.replicate (j + 1) m ++ X.drop (j + 1) := by
  rw [List.set_append_right _ _ (by simp), List.length_replicate, Nat.sub_self, List.drop_eq_getElem_cons (by omega), List.set_cons_zero, List.replicate_succ', List.append_assoc]
  rfl
set_option maxHeartbeats 2000000 in
set_option maxRecDepth 100000 in
theorem turned_any (w : World) (g n : Nat) (m : UInt8) (X : List UInt8) (hX : X.length = n) (hb : Blk w g (bv X) 5) (hn : n ≤ 134217728) :
    Calls Try.prog 36 #[.slice (some ⟨g, 0, none⟩) n n, .int .u8 (m.toNat : Int)] w (Turned w g n m) := by
  obtain ⟨i0, hi, hz0, hz1, hz2⟩ := info_parts infoU8
  replace hi := Lib.hid hi
  replace hz0 := Lib.hid hz0
  replace hz1 := Lib.hid hz1
  replace hz2 := Lib.hid hz2
  have hb1 := hb.alloc (.cells #[.slice none 0 0, .slice none 0 0, .slice none 0 0, .slice none 0 0, .int .u8 0] 73)
  have hR := Blk.new w #[.slice none 0 0, .slice none 0 0, .slice none 0 0, .slice none 0 0, .int .u8 0] 73
  have hT : Turns [g] w (w.alloc (.cells #[.slice none 0 0, .slice none 0 0, .slice none 0 0, .slice none 0 0, .int .u8 0] 73)) := (Turns.refl _ _).alloc _
  have hgr : g < w.heap.size := hb.lt
  have a1 := add_u8 m 1 (by decide)
  have a2 := add_u8 m 2 (by decide)
  have a3 := add_u8 m 3 (by decide)
  obtain ⟨r, hr⟩ : ∃ r, Hid (r = w.heap.size) := ⟨_, rfl⟩
  rw [← hr.out] at hR
  have hgr2 : Hid (g ≠ r) := by unfold Hid; have := hr.out; omega
  clear hb
  go_enter Try.func36, Try.ntmps36
  go_wp2_with fail
  rw [← hr.out]
  generalize World.alloc w _ = w1 at hb1 hR hT ⊢
  replace hT := Lib.hid hT
  replace hX := Lib.hid hX
  go_loopw [11] (fun iv wr => ∃ j : Nat, j ≤ n ∧ iv = .int .i64 j ∧ Hid (Blk wr g (bv (List.replicate j m ++ X.drop j)) 5) ∧ Hid (Turns [g] w wr) ∧ Hid (Blk wr r #[.slice none 0 0, .slice none 0 0, .slice none 0 0, .slice none 0 0, .int .u8 0] 73)) (fun iv _ => (n - intOf iv).toNat)
  case atStart => exact ⟨0, by omega, rfl, hb1, hT.out, hR⟩
  case round =>
    clear hb1 hT hR
    obtain ⟨j, hj, rfl, hB, hT, hR⟩ := hrel
    by_cases hlt : j < n
    · have hst := Lib.hid (fill_step X n j m hX.out hlt)
      have q1 : wr.cell? ⟨g, j, none⟩ = some (.int .u8 ((X[j]'(by rw [hX.out]; exact hlt)).toNat : Int)) := by
        rw [hB.out.cell, bv_get?, List.getElem?_append_right (by simp), List.length_replicate, Nat.sub_self, List.getElem?_drop, Nat.add_zero, List.getElem?_eq_getElem (by rw [hX.out]; exact hlt)]; rfl
      have q2 := hB.out.free j
      have j0 : (0 : Int) ≤ j := by omega
      have j1 : (j : Int) < n := by omega
      have hset := hB.out.set j (.int .u8 (m.toNat : Int))
      rw [bv_set, hst.out] at hset
      replace hset := Lib.hid hset
      have hts := Lib.hid (hT.out.set g j (.int .u8 (m.toNat : Int)) (Or.inl (by simp)))
      have hRs := Lib.hid (hR.out.other g j (.int .u8 (m.toNat : Int)) hgr2.out)
      go_wp2_with fail
      go_roundw
      case rel => exact ⟨j + 1, by omega, by go_num, hset.out, hts.out, hRs.out⟩
      case measure => simp [intOf]; omega
    · obtain rfl : j = n := by omega
      rw [List.drop_eq_nil_of_le (by rw [hX.out]; exact Nat.le_refl _), List.append_nil] at hB
      obtain ⟨b1, e1⟩ : ∃ b, m + UInt8.ofNat 1 = b := ⟨_, rfl⟩
      obtain ⟨b2, e2⟩ : ∃ b, m + UInt8.ofNat 2 = b := ⟨_, rfl⟩
      obtain ⟨b3, e3⟩ : ∃ b, m + UInt8.ofNat 3 = b := ⟨_, rfl⟩
      have m1 : marks m j 1 = List.replicate j m ++ [b1] := by rw [← e1]; rfl
      have m2 : marks m j 2 = List.replicate j m ++ [b1, b2] := by rw [← e1, ← e2]; rfl
      have m3 : marks m j 3 = List.replicate j m ++ [b1, b2, b3] := by rw [← e1, ← e2, ← e3]; rfl
      rw [wrap_u8, e1] at a1
      rw [wrap_u8, e2] at a2
      rw [wrap_u8, e3] at a3
      replace a1 : ((m.toNat : Int) + 1) % 256 = (b1.toNat : Int) := a1
      replace a2 : ((m.toNat : Int) + 2) % 256 = (b2.toNat : Int) := a2
      replace a3 : ((m.toNat : Int) + 3) % 256 = (b3.toNat : Int) := a3
      clear e1 e2 e3
      replace m1 := Lib.hid m1
      replace m2 := Lib.hid m2
      replace m3 := Lib.hid m3
      have hws := hT.out.size
      go_upto_region 6 with (fail)
      go_upto_region 7 with ((with_reducible show wpList _ _ _ (⟨some 23, _, _, _, _, _⟩ :: _) _ _); refine wpList_append_full wr _ (.tmp 19) (.tmp 22) rfl rfl g j m [b1] rfl hB.out rfl 1 1 rfl rfl (by omega) (by omega) ?_; intro v1 wx1 hn1 hb1)
      have hB1 := Lib.hid (hB.out.keep hb1)
      go_upto_region 8 with ((with_reducible show wpList _ _ _ (⟨some 30, _, _, _, _, _⟩ :: _) _ _); refine wpList_append_full wx1 _ (.tmp 24) (.tmp 29) rfl rfl g j m [b1, b2] rfl hB1.out rfl 2 2 rfl rfl (by omega) (by omega) ?_; intro v2 wx2 hn2 hb2)
      have hB2 := Lib.hid (hB1.out.keep hb2)
      go_upto_region 9 with ((with_reducible show wpList _ _ _ (⟨some 39, _, _, _, _, _⟩ :: _) _ _); refine wpList_append_full wx2 _ (.tmp 31) (.tmp 38) rfl rfl g j m [b1, b2, b3] rfl hB2.out rfl 3 3 rfl rfl (by omega) (by omega) ?_; intro v3 wx3 hn3 hb3)
      have hB3 := Lib.hid (hB2.out.keep hb3)
      rw [← m1.out] at hn1
      rw [← m2.out] at hn2
      rw [← m3.out] at hn3
      have hT3 := Lib.hid (((hT.out.thenB hb1).thenB hb2).thenB hb3)
      have hR3 := Lib.hid (((hR.out.keep hb1).keep hb2).keep hb3)
      have N1 := Lib.hid ((hn1.keep hb2).keep hb3)
      have N2 := Lib.hid ((hn2.since hb1.size).keep hb3)
      have N3 := Lib.hid (hn3.since (Nat.le_trans hb1.size hb2.size))
      have hrl := Lib.hid hR.out.lt
      clear hT hR hB hn1 hn2 hn3 hb1 hb2 hb3 hB1 hB2
      obtain ⟨g1, c1, rfl, -, -, -⟩ := id N1.out
      obtain ⟨g2, c2, rfl, -, -, -⟩ := id N2.out
      obtain ⟨g3, c3, rfl, -, -, -⟩ := id N3.out
      simp only [marks_len] at N1 N2 N3 ⊢
      have f0 := hR3.out.free 0
      have f1 := hR3.out.free 1
      have f2 := hR3.out.free 2
      have f3 := hR3.out.free 3
      have f4 := hR3.out.free 4
      have e0 := hR3.out.cell 0
      have e1 := hR3.out.cell 1
      have e2 := hR3.out.cell 2
      have e3 := hR3.out.cell 3
      have e4 := hR3.out.cell 4
      go_wp2_with fail
      have hF := Lib.hid (((((hR3.out.set 0 (.slice (some ⟨g, 0, none⟩) j j)).set 1 (.slice (some ⟨g1, 0, none⟩) (j + 1) c1)).set 2 (.slice (some ⟨g2, 0, none⟩) (j + 2) c2)).set 3 (.slice (some ⟨g3, 0, none⟩) (j + 3) c3)).set 4 (.int .u8 (m.toNat : Int)))
      have hG := Lib.hid (((((hB3.out.other r 0 (.slice (some ⟨g, 0, none⟩) j j) hgr2.out.symm).other r 1 (.slice (some ⟨g1, 0, none⟩) (j + 1) c1) hgr2.out.symm).other r 2 (.slice (some ⟨g2, 0, none⟩) (j + 2) c2) hgr2.out.symm).other r 3 (.slice (some ⟨g3, 0, none⟩) (j + 3) c3) hgr2.out.symm).other r 4 (.int .u8 (m.toNat : Int)) hgr2.out.symm)
      have hrw : w.heap.size ≤ r := Nat.le_of_eq hr.out.symm
      have hTF := Lib.hid (((((hT3.out.set r 0 (.slice (some ⟨g, 0, none⟩) j j) (Or.inr hrw)).set r 1 (.slice (some ⟨g1, 0, none⟩) (j + 1) c1) (Or.inr hrw)).set r 2 (.slice (some ⟨g2, 0, none⟩) (j + 2) c2) (Or.inr hrw)).set r 3 (.slice (some ⟨g3, 0, none⟩) (j + 3) c3) (Or.inr hrw)).set r 4 (.int .u8 (m.toNat : Int)) (Or.inr hrw))
      have M1 := Lib.hid ((((((N1.out.set r 0 (.slice (some ⟨g, 0, none⟩) j j) hrl.out).set r 1 (.slice (some ⟨g1, 0, none⟩) (j + 1) c1) hrl.out).set r 2 (.slice (some ⟨g2, 0, none⟩) (j + 2) c2) hrl.out).set r 3 (.slice (some ⟨g3, 0, none⟩) (j + 3) c3) hrl.out).set r 4 (.int .u8 (m.toNat : Int)) hrl.out).since hws)
      have M2 := Lib.hid ((((((N2.out.set r 0 (.slice (some ⟨g, 0, none⟩) j j) hrl.out).set r 1 (.slice (some ⟨g1, 0, none⟩) (j + 1) c1) hrl.out).set r 2 (.slice (some ⟨g2, 0, none⟩) (j + 2) c2) hrl.out).set r 3 (.slice (some ⟨g3, 0, none⟩) (j + 3) c3) hrl.out).set r 4 (.int .u8 (m.toNat : Int)) hrl.out).since hws)
      have M3 := Lib.hid ((((((N3.out.set r 0 (.slice (some ⟨g, 0, none⟩) j j) hrl.out).set r 1 (.slice (some ⟨g1, 0, none⟩) (j + 1) c1) hrl.out).set r 2 (.slice (some ⟨g2, 0, none⟩) (j + 2) c2) hrl.out).set r 3 (.slice (some ⟨g3, 0, none⟩) (j + 3) c3) hrl.out).set r 4 (.int .u8 (m.toNat : Int)) hrl.out).since hws)
      clear e0 e1 e2 e3 e4 f0 f1 f2 f3 f4 hT3 hR3 N1 N2 N3
      generalize World.setCell _ _ _ = wz at hF hG hTF M1 M2 M3 ⊢
      have e0 := hF.out.cell 0
      have e1 := hF.out.cell 1
      have e2 := hF.out.cell 2
      have e3 := hF.out.cell 3
      have e4 := hF.out.cell 4
      exact bodyPost_ret (v := .agg #[.slice (some ⟨g, 0, none⟩) j j, .slice (some ⟨g1, 0, none⟩) (j + 1) c1, .slice (some ⟨g2, 0, none⟩) (j + 2) c2, .slice (some ⟨g3, 0, none⟩) (j + 3) c3, .int .u8 (m.toNat : Int)]) (by simp [results, Try.results36, go_sem, e0, e1, e2, e3, e4]) rfl ⟨_, _, _, rfl, hTF.out, M1.out, M2.out, M3.out, hG.out⟩
end Go.Proofs.Ytkchhggbiopffaa
