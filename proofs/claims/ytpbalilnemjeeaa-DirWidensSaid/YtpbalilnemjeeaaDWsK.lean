/- What is proved here: Pick told by the blocks that it leaves; what the law DirWidens knows at each step: an arena, its directory in a cell of the call's own, a list of the call's own. Conditions: the directory is there. -/
import Derived.Test.YtpbalilnemjeeaaDWidK
import Derived.Test.YtpbalilnemjeeaaDEnt2
import Derived.Test.YtpbalilnemjeeaaDMade
namespace Go.Proofs.Ytpbalilnemjeeaa
set_option linter.unusedVariables false
set_option linter.unusedSimpArgs false
open Go.RowKit Pm Pa Pl Pd
set_option maxHeartbeats 1000000 in
theorem dir_pick2 {w : World} {p : Nat} {x : Loc} {lim : Nat} {ps : Parts} {L : List UInt8} (h : ArAt w p x lim ps L) {off d : Nat} {es : List Int} (hD : DirAt ps L off d es) (H : Nat) (hH : H < 18446744073709551616) (t : Int) (ht : es[topN H d]? = some t) (I : Int) (hI : I = H) :
    Calls Try.prog 55 #[dirV p off d, .int .u64 I] w fun r w' => r = .returned (.tuple #[.int .i64 (topN H d : Int), .int .i64 t, .int .i64 0]) ∧ Below w.heap.size w w' := by
  subst hI
  have hA := Lib.hid (h.alloc (.cells #[.pointer (some ⟨p, 0, none⟩), .int .i64 (off : Int), .int .i64 (d : Int)] 92))
  have hB := (Below.refl w.heap.size w).alloc (Nat.le_refl _) (.cells #[.pointer (some ⟨p, 0, none⟩), .int .i64 (off : Int), .int .i64 (d : Int)] 92)
  clear h
  have hdl := hD.dl
  replace hD := Lib.hid hD
  replace ht := Lib.hid ht
  unfold dirV
  go_enter Try.func55, Try.ntmps55
  go_wp2_with (first
    | (go_at_call 90; refine (top_is H d hH hdl _ _ _ rfl rfl).mono ?_; rintro r w1 ⟨rfl, rfl⟩)
    | (go_at_call 52; refine (entry_in2 hA.out hD.out (topN H d) t ht.out _ rfl).mono ?_; rintro r w2 ⟨rfl, hb2⟩)
    | fail)
  go_ret3
  exact ⟨rfl, Below.then hB hb2⟩
structure Ws (w0 : World) (B p : Nat) (x : Loc) (lim : Nat) (ps : Parts) (L : List UInt8) (g8 off d : Nat) (es : List Int) (v : Value) (had : List Int) (w : World) : Prop where
  ars : AS w0 p x lim ps L w
  held : Held lim ps
  dir : DirAt ps L off d es
  size : sizeFrom 16 ps (off : Int) = some (clsN (8 * ((2 ^ d : Nat) : Int)))
  live : liveSum ps = clsN (8 * ((2 ^ d : Nat) : Int))
  o8 : Out w p x g8 #[.pointer (some ⟨p, 0, none⟩), .int .i64 (off : Int), .int .i64 (d : Int)] 92
  row : w.ownsRow B 3 1 v had.length (had.map (Value.int .i64))
  out : ∀ g, g ∈ rows v → ¬ g ∈ x.all p
  n8 : ¬ g8 ∈ rows v
  hB : w0.heap.size ≤ B ∧ w0.heap.size ≤ g8
section
variable {w0 w w' : World} {B p g8 off d lim : Nat} {x : Loc} {ps : Parts} {L : List UInt8} {es had : List Int} {v : Value}
theorem Ws.keep (h : Ws w0 B p x lim ps L g8 off d es v had w) (hb : Below w.heap.size w w') : Ws w0 B p x lim ps L g8 off d es v had w' :=
  ⟨h.ars.keep hb, h.held, h.dir, h.size, h.live, h.o8.keep hb, row_turn h.row (S := []) (Turns.of_below hb) (by simp), h.out, h.n8, h.hB⟩
theorem Ws.cells (h : Ws w0 B p x lim ps L g8 off d es v had w) : w.cell? ⟨g8, 0, none⟩ = some (.pointer (some ⟨p, 0, none⟩)) ∧ w.cell? ⟨g8, 1, none⟩ = some (.int .i64 (off : Int)) ∧ w.cell? ⟨g8, 2, none⟩ = some (.int .i64 (d : Int)) := ⟨h.o8.b.cell 0, h.o8.b.cell 1, h.o8.b.cell 2⟩
theorem Ws.ints {A : Option Addr} {n cap : Nat} (h : Ws w0 B p x lim ps L g8 off d es (.slice A n cap) had w) : IntsIn w A had := by
  obtain ⟨A', cap', e, hi, _⟩ := own_slice h.row
  injection e with e1
  rw [e1]; exact hi
theorem Ws.append {v' : Value} {E : Int} (h : Ws w0 B p x lim ps L g8 off d es v had w) (hx : ∀ k, k ∈ x.all p → k < B) (h8 : g8 < B) (hown : w'.ownsRow B 3 1 v' (had.length + 1) (had.map (Value.int .i64) ++ [E].map (Value.int .i64))) (hg : (w.alloc (.cells #[.int .i64 E] 3)).grownBy w' v.ownBlock) :
    Ws w0 B p x lim ps L g8 off d es v' (had ++ [E]) w' := by
  have t1 : Turns (rows v) w w' := ((Turns.refl _ w).alloc _).trans (turns_grown hg)
  have hge : ∀ g, g ∈ rows v → B ≤ g := fun g hg => (h.row.lt g (by simpa [rows] using hg)).1
  have hgn : ∀ g, g ∈ rows v' → B ≤ g := fun g hg => (hown.lt g (by simpa [rows] using hg)).1
  refine ⟨⟨Turns.below h.ars.below t1 (fun k hk => Nat.le_trans h.hB.1 (hge k hk)) h.ars.below.size, h.ars.ar.turn t1 (fun k hk e => h.out k e hk), h.ars.own⟩, h.held, h.dir, h.size, h.live, ⟨h.o8.b.turn t1 h.n8, h.o8.n⟩, ?_, fun g hg hk => ?_, fun hk => ?_, h.hB⟩
  · rw [List.length_append, List.map_append]; exact hown
  · have := hgn g hg; have := hx g hk; omega
  · have := hgn _ hk; omega
end
/-- between Widen and the store of the new directory into the law's own cell -/
structure Wn (w0 : World) (B p : Nat) (x : Loc) (lim : Nat) (ps : Parts) (L : List UInt8) (g8 offO dO g17 off d : Nat) (es : List Int) (v : Value) (had : List Int) (w : World) : Prop where
  ars : AS w0 p x lim ps L w
  held : Held lim ps
  dir : DirAt ps L off d es
  size : sizeFrom 16 ps (off : Int) = some (clsN (8 * ((2 ^ d : Nat) : Int)))
  live : liveSum ps = clsN (8 * ((2 ^ d : Nat) : Int))
  o8 : Out w p x g8 #[.pointer (some ⟨p, 0, none⟩), .int .i64 (offO : Int), .int .i64 (dO : Int)] 92
  o17 : Out w p x g17 #[.pointer (some ⟨p, 0, none⟩), .int .i64 (off : Int), .int .i64 (d : Int)] 92
  row : w.ownsRow B 3 1 v had.length (had.map (Value.int .i64))
  out : ∀ g, g ∈ rows v → ¬ g ∈ x.all p
  n8 : ¬ g8 ∈ rows v
  hB : w0.heap.size ≤ B ∧ w0.heap.size ≤ g8
section
variable {w0 w w' : World} {B p g8 g17 off d offO dO lim : Nat} {x : Loc} {ps : Parts} {L : List UInt8} {es had : List Int} {v : Value}
theorem Wn.keep (h : Wn w0 B p x lim ps L g8 offO dO g17 off d es v had w) (hb : Below w.heap.size w w') : Wn w0 B p x lim ps L g8 offO dO g17 off d es v had w' :=
  ⟨h.ars.keep hb, h.held, h.dir, h.size, h.live, h.o8.keep hb, h.o17.keep hb, row_turn h.row (S := []) (Turns.of_below hb) (by simp), h.out, h.n8, h.hB⟩
theorem Wn.drew (h : Wn w0 B p x lim ps L g8 offO dO g17 off d es v had w) : Wn w0 B p x lim ps L g8 offO dO g17 off d es v had w.drew := h.keep (Below.refl _ _).drew
theorem Wn.cells (h : Wn w0 B p x lim ps L g8 offO dO g17 off d es v had w) : (w.cell? ⟨g8, 0, none⟩ = some (.pointer (some ⟨p, 0, none⟩)) ∧ w.cell? ⟨g8, 1, none⟩ = some (.int .i64 (offO : Int)) ∧ w.cell? ⟨g8, 2, none⟩ = some (.int .i64 (dO : Int))) ∧
    w.cell? ⟨g17, 0, none⟩ = some (.pointer (some ⟨p, 0, none⟩)) ∧ w.cell? ⟨g17, 1, none⟩ = some (.int .i64 (off : Int)) ∧ w.cell? ⟨g17, 2, none⟩ = some (.int .i64 (d : Int)) :=
  ⟨⟨h.o8.b.cell 0, h.o8.b.cell 1, h.o8.b.cell 2⟩, h.o17.b.cell 0, h.o17.b.cell 1, h.o17.b.cell 2⟩
theorem Wn.close (h : Wn w0 B p x lim ps L g8 offO dO g17 off d es v had w) : Ws w0 B p x lim ps L g8 off d es v had (((w.setCell ⟨g8, 0, none⟩ (.pointer (some ⟨p, 0, none⟩))).setCell ⟨g8, 1, none⟩ (.int .i64 (off : Int))).setCell ⟨g8, 2, none⟩ (.int .i64 (d : Int))) := by
  have t1 : Turns [g8] w (((w.setCell ⟨g8, 0, none⟩ (.pointer (some ⟨p, 0, none⟩))).setCell ⟨g8, 1, none⟩ (.int .i64 (off : Int))).setCell ⟨g8, 2, none⟩ (.int .i64 (d : Int))) := (((Turns.refl _ w).set g8 0 _ (.inl (by simp))).set g8 1 _ (.inl (by simp))).set g8 2 _ (.inl (by simp))
  have bf := ((h.o8.b.set 0 (.pointer (some ⟨p, 0, none⟩))).set 1 (.int .i64 (off : Int))).set 2 (.int .i64 (d : Int))
  simp at bf
  refine ⟨⟨Turns.below h.ars.below t1 (fun k hk => by simp only [List.mem_singleton] at hk; rw [hk]; exact h.hB.2) h.ars.below.size, h.ars.ar.turn t1 (fun k hk e => by simp only [List.mem_singleton] at e; exact h.o8.n (e ▸ hk)), h.ars.own⟩, h.held, h.dir, h.size, h.live, ⟨bf, h.o8.n⟩, row_turn h.row t1 (fun g hg e => by simp only [List.mem_singleton] at e; exact h.n8 (e ▸ hg)), h.out, h.n8, h.hB⟩
/-- behind Widen, its answer in a cell of the call's own -/
theorem Ws.widen (h : Ws w0 B p x lim ps L g8 offO dO es v had w) {x5 : Loc} {L5 : List UInt8} {TA : Nat} {es5 : List Int} (hc : TA = takeAt ps (clsN (8 * ((2 ^ (dO + 1) : Nat) : Int)))) (hd5 : dO ≤ 5) (hl : liveSum ps + clsN (8 * ((2 ^ (dO + 1) : Nat) : Int)) ≤ lim)
    (hA : ArAt w' p x5 lim (freeP (takeP ps (clsN (8 * ((2 ^ (dO + 1) : Nat) : Int)))) (offO : Int)) L5) (hD : DirAt (freeP (takeP ps (clsN (8 * ((2 ^ (dO + 1) : Nat) : Int)))) (offO : Int)) L5 TA (dO + 1) es5) (hT : Turns (x.all p) w w') (hf : ∀ k, k ∈ x5.all p → k ∈ x.all p ∨ w.heap.size ≤ k)
    (hsz : liveSum (freeP (takeP ps (clsN (8 * ((2 ^ (dO + 1) : Nat) : Int)))) (offO : Int)) = clsN (8 * ((2 ^ (dO + 1) : Nat) : Int))) (hne : (offO : Int) ≠ (TA : Int)) :
    Wn w0 B p x5 lim (freeP (takeP ps (clsN (8 * ((2 ^ (dO + 1) : Nat) : Int)))) (offO : Int)) L5 g8 offO dO w'.heap.size TA (dO + 1) es5 v had (w'.alloc (.cells #[.pointer (some ⟨p, 0, none⟩), .int .i64 (TA : Int), .int .i64 ((dO + 1 : Nat) : Int)] 92)) := by
  have hpos1 : ∀ y ∈ ps, 1 ≤ y.1 := fun y hy => by have := (h.ars.ar.pos y hy).1; omega
  have hp2 : 2 ^ (dO + 1) ≤ 64 := pow64 (by omega)
  have hp1 : 1 ≤ 2 ^ (dO + 1) := Nat.one_le_two_pow
  have hcl := clsN_class (n := 8 * ((2 ^ (dO + 1) : Nat) : Int)) (by omega)
  have hcb := (clsN_is (n := 8 * ((2 ^ (dO + 1) : Nat) : Int)) (by omega)).2
  have hb := (Below.refl w'.heap.size w').alloc (Nat.le_refl _) (.cells #[.pointer (some ⟨p, 0, none⟩), .int .i64 (TA : Int), .int .i64 ((dO + 1 : Nat) : Int)] 92)
  refine ⟨(h.ars.turned hT hA hf).keep hb, Held.fst (h.held.take _ hcl hl) (deadP_fst 16 _ _), hD, ?_, hsz, (h.o8.move hT hf).keep hb, ⟨Blk.new _ _ _, fun hk => Nat.lt_irrefl _ (hA.lt _ hk)⟩, ?_, fun g hg hk => ?_, h.n8, h.hB⟩
  · unfold freeP
    rw [size_deadP 16 _ (pos_fst (P := fun c => 1 ≤ c) rfl (fun y hy => by
      rcases take_case ps (clsN (8 * ((2 ^ (dO + 1) : Nat) : Int))) with ⟨_, e1, _⟩ | ⟨a, b, e0, _, e1, _⟩
      · rw [e1] at hy
        rcases List.mem_append.1 hy with q | q
        · exact hpos1 y q
        · rw [List.mem_singleton.1 q]; exact Nat.le_trans (by decide) hcb.1
      · rw [e1] at hy
        rcases List.mem_append.1 hy with q | q
        · exact hpos1 y (by rw [e0]; simp [q])
        · rcases List.mem_cons.1 q with q | q
          · rw [q]; exact Nat.le_trans (by decide) hcb.1
          · exact hpos1 y (by rw [e0]; simp [q])))]
    rw [if_neg (fun e => hne e.symm), take_size ps hpos1 _ (by omega), if_pos (by rw [hc])]
  · exact row_turn (row_turn h.row hT h.out) (S := []) (Turns.of_below hb) (by simp)
  · rcases hf g hk with e | e
    · exact h.out g hg e
    · exact absurd (row_lt h.row hg) (Nat.not_lt.2 e)
end
end Go.Proofs.Ytpbalilnemjeeaa
