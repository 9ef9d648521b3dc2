/- What is proved here: the contract of All's iterator: the slots of the set, rising. Conditions: the library's table lies in memory. -/
import Derived.Test.YtakmaedimelaaaaDoorCSeq
namespace Go.Proofs.YtakmaedimelaaaaDoor
set_option linter.unusedVariables false
set_option linter.unusedSimpArgs false
open Go.RowKit Pl
attribute [local go_sem] Oper.semAt_some
namespace Pl
def slotsB (b0 b1 b2 b3 b4 b5 b6 b7 : Bool) : List Nat := (bif b0 then [0] else []) ++ (bif b1 then [1] else []) ++ (bif b2 then [2] else []) ++ (bif b3 then [3] else []) ++ (bif b4 then [4] else []) ++ (bif b5 then [5] else []) ++ (bif b6 then [6] else []) ++ (bif b7 then [7] else [])
def slots (p : Nat → Bool) : List Nat := slotsB (p 0) (p 1) (p 2) (p 3) (p 4) (p 5) (p 6) (p 7)
theorem slots_b : ∀ b0 b1 b2 b3 b4 b5 b6 b7 : Bool, (fstB b0 b1 b2 b3 b4 b5 b6 b7 = 8 ∧ slotsB b0 b1 b2 b3 b4 b5 b6 b7 = []) ∨ (fstB b0 b1 b2 b3 b4 b5 b6 b7 ≠ 8 ∧ slotsB b0 b1 b2 b3 b4 b5 b6 b7 = fstB b0 b1 b2 b3 b4 b5 b6 b7 :: slotsB (b0 && (fstB b0 b1 b2 b3 b4 b5 b6 b7 != 0)) (b1 && (fstB b0 b1 b2 b3 b4 b5 b6 b7 != 1)) (b2 && (fstB b0 b1 b2 b3 b4 b5 b6 b7 != 2)) (b3 && (fstB b0 b1 b2 b3 b4 b5 b6 b7 != 3)) (b4 && (fstB b0 b1 b2 b3 b4 b5 b6 b7 != 4)) (b5 && (fstB b0 b1 b2 b3 b4 b5 b6 b7 != 5)) (b6 && (fstB b0 b1 b2 b3 b4 b5 b6 b7 != 6)) (b7 && (fstB b0 b1 b2 b3 b4 b5 b6 b7 != 7)) ∧
    wd (hi (b0 && (fstB b0 b1 b2 b3 b4 b5 b6 b7 != 0))) (hi (b1 && (fstB b0 b1 b2 b3 b4 b5 b6 b7 != 1))) (hi (b2 && (fstB b0 b1 b2 b3 b4 b5 b6 b7 != 2))) (hi (b3 && (fstB b0 b1 b2 b3 b4 b5 b6 b7 != 3))) (hi (b4 && (fstB b0 b1 b2 b3 b4 b5 b6 b7 != 4))) (hi (b5 && (fstB b0 b1 b2 b3 b4 b5 b6 b7 != 5))) (hi (b6 && (fstB b0 b1 b2 b3 b4 b5 b6 b7 != 6))) (hi (b7 && (fstB b0 b1 b2 b3 b4 b5 b6 b7 != 7))) < wd (hi b0) (hi b1) (hi b2) (hi b3) (hi b4) (hi b5) (hi b6) (hi b7)) := by decide +kernel
theorem slots_split (p : Nat → Bool) : (fst p = 8 ∧ slots p = []) ∨ (fst p ≠ 8 ∧ slots p = fst p :: slots (rst p) ∧ mask (rst p) < mask p) := slots_b (p 0) (p 1) (p 2) (p 3) (p 4) (p 5) (p 6) (p 7)
def stillOf (wr : World) (v : Value) : Nat := match v with
  | .pointer (some a) => match wr.cell? a with
    | some (.int _ m) => m.toNat
    | _ => 0
  | _ => 0
theorem stillOf_blk {wr : World} {b m : Nat} (h : wr.cell? ⟨b, 0, none⟩ = some (.int .u64 (m : Nat))) : stillOf wr (.pointer (some ⟨b, 0, none⟩)) = m := by
  simp [stillOf, h]
end Pl
theorem mask_wrap (p : Nat → Bool) : mask p < 18446744073709551616 := mask_lt p
set_option maxRecDepth 100000 in
set_option maxHeartbeats 1000000 in
theorem all1_low (n : Nat) (hn : 1 ≤ n) (Bn : Nat) (p : Nat → Bool) (w : World) (hBn : Bn < w.heap.size) (hc : w.cell? ⟨Bn, 0, none⟩ = some (.int .u64 (mask p : Nat))) :
    SeqLow Fence.wide n Tryd.prog 29 #[.pointer (some ⟨Bn, 0, none⟩)] (fun x : Nat => #[Value.int .i64 (x : Int)]) (fun xs => xs = slots p) (fun pre => pre <+: slots p) (fun pre x => ∃ r, slots p = pre ++ x :: r) Tab w := by
  intro l J Jx W hW hJ hJx hG hY h0
  have hc0 : W.cell? ⟨Bn, 0, none⟩ = some (.int .u64 (mask p : Nat)) := (hW.cell (p := ⟨Bn, 0, none⟩) hBn).trans hc
  refine callsIn_of_wp Tryd.func29 rfl trivial ?_ rfl
  simp only [Tryd.ntmps29, List.size_toArray, List.length_cons, List.length_nil, Nat.reduceAdd, Nat.reduceSub, Array.replicate_succ, Array.replicate_zero, List.push_toArray, List.append_toArray, List.nil_append, List.cons_append]
  have hB0 : Below W.heap.size W (W.alloc (.cells #[.int .u64 (mask p : Nat)] 26)) := (Below.refl _ _).alloc (Nat.le_refl _) _
  have hO0 := Blk.new W #[.int .u64 (mask p : Nat)] 26
  have hJ0 := hJ _ _ _ h0 hB0
  gi_wp2
  gi_loopw [3] (fun ptr wr => ∃ (pre : List Nat) (p' : Nat → Bool) (Lb : Nat), ptr = .pointer (some ⟨Lb, 0, none⟩) ∧ W.heap.size ≤ Lb ∧ Hid (Blk wr Lb #[.int .u64 (mask p' : Nat)] 26) ∧ Hid (slots p = pre ++ slots p') ∧ Hid (J pre wr)) (fun ptr wr => stillOf wr ptr)
  case atStart => exact ⟨[], p, W.heap.size, rfl, Nat.le_refl _, hO0, rfl, hJ0⟩
  case round =>
    obtain ⟨pre, p', Lb, rfl, hLb, hO, hsl, hJs⟩ := hrel
    have c0 := hO.out.cell 0
    have hfr := hO.out.free 0
    rcases slots_split p' with ⟨h8, hnil⟩ | ⟨h8, hcons, hlt⟩
    · have hz : ((mask p' : Nat) : Int) = 0 := by rw [(mask_zero p').2 h8]; rfl
      rw [hz] at c0
      gi_wp2
      go_end0
      exact ⟨⟨_, rfl⟩, .inl ⟨pre, by rw [hsl.out, hnil, List.append_nil], hJs.out⟩⟩
    · have hz : ¬ mask p' = 0 := fun e => h8 ((mask_zero p').1 e)
      obtain ⟨k, hk⟩ : ∃ k, fst p' = k := ⟨_, rfl⟩
      rw [hk] at hcons
      have hTw : Tab wr := hG _ _ hJs.out
      gi_wp2_with (refine ⟨trivial, ?_⟩; gi_at_call 17; refine (callsIn_wide.2 (first_to p' k _ hTw hk)).mono ?_; rintro e w1 ⟨rfl, hb1⟩; obtain ⟨fn, tmps, assign, body, hy, hR⟩ := hY pre k w1 (hJ _ _ _ hJs.out (hb1.mono (by have := hO.out.lt; omega))) (by have := hb1.size; have := hO.out.lt; omega) ⟨_, by rw [hsl.out, hcons]⟩)
      have hLw : Lb < w1.heap.size := Nat.lt_of_lt_of_le hO.out.lt hb1.size
      have hO1 := Lib.hid (hO.out.keep hb1)
      have hms := Lib.hid (stillOf_blk c0)
      replace hb1 := Lib.hid hb1
      replace hlt := Lib.hid hlt
      clear c0 hfr
      refine hR.mono ?_
      rintro e W3 (⟨rfl, hJ3, hk3⟩ | ⟨rfl, hJx3⟩)
      · have hO3 : Blk W3 Lb #[.int .u64 (mask p' : Nat)] 26 := (hk3.2 Lb hLb hLw).trans hO1.out
        have hW3 : W.heap.size ≤ W3.heap.size := by have := hO3.lt; omega
        have c3 := hO3.cell 0
        have hN3 := Blk.new W3 #[.int .u64 (mask p' : Nat)] 26
        have hB3 := Lib.hid ((Below.refl W.heap.size W3).alloc hW3 (.cells #[.int .u64 (mask p' : Nat)] 26))
        have n3 := hN3.cell 0
        replace hN3 := Lib.hid hN3
        replace hO3 := Lib.hid hO3
        replace hJ3 := Lib.hid hJ3
        replace hk3 := Lib.hid hk3
        gi_wp2_with (refine ⟨trivial, ?_⟩; gi_at_call 30; refine (callsIn_wide.2 (rest_any p' _)).mono ?_; rintro e w4 ⟨rfl, hb4⟩; have hN4 := hN3.out.keep hb4; have n4 := hN4.cell 0; have f4 := hN4.free 0; have hB4 := Lib.hid (hB3.out.trans (hb4.mono (by simp; omega))); replace hN4 := Lib.hid hN4; replace hb4 := Lib.hid hb4)
        have hN5 := hN4.out.set 0 (.int .u64 (mask (rst p') : Nat))
        have m5 : stillOf (w4.setCell ⟨W3.heap.size, 0, none⟩ (.int .u64 (mask (rst p') : Nat))) (.pointer (some ⟨W3.heap.size, 0, none⟩)) = mask (rst p') := stillOf_blk (hN5.cell 0)
        refine ⟨⟨pre ++ [k], rst p', W3.heap.size, rfl, hW3, hN5, by unfold Hid; rw [hsl.out, hcons]; simp, hJ _ _ _ hJ3.out (hB4.out.setCell (p := ⟨W3.heap.size, 0, none⟩) hW3 _)⟩, ?_⟩
        rw [m5, hms.out]
        exact hlt.out
      · gi_wp2
        refine bodyPost_ret (results_none rfl _ _ _) rfl ?_
        exact ⟨⟨_, rfl⟩, .inr ⟨pre ++ [k], ⟨slots (rst p'), by rw [hsl.out, hcons]; simp⟩, hJx3⟩⟩
theorem SeqLow.inRound {α : Type} {F : Fence} {n : Nat} {P : Program} {g : Nat} {lb : Array Value} {encs : α → Array Value} {S Sp : List α → Prop} {Nx : List α → α → Prop} {Gd : World → Prop} {w : World} (l : Nat) (h : SeqLow F n P g lb encs S Sp Nx Gd w) : SeqLow (F.inRound l) n P g lb encs S Sp Nx Gd w := h
theorem all_any (p : Nat → Bool) (w : World) : Calls Tryd.prog 14 #[.agg #[.int .u64 (mask p : Nat)]] w fun e w' => e = .returned (.func (.func 29) #[] #[.pointer (some ⟨w.heap.size, 0, none⟩)]) ∧ Below w.heap.size w w' ∧ Blk w' w.heap.size #[.int .u64 (mask p : Nat)] 26 := by
  have hO := Blk.new w #[.int .u64 (mask p : Nat)] 26
  have hB := (Below.refl w.heap.size w).alloc (Nat.le_refl _) (.cells #[.int .u64 (mask p : Nat)] 26)
  go_enter Tryd.func14, Tryd.ntmps14
  go_wp2_with fail
  go_ret
  exact ⟨rfl, hB, hO⟩
end Go.Proofs.YtakmaedimelaaaaDoor
