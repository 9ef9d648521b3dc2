/- What is proved here: the contracts of the law's own mark and slotApart. Conditions: a right layout, a row of marks that is free from a place on. -/
import Derived.Test.YtlfppmdehkhjiaaLBox
import Derived.Test.YtlfppmdehkhjiaaTurns
import Derived.Test.YtlfppmdehkhjiaaSplice
import Derived.OwnWalk
namespace Go.Proofs.Ytlfppmdehkhjiaa
set_option linter.unusedVariables false
set_option linter.unusedSimpArgs false
open Go.RowKit Pl Ps
/-- marks as cells -/
def bls (l : List Bool) : Array Value := (l.map Value.bool).toArray
theorem bls_get? (l : List Bool) (i : Nat) : (bls l)[i]? = (l[i]?).map Value.bool := by simp [bls]
theorem bls_set (l : List Bool) (i : Nat) (b : Bool) : (bls l).setIfInBounds i (.bool b) = bls (l.set i b) := by
  apply Array.ext'
  simp [bls, List.map_set]
theorem infoBool : (Try.prog.info? 4).map (fun i => (i.zero, i.size, i.bytes)) = some (some (.bool false), 1, 1) := by kernel_rfl
theorem made_false (n : Nat) : madeCells #[Value.bool false] n = bls (List.replicate n false) := by
  apply Array.ext
  · simp [madeCells, bls]
  · intro i h1 h2
    simp [madeCells, bls, Nat.mod_one]
theorem wpList_make_bools {w : World} {ops : Array Oper} {rest : List Oper} {o : Oper} {a : Act} {Q : Exit → Act → World → Prop} (hg : o.guard = none) (l c : Operand) (hop : o.op = Op.makeSlice 41 l c) (L C : Nat) (hl : a.eval l = .int .i64 (L : Int)) (hc : a.eval c = .int .i64 (C : Int)) (h1 : L ≤ C) (h2 : C ≤ 281474976710656)
    (h : wpList Try.prog ops Q rest (a.put o.dst (.slice (some ⟨w.heap.size, 0, none⟩) L C)) (w.alloc (.cells (bls (List.replicate C false)) 4))) : wpList Try.prog ops Q (o :: rest) a w := by
  obtain ⟨i0, hi, hz0, hz1, hz2⟩ := info_parts infoBool
  refine wpList_plain hg fun K hK' => ?_
  have hr := run_make (P := Try.prog) w 41 4 i0 (.bool false) Try.underlying41 hi hz0 .i64 .i64 L C (by omega) (by omega) (by rw [hz2]; omega) (by omega)
  rw [hz1, Nat.mul_one] at hr
  have e : madeCells (Value.bool false).cells (C : Int).toNat = bls (List.replicate C false) := by rw [Int.toNat_natCast]; exact made_false _
  rw [e, Int.toNat_natCast, Int.toNat_natCast] at hr
  unfold Oper.wp
  simp [execOp, hop, hl, hc, hr, Result.andThen]
  exact hK' _ _ h
/-- the marks are free from a place on -/
def FreeFrom (O : List Bool) (k : Nat) : Prop := ∀ j, k ≤ j → j < O.length → O[j]? = some false
set_option maxRecDepth 100000 in
theorem mark_in (O : List Bool) (g off n c : Nat) (I N : Int) (hI : I = off) (hN : N = n) (w : World) (hb : Blk w g (bls O) 4) (hf : FreeFrom O off) (hfit : off + n ≤ O.length) (hl : O.length ≤ 1000000) :
    Calls Try.prog 20 #[.slice (some ⟨g, 0, none⟩) O.length c, .int .i64 I, .int .i64 N] w fun e w' => e = .returned (.bool true) ∧ (∃ O' : List Bool, O'.length = O.length ∧ FreeFrom O' (off + n) ∧ Blk w' g (bls O') 4) ∧ Turns [g] w w' := by
  subst hI; subst hN
  have hsl := fun j (hj : j ≤ n) => splice_len O off (List.replicate j true) (by rw [List.length_replicate]; omega)
  replace hsl := Lib.hid hsl
  replace hb := Lib.hid hb
  replace hf := Lib.hid hf
  go_enter Try.func20, Try.ntmps20
  go_wp2_with fail
  go_loopw [7] (fun i wr => ∃ j : Nat, j ≤ n ∧ i = .int .i64 ((off + j : Nat) : Int) ∧ Blk wr g (bls (splice O off (List.replicate j true))) 4 ∧ Turns [g] w wr) (fun i _ => (off + n - (intOf i).toNat))
  case atStart => exact ⟨0, by omega, by simp, by rw [List.replicate_zero, splice_nil]; exact hb.out, Turns.refl _ _⟩
  case round =>
    obtain ⟨j, hj, rfl, hm, ht⟩ := hrel
    replace ht := Lib.hid ht
    obtain ⟨x, hx⟩ : ∃ x, Hid (x = off + j) := ⟨_, rfl⟩
    rw [← hx.out]
    by_cases hlt : j < n
    · have hxl : x < O.length := by have := hx.out; omega
      have hxn : x < off + n := by have := hx.out; omega
      have hfree : Hid ((splice O off (List.replicate j true))[x]? = some false) := by
        unfold Hid; rw [splice_out _ _ _ (by simp; omega) x (by have := hx.out; simp; omega)]; exact hf.out x (by have := hx.out; omega) hxl
      have hc : wr.cell? ⟨g, x, none⟩ = some (.bool false) := by rw [hm.cell, bls_get?, hfree.out]; rfl
      have hz := hm.free x
      have HM := Lib.hid hm
      clear hm
      go_wp2_with fail
      go_roundw
      case rel =>
        have hp := HM.out.set x (.bool true)
        have e := splice_take_step O off (List.replicate n true) j true (by simp; omega) (by rw [List.getElem?_replicate, if_pos hlt])
        rw [List.take_replicate, List.take_replicate, Nat.min_eq_left (by omega), Nat.min_eq_left (by omega)] at e
        rw [bls_set, hx.out, e] at hp
        exact ⟨j + 1, by omega, by have := hx.out; go_num, by rw [hx.out]; exact hp, ht.out.set _ _ _ (Or.inl (by simp))⟩
      case measure => simp [intOf]; omega
    · have hje : j = n := by omega
      have hxn : ¬ x < off + n := by have := hx.out; omega
      subst hje
      have HM := Lib.hid hm
      clear hm
      go_wp2_with fail
      go_ret
      refine ⟨rfl, ⟨splice O off (List.replicate j true), hsl.out j (Nat.le_refl _), fun i h1 h2 => ?_, HM.out⟩, ht.out⟩
      rw [hsl.out j (Nat.le_refl _)] at h2
      rw [splice_out _ _ _ (by simp; omega) i (by simp; omega)]
      exact hf.out i (by omega) h2
end Go.Proofs.Ytlfppmdehkhjiaa
