/- What is proved here: the contracts of the reference's Load, Equal and Read. Conditions: a reference memory that is there. -/
import Derived.Test.YtkchhggbiopffaaPStore
namespace Go.Proofs.Ytkchhggbiopffaa
set_option linter.unusedVariables false
set_option linter.unusedSimpArgs false
open Go.RowKit Pm
section
variable {w w' : World} {r : Nat} {V v' : Value} {A : List ActV} {M M' : List UInt8}
theorem rload_width (off k : Int) (hk : ¬ (k = 1 ∨ k = 2 ∨ k = 4 ∨ k = 8)) : Calls Try.prog 45 #[.pointer (some ⟨r, 0, none⟩), .int .i64 off, .int .i64 k] w fun e w' => e = .returned (.tuple #[.int .u64 0, .int .i64 10]) ∧ w = w' := by
  have hc := Lib.hid (width_no k w hk)
  clear hk
  go_enter Try.func45, Try.ntmps45
  go_wp2_with fail
  refine hc.out.mono ?_
  rintro e w' ⟨rfl, rfl⟩
  go_wp2_with fail
  go_ret2
  exact ⟨rfl, rfl⟩
theorem rload_out (h : RefAt w r V A M) (off k : Int) (hk : k = 1 ∨ k = 2 ∨ k = 4 ∨ k = 8) (hi : insF M.length off k = false) : Calls Try.prog 45 #[.pointer (some ⟨r, 0, none⟩), .int .i64 off, .int .i64 k] w fun e w' => e = .returned (.tuple #[.int .u64 0, .int .i64 11]) ∧ w = w' := by
  have hc := Lib.hid (width_yes k w hk)
  have hc2 := Lib.hid (rinside_to h off k false hi)
  replace h := Lib.hid h
  clear hk hi
  go_enter Try.func45, Try.ntmps45
  go_wp2_with fail
  refine hc.out.mono ?_
  rintro e w' ⟨rfl, rfl⟩
  go_wp2_with fail
  refine hc2.out.mono ?_
  rintro e w' ⟨rfl, rfl⟩
  go_wp2_with fail
  go_ret2
  exact ⟨rfl, rfl⟩
theorem leN_tail (M : List UInt8) (off k i : Nat) (hi : i < k) (hf : off + k ≤ M.length) : leN ((M.drop (off + i)).take (k - i)) = leN ((M.drop (off + (i + 1))).take (k - (i + 1))) * 256 + (M.getD (off + i) 0).toNat := by
  have hlt : off + i < M.length := by omega
  rw [List.drop_eq_getElem_cons hlt, show k - i = (k - (i + 1)) + 1 by omega, List.take_succ_cons, leN]
  have e : M.getD (off + i) 0 = M[off + i] := by simp [List.getD, List.getElem?_eq_getElem hlt]
  rw [e, show off + (i + 1) = off + i + 1 by omega]; omega
theorem leN_bound (M : List UInt8) (off k i : Nat) (hk : k ≤ 8) (hf : off + k ≤ M.length) (hi : 1 ≤ i) : leN ((M.drop (off + i)).take (k - i)) < 72057594037927936 := by
  have h := leN_lt ((M.drop (off + i)).take (k - i))
  refine Nat.lt_of_lt_of_le h ?_
  have hl : ((M.drop (off + i)).take (k - i)).length ≤ 7 := by simp; omega
  exact Nat.pow_le_pow_right (n := 256) (j := 7) (by decide) hl
set_option maxHeartbeats 1000000 in
theorem rload_in (h : RefAt w r V A M) (off k : Nat) (hk : k = 1 ∨ k = 2 ∨ k = 4 ∨ k = 8) (hf : off + k ≤ M.length) : Calls Try.prog 45 #[.pointer (some ⟨r, 0, none⟩), .int .i64 off, .int .i64 k] w fun e w' => e = .returned (.tuple #[.int .u64 (leN ((M.drop off).take k)), .int .i64 0]) ∧ Below w.heap.size w w' := by
  have hc := Lib.hid (width_yes k w (by omega))
  have hc2 := Lib.hid (rinside_to h off k true (ins_true (by omega) (by omega) (by omega)))
  have hcap := h.cap
  have hk8 : k ≤ 8 := by omega
  have hk1 : 1 ≤ k := by omega
  replace h := Lib.hid h
  clear hk
  go_enter Try.func45, Try.ntmps45
  go_wp2_with fail
  refine hc.out.mono ?_
  rintro e w' ⟨rfl, rfl⟩
  go_wp2_with fail
  refine hc2.out.mono ?_
  rintro e w' ⟨rfl, rfl⟩
  go_wp2_with fail
  go_loopw [8, 9] (fun nv iv wr => ∃ (i : Nat) (z : Int) (x : Nat), i ≤ k ∧ z = (i : Int) - 1 ∧ iv = .int .i64 z ∧ nv = .int .u64 x ∧ Hid (leN ((M.drop (off + i)).take (k - i)) = x) ∧ Below w.heap.size w wr) (fun _ iv _ => (intOf iv + 1).toNat)
  case atStart => exact ⟨k, _, 0, by omega, rfl, rfl, rfl, by unfold Hid; rw [Nat.sub_self]; rfl, Below.refl _ _⟩
  case round =>
    obtain ⟨i, z, x, hi, hz, rfl, rfl, hx, hB⟩ := hrel
    by_cases hi0 : i = 0
    · subst hi0
      obtain rfl : z = -1 := by omega
      clear hz hi
      rw [Nat.add_zero, Nat.sub_zero] at hx
      obtain rfl := hx.out
      go_wp2_with fail
      go_ret2
      exact ⟨rfl, hB⟩
    · obtain ⟨i, rfl⟩ : ∃ j, i = j + 1 := ⟨i - 1, by omega⟩
      obtain rfl : z = (i : Int) := by omega
      clear hz hi0
      have hst := Lib.hid (leN_tail M off k i (by omega) hf)
      have hbd := leN_bound M off k (i + 1) hk8 hf (by omega)
      rw [hx.out] at hst hbd
      have hat := Lib.hid (rat_any (h.out.keep hB) (off + i) (by omega))
      obtain ⟨c, hce⟩ : ∃ c, M.getD (off + i) 0 = c := ⟨_, rfl⟩
      rw [hce] at hat hst
      clear hce
      have hc1 : c.toNat < 256 := c.toNat_lt
      have f1 : IntKind.i64.wrap ((off : Int) + (i : Int)) = ((off + i : Nat) : Int) := by rw [IntWalk.i64_in _ (by omega)]; omega
      have f2 : IntKind.u64.wrap ((x : Int) * 256) = (x : Int) * 256 := wraps_u64 _ (by omega) (by omega)
      have f3 : IntKind.u64.wrap ((x : Int) * 256 + (c.toNat : Int)) = ((x * 256 + c.toNat : Nat) : Int) := by rw [wraps_u64 _ (by omega) (by omega)]; omega
      have f4 : IntKind.u64.wrap (c.toNat : Int) = (c.toNat : Int) := wraps_u64 _ (by omega) (by omega)
      replace hB := Lib.hid hB
      go_wp2_with fail
      refine hat.out.mono ?_
      rintro e w2 ⟨rfl, hb2⟩
      have hB2 := Lib.hid (Below.then hB.out hb2)
      go_wp2_with fail
      go_roundw
      case rel => exact ⟨i, _, x * 256 + c.toNat, by omega, rfl, by go_num, by go_num, hst.out, hB2.out⟩
      case measure => simp [intOf] <;> omega
theorem requal_out (h : RefAt w r V A M) (x y k : Int) (hi : insF M.length x k = false ∨ insF M.length y k = false) : Calls Try.prog 46 #[.pointer (some ⟨r, 0, none⟩), .int .i64 x, .int .i64 y, .int .i64 k] w fun e w' => e = .returned (.tuple #[.bool false, .int .i64 11]) ∧ w = w' := by
  cases hd : insF M.length x k with
  | false =>
    have hc := Lib.hid (rinside_to h x k false hd)
    replace h := Lib.hid h
    clear hi hd
    go_enter Try.func46, Try.ntmps46
    go_wp2_with fail
    refine hc.out.mono ?_
    rintro e w' ⟨rfl, rfl⟩
    go_wp2_with fail
    go_ret2
    exact ⟨rfl, rfl⟩
  | true =>
    have hs : insF M.length y k = false := by
      rcases hi with hi | hi
      · rw [hd] at hi; cases hi
      · exact hi
    have hc := Lib.hid (rinside_to h x k true hd)
    have hc2 := Lib.hid (rinside_to h y k false hs)
    replace h := Lib.hid h
    clear hi hd hs
    go_enter Try.func46, Try.ntmps46
    go_wp2_with fail
    refine hc.out.mono ?_
    rintro e w' ⟨rfl, rfl⟩
    go_wp2_with fail
    refine hc2.out.mono ?_
    rintro e w' ⟨rfl, rfl⟩
    go_wp2_with fail
    go_ret2
    exact ⟨rfl, rfl⟩
theorem same_span (M : List UInt8) (x y k : Nat) (hx : x + k ≤ M.length) (hy : y + k ≤ M.length) (h : ∀ j, j < k → M.getD (x + j) 0 = M.getD (y + j) 0) : (M.drop x).take k = (M.drop y).take k := by
  apply List.ext_getElem?
  intro i
  rw [List.getElem?_take, List.getElem?_take, List.getElem?_drop, List.getElem?_drop]
  by_cases hi : i < k
  · rw [if_pos hi, if_pos hi]
    have := h i hi
    simp only [List.getD, List.getElem?_eq_getElem (show x + i < M.length by omega), List.getElem?_eq_getElem (show y + i < M.length by omega), Option.getD_some] at this
    rw [List.getElem?_eq_getElem (show x + i < M.length by omega), List.getElem?_eq_getElem (show y + i < M.length by omega), this]
  · rw [if_neg hi, if_neg hi]
theorem diff_span (M : List UInt8) (x y k j : Nat) (hj : j < k) (h : M.getD (x + j) 0 ≠ M.getD (y + j) 0) : (M.drop x).take k ≠ (M.drop y).take k := by
  intro e
  have e2 := congrArg (fun l => l[j]?) e
  simp only [List.getElem?_take, if_pos hj, List.getElem?_drop] at e2
  exact h (by simp only [List.getD]; rw [e2])
set_option maxHeartbeats 1000000 in
theorem requal_in (h : RefAt w r V A M) (x y k : Nat) (hx : x + k ≤ M.length) (hy : y + k ≤ M.length) : Calls Try.prog 46 #[.pointer (some ⟨r, 0, none⟩), .int .i64 x, .int .i64 y, .int .i64 k] w fun e w' =>
    e = .returned (.tuple #[.bool (decide ((M.drop x).take k = (M.drop y).take k)), .int .i64 0]) ∧ Below w.heap.size w w' := by
  have hc := Lib.hid (rinside_to h x k true (ins_true (by omega) (by omega) (by omega)))
  have hc2 := Lib.hid (rinside_to h y k true (ins_true (by omega) (by omega) (by omega)))
  have hcap := h.cap
  replace h := Lib.hid h
  go_enter Try.func46, Try.ntmps46
  go_wp2_with fail
  refine hc.out.mono ?_
  rintro e w' ⟨rfl, rfl⟩
  go_wp2_with fail
  refine hc2.out.mono ?_
  rintro e w' ⟨rfl, rfl⟩
  go_wp2_with fail
  go_loopw [10] (fun iv wr => ∃ j : Nat, j ≤ k ∧ iv = .int .i64 j ∧ Hid (∀ i, i < j → M.getD (x + i) 0 = M.getD (y + i) 0) ∧ Below w.heap.size w wr) (fun iv _ => (k - intOf iv).toNat)
  case atStart => exact ⟨0, by omega, rfl, fun i hi => by omega, Below.refl _ _⟩
  case round =>
    obtain ⟨j, hj, rfl, hall, hB⟩ := hrel
    by_cases hlt : j < k
    · have f1 : IntKind.i64.wrap ((x : Int) + (j : Int)) = ((x + j : Nat) : Int) := by rw [IntWalk.i64_in _ (by omega)]; omega
      have f2 : IntKind.i64.wrap ((y : Int) + (j : Int)) = ((y + j : Nat) : Int) := by rw [IntWalk.i64_in _ (by omega)]; omega
      have h2 := h.out.keep hB
      have hat := Lib.hid (rat_any h2 (x + j) (by omega))
      have hat2 := Lib.hid (fun (w2 : World) (hb : Below wr.heap.size wr w2) => rat_any (h2.keep hb) (y + j) (by omega))
      obtain ⟨c, hce⟩ : ∃ c, M.getD (x + j) 0 = c := ⟨_, rfl⟩
      obtain ⟨d, hde⟩ : ∃ d, M.getD (y + j) 0 = d := ⟨_, rfl⟩
      rw [hce] at hat
      rw [hde] at hat2
      replace hce := Lib.hid hce
      replace hde := Lib.hid hde
      clear h2
      replace hB := Lib.hid hB
      by_cases hcd : c = d
      · subst hcd
        have hne : ((c.toNat : Int) != (c.toNat : Int)) = false := by simp
        go_wp2_with fail
        refine hat.out.mono ?_
        rintro e w2 ⟨rfl, hb2⟩
        have c2 := Lib.hid (hat2.out w2 hb2)
        have hB2 := Lib.hid (Below.then hB.out hb2)
        go_wp2_with fail
        refine c2.out.mono ?_
        rintro e w3 ⟨rfl, hb3⟩
        have hB3 := Lib.hid (Below.then hB2.out hb3)
        go_wp2_with fail
        go_roundw
        case rel =>
          refine ⟨j + 1, by omega, by go_num, fun i hi => ?_, hB3.out⟩
          by_cases e : i = j
          · subst e; rw [hce.out, hde.out]
          · exact hall.out i (by omega)
        case measure => simp [intOf]; omega
      · have hne : ((c.toNat : Int) != (d.toNat : Int)) = true := by
          simp; intro e; exact hcd (UInt8.toNat_inj.1 (by omega))
        have hds := Lib.hid (diff_span M x y k j hlt (by rw [hce.out, hde.out]; exact hcd))
        go_wp2_with fail
        refine hat.out.mono ?_
        rintro e w2 ⟨rfl, hb2⟩
        have c2 := Lib.hid (hat2.out w2 hb2)
        have hB2 := Lib.hid (Below.then hB.out hb2)
        go_wp2_with fail
        refine c2.out.mono ?_
        rintro e w3 ⟨rfl, hb3⟩
        have hB3 := Lib.hid (Below.then hB2.out hb3)
        go_wp2_with fail
        go_ret2
        exact ⟨ret_tup2 (by simp [hds.out]) rfl, hB3.out⟩
    · obtain rfl : j = k := by omega
      have hss := Lib.hid (same_span M x y j hx hy hall.out)
      go_wp2_with fail
      go_ret2
      exact ⟨ret_tup2 (by simp [hss.out]) rfl, hB⟩
/-- bytes as cells in a row -/
def cl (X : List UInt8) : List Value := X.map fun b => Value.int .u8 (b.toNat : Int)
/-- a slice that reads as these bytes -/
def Told (w : World) (v : Value) (X : List UInt8) : Prop := (v = .slice none 0 0 ∧ X = []) ∨ ∃ g cap, v = .slice (some ⟨g, 0, none⟩) X.length cap ∧ ∀ (j : Nat) (b : UInt8), X[j]? = some b → w.cell? ⟨g, j, none⟩ = some (.int .u8 (b.toNat : Int))
theorem rread_out (h : RefAt w r V A M) (off k : Int) (hi : insF M.length off k = false) : Calls Try.prog 47 #[.pointer (some ⟨r, 0, none⟩), .int .i64 off, .int .i64 k] w fun e w' => e = .returned (.tuple #[.slice none 0 0, .int .i64 11]) ∧ w = w' := by
  have hc := Lib.hid (rinside_to h off k false hi)
  replace h := Lib.hid h
  clear hi
  go_enter Try.func47, Try.ntmps47
  go_wp2_with fail
  refine hc.out.mono ?_
  rintro e w' ⟨rfl, rfl⟩
  go_wp2_with fail
  go_ret2
  exact ⟨rfl, rfl⟩
theorem row_told {base n : Nat} {v : Value} {X : List UInt8} (h : w.ownsRow base 5 1 v n (cl X)) : Told w v X := by
  have hl : X.length = n := by have := h.1; simpa [cl] using this
  have hc := fun g => h.cells (g := g)
  rcases h.2 with ⟨rfl, h0⟩ | ⟨g, cap, cur, rfl, h1, h2, h3⟩
  · exact Or.inl ⟨rfl, List.eq_nil_of_length_eq_zero (by omega)⟩
  · refine Or.inr ⟨g, cap, by rw [hl], fun j b hj => ?_⟩
    have := hc g rfl j (.int .u8 (b.toNat : Int)) (by rw [cl, List.getElem?_map, hj]; rfl)
    rw [Addr.add_lit] at this
    simpa using this
theorem row_base {w : World} {base n size : Nat} {e : TypeId} {v : Value} {xs : List Value} (h : w.ownsRow base e size v n xs) (g : Nat) (hg : v.ownBlock = some g) : base ≤ g := by
  rcases h.2 with ⟨rfl, _⟩ | ⟨g', cap, cur, rfl, h1, h2, h3⟩
  · cases hg
  · obtain rfl : g' = g := by simpa [Value.ownBlock] using hg
    exact h1
/-- a call's bytes -/
def ReadOut (w : World) (X : List UInt8) (e : Ending) (w' : World) : Prop := ∃ v, e = .returned (.tuple #[v, .int .i64 0]) ∧ Below w.heap.size w w' ∧ Told w' v X
set_option maxHeartbeats 1000000 in
theorem rread_in (h : RefAt w r V A M) (off k : Nat) (hf : off + k ≤ M.length) : Calls Try.prog 47 #[.pointer (some ⟨r, 0, none⟩), .int .i64 off, .int .i64 k] w (ReadOut w ((M.drop off).take k)) := by
  have hc := Lib.hid (rinside_to h off k true (ins_true (by omega) (by omega) (by omega)))
  have hcap := h.cap
  replace h := Lib.hid h
  obtain ⟨i0, hi, hz0, hz1, hz2⟩ := info_parts infoU8
  replace hi := Lib.hid hi
  replace hz0 := Lib.hid hz0
  replace hz1 := Lib.hid hz1
  replace hz2 := Lib.hid hz2
  go_enter Try.func47, Try.ntmps47
  go_wp2_with fail
  refine hc.out.mono ?_
  rintro e w' ⟨rfl, rfl⟩
  go_wp2_with fail
  go_loopw [8, 9] (fun vv iv wr => ∃ j : Nat, j ≤ k ∧ iv = .int .i64 j ∧ Hid (wr.ownsRow w.heap.size 5 1 vv j (cl ((M.drop off).take j))) ∧ Below w.heap.size w wr) (fun _ iv _ => (k - intOf iv).toNat)
  case atStart => exact ⟨0, by omega, rfl, World.ownsRow_nil _ _ _ _, Below.refl _ _⟩
  case round =>
    obtain ⟨j, hj, rfl, hrow, hB⟩ := hrel
    by_cases hlt : j < k
    · have f1 : IntKind.i64.wrap ((off : Int) + (j : Int)) = ((off + j : Nat) : Int) := by rw [IntWalk.i64_in _ (by omega)]; omega
      have hat := Lib.hid (rat_any (h.out.keep hB) (off + j) (by omega))
      obtain ⟨c, hce⟩ : ∃ c, M.getD (off + j) 0 = c := ⟨_, rfl⟩
      rw [hce] at hat
      have htk : Hid (cl ((M.drop off).take (j + 1)) = cl ((M.drop off).take j) ++ [.int .u8 (c.toNat : Int)]) := by
        unfold Hid cl
        have hl : off + j < M.length := by omega
        have e : M.getD (off + j) 0 = M[off + j] := by simp [List.getD, List.getElem?_eq_getElem hl]
        rw [List.take_add_one, List.getElem?_drop, List.getElem?_eq_getElem hl, List.map_append, ← hce, e]; rfl
      clear hce
      replace hB := Lib.hid hB
      go_wp2_with fail
      refine hat.out.mono ?_
      rintro e w2 ⟨rfl, hb2⟩
      have hB2 := Lib.hid (Below.then hB.out hb2)
      have hrow2 := Lib.hid ((row_keep hrow.out (fun g hg => hb2.block g (row_lt hrow.out g hg))).alloc (.cells #[.int .u8 (c.toNat : Int)] 5))
      have hsz := hB2.out.size
      go_wp2_with (at_builtin; refine wpList_append_own _ rfl _ _ _ rfl w.heap.size 5 i0 (.int .u8 0) 1 1 Try.underlying27 hi.out hz0.out hz1.out hz2.out rfl (by decide) _ j _ rfl hrow2.out ⟨w2.heap.size, 0, none⟩ 1 1 [.int .u8 (c.toNat : Int)] rfl rfl ?_ ?_ ?_ ?_ ?_ ?_)
      · intro q u hu
        cases q with
        | zero =>
          obtain rfl := Option.some.inj hu
          rw [Addr.add_lit]
          exact (Blk.new w2 _ _).cell 0
        | succ q => simp at hu
      · intro u hu; simp at hu; subst hu; rfl
      · unfold maxLen; omega
      · omega
      · simp; omega
      · intro v' w3 hown hg _
        have hB3 : Hid (Below w.heap.size w w3) := by
          have h1 := hB2.out.alloc hsz (.cells #[.int .u8 (c.toNat : Int)] 5)
          refine h1.trans ⟨hg.os, hg.tape, hg.output, hg.size, fun k' hk' => hg.block k' (by simp; omega) (fun e => ?_)⟩
          have := row_base hrow.out k' e.symm
          omega
        rw [← htk.out] at hown
        replace hown := Lib.hid hown
        clear hg hrow2
        go_wp2_with fail
        go_roundw
        case rel => exact ⟨j + 1, by omega, by go_num, hown.out, hB3.out⟩
        case measure => simp [intOf]; omega
    · obtain rfl : j = k := by omega
      go_wp2_with fail
      go_ret2
      exact ⟨_, rfl, hB, row_told hrow.out⟩
end
end Go.Proofs.Ytkchhggbiopffaa
