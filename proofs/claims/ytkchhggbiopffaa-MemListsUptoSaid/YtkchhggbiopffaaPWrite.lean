/- What is proved here: the contracts of the reference's Fill, Copy, Store and Write. Conditions: a reference memory that is there. -/
import Derived.Test.YtkchhggbiopffaaPApp
import Derived.Test.YtkchhggbiopffaaMWrites
namespace Go.Proofs.Ytkchhggbiopffaa
set_option linter.unusedVariables false
set_option linter.unusedSimpArgs false
open Go.RowKit Pm
/-- where the acts may lie behind a call -/
def MovedTo (w : World) (V V' : Value) : Prop := V'.ownBlock = V.ownBlock ∨ ∃ k, V'.ownBlock = some k ∧ w.heap.size ≤ k
theorem MovedTo.refl (w : World) (V : Value) : MovedTo w V V := Or.inl rfl
section
variable {w w' : World} {r : Nat} {V v' : Value} {A : List ActV} {M M' : List UInt8}
theorem RefAt.added (h : RefAt w r V A M) (o : Obj) (a : ActV) (hown : w'.ownsRow 0 85 6 v' (A.length + 1) (A.flatMap ActV.cells ++ a.cells)) (hg : (w.alloc o).grownBy w' V.ownBlock)
    (hv : v'.ownBlock = V.ownBlock ∨ ∃ k, v'.ownBlock = some k ∧ w.heap.size + 1 ≤ k) (hok : a.Ok) (hl : M'.length = M.length) (hsem : ∀ p, atA (a :: A.reverse) p = M'.getD p 0) :
    w'.cell? ⟨r, 1, none⟩ = some V ∧ w'.frozen? ⟨r, 1, none⟩ = false ∧ RefAt (w'.setCell ⟨r, 1, none⟩ v') r v' (A ++ [a]) M' ∧ Turns (r :: V.ownBlock.toList) w (w'.setCell ⟨r, 1, none⟩ v') ∧ MovedTo w V v' := by
  have hr := h.ptr.lt
  have hs : (w.alloc o).heap.size = w.heap.size + 1 := by simp
  have hb : Blk w' r #[.int .i64 M.length, V] 78 := (hg.block r (by omega) (fun e => h.ne e.symm)).trans (h.ptr.alloc o)
  have hne : v'.ownBlock ≠ some r := by
    intro e
    rcases hv with hv | ⟨k, hk, hk2⟩
    · exact h.ne (hv ▸ e)
    · rw [hk] at e; obtain rfl := Option.some.inj e; omega
  refine ⟨hb.cell 1, hb.free 1, ⟨?_, ?_, ?_, ?_, by rw [hl]; exact h.cap⟩, ?_, ?_⟩
  · have := hb.set 1 v'
    rw [hl]; simpa using this
  · rw [List.length_append, flat6_snoc]
    exact row_keep hown (fun g hg => Below.heap_setCell w' ⟨r, 1, none⟩ _ g (fun e => hne (by rw [hg, e])))
  · intro x hx
    rcases List.mem_append.1 hx with hx | hx
    · exact h.ok x hx
    · obtain rfl := List.mem_singleton.1 hx; exact hok
  · intro p
    rw [List.reverse_append]; exact hsem p
  · refine Turns.set ?_ r 1 v' (Or.inl (by simp))
    have h1 : Turns (r :: V.ownBlock.toList) w (w.alloc o) := (Turns.refl _ _).alloc o
    refine ⟨hg.os.trans h1.os, hg.tape.trans h1.tape, hg.output.trans h1.output, Nat.le_trans h1.size hg.size, fun k hk hn => ?_⟩
    refine (hg.block k (Nat.lt_of_lt_of_le hk h1.size) (fun e => hn ?_)).trans (h1.block k hk hn)
    rw [← e]; simp
  · rcases hv with hv | ⟨k, hk, hk2⟩
    · exact Or.inl hv
    · exact Or.inr ⟨k, hk, by omega⟩
theorem RefAt.fillsem (h : RefAt w r V A M) (off n : Nat) (b : UInt8) (hf : off + n ≤ M.length) (p : Nat) : atA (⟨1, off, n, 0, b, ByteArray.empty⟩ :: A.reverse) p = (splice M off (List.replicate n b)).getD p 0 := by
  rw [getD_splice _ _ _ (by simpa using hf), List.length_replicate]
  by_cases hp : p < off ∨ off + n ≤ p
  · rw [if_pos hp, atA_out hp, h.sem]
  · rw [if_neg hp, atA_fill hp rfl]
    simp only [List.getD, List.getElem?_replicate]
    rw [if_pos (by omega)]; rfl
theorem RefAt.copysem (h : RefAt w r V A M) (dst src n : Nat) (hd : dst + n ≤ M.length) (hs : src + n ≤ M.length) (p : Nat) : atA (⟨3, dst, n, src, 0, ByteArray.empty⟩ :: A.reverse) p = (splice M dst ((M.drop src).take n)).getD p 0 := by
  have hl : ((M.drop src).take n).length = n := by simp; omega
  rw [getD_splice _ _ _ (by rw [hl]; exact hd), hl]
  by_cases hp : p < dst ∨ dst + n ≤ p
  · rw [if_pos hp, atA_out hp, h.sem]
  · rw [if_neg hp, atA_copy hp rfl, h.sem]
    simp only [List.getD, List.getElem?_take, List.getElem?_drop]
    rw [if_pos (by omega)]
theorem RefAt.laidsem (h : RefAt w r V A M) (off n : Nat) (s : ByteArray) (hn : s.size = n) (hf : off + n ≤ M.length) (p : Nat) : atA (⟨2, off, n, 0, 0, s⟩ :: A.reverse) p = (splice M off s.data.toList).getD p 0 := by
  have hl : s.data.toList.length = n := by simpa using hn
  rw [getD_splice _ _ _ (by rw [hl]; exact hf), hl]
  by_cases hp : p < off ∨ off + n ≤ p
  · rw [if_pos hp, atA_out hp, h.sem]
  · rw [if_neg hp, atA_laid hp rfl]
/-- a call that writes an act: its error, the memory behind it -/
def Wrote (w : World) (r : Nat) (V : Value) (A : List ActV) (M' : List UInt8) (e : Ending) (w' : World) : Prop :=
  ∃ V' A', e = .returned (.int .i64 0) ∧ RefAt w' r V' A' M' ∧ A'.length = A.length + 1 ∧ Turns (r :: V.ownBlock.toList) w w' ∧ MovedTo w V V'
theorem rfill_out (h : RefAt w r V A M) (off k v : Int) (hi : insF M.length off k = false) : Calls Try.prog 41 #[.pointer (some ⟨r, 0, none⟩), .int .i64 off, .int .i64 k, .int .u8 v] w fun e w' => e = .returned (.int .i64 11) ∧ w = w' := by
  have hc := Lib.hid (rinside_to h off k false hi)
  replace h := Lib.hid h
  go_enter Try.func41, Try.ntmps41
  go_wp2_with fail
  refine hc.out.mono ?_
  rintro e w' ⟨rfl, rfl⟩
  go_wp2_with fail
  go_ret
  exact ⟨rfl, rfl⟩
theorem rfill_in (h : RefAt w r V A M) (off k : Nat) (c : UInt8) (hf : off + k ≤ M.length) (hl : A.length ≤ 100000000000) : Calls Try.prog 41 #[.pointer (some ⟨r, 0, none⟩), .int .i64 off, .int .i64 k, .int .u8 (c.toNat : Int)] w (Wrote w r V A (splice M off (List.replicate k c))) := by
  have hc := Lib.hid (rinside_to h off k true (ins_true (by omega) (by omega) (by omega)))
  have hcap := h.cap
  have c1 := h.c1
  have f1 := h.ptr.free 1
  have hsem := Lib.hid (h.fillsem off k c hf)
  have hrow := Lib.hid h.row
  have hok : Hid (ActV.Ok ⟨1, off, k, 0, c, ByteArray.empty⟩) := ⟨Or.inl rfl, by show off + k ≤ 134217728; omega, by show 0 + k ≤ 134217728; omega, fun h => by cases h⟩
  have hlen : Hid ((splice M off (List.replicate k c)).length = M.length) := splice_len _ _ _ (by simpa using hf)
  replace h := Lib.hid h
  go_enter Try.func41, Try.ntmps41
  go_wp2_with fail
  refine hc.out.mono ?_
  rintro e w' ⟨rfl, rfl⟩
  go_wp2_with (at_builtin; refine wpList_append_act rfl _ _ rfl V A.length _ rfl (row_keep hrow.out (fun g hg => Below.heap_alloc w _ g (row_lt hrow.out g hg))) w.heap.size ⟨1, off, k, 0, c, ByteArray.empty⟩ rfl ?_ (by omega) ?_)
  · intro j u hu
    rw [(Blk.new w _ _).cell, List.getElem?_toArray]
    exact hu
  · intro v' w1 hown hg hv
    obtain ⟨g', cap', rfl⟩ : ∃ g' cap', v' = .slice (some ⟨g', 0, none⟩) (A.length + 1) cap' := by
      rcases hown.2 with ⟨_, h0⟩ | ⟨g', cap', _, hv', _⟩
      · omega
      · exact ⟨g', cap', hv'⟩
    obtain ⟨c1', f1', hR, hT, hm⟩ := h.out.added _ _ hown hg hv hok.out hlen.out hsem.out
    replace hR := Lib.hid hR
    replace hT := Lib.hid hT
    replace hm := Lib.hid hm
    clear hown hg hv c1 f1
    go_wp2_with fail
    go_ret
    exact ⟨_, _, rfl, hR.out, by simp, hT.out, hm.out⟩
theorem rcopy_out (h : RefAt w r V A M) (dst src k : Int) (hi : insF M.length dst k = false ∨ insF M.length src k = false) : Calls Try.prog 42 #[.pointer (some ⟨r, 0, none⟩), .int .i64 dst, .int .i64 src, .int .i64 k] w fun e w' => e = .returned (.int .i64 11) ∧ w = w' := by
  cases hd : insF M.length dst k with
  | false =>
    have hc := Lib.hid (rinside_to h dst k false hd)
    replace h := Lib.hid h
    clear hi hd
    go_enter Try.func42, Try.ntmps42
    go_wp2_with fail
    refine hc.out.mono ?_
    rintro e w' ⟨rfl, rfl⟩
    go_wp2_with fail
    go_ret
    exact ⟨rfl, rfl⟩
  | true =>
    have hs : insF M.length src k = false := by
      rcases hi with hi | hi
      · rw [hd] at hi; cases hi
      · exact hi
    have hc := Lib.hid (rinside_to h dst k true hd)
    have hc2 := Lib.hid (rinside_to h src k false hs)
    replace h := Lib.hid h
    clear hi hd hs
    go_enter Try.func42, Try.ntmps42
    go_wp2_with fail
    refine hc.out.mono ?_
    rintro e w' ⟨rfl, rfl⟩
    go_wp2_with fail
    refine hc2.out.mono ?_
    rintro e w' ⟨rfl, rfl⟩
    go_wp2_with fail
    go_ret
    exact ⟨rfl, rfl⟩
theorem rcopy_in (h : RefAt w r V A M) (dst src k : Nat) (hd : dst + k ≤ M.length) (hs : src + k ≤ M.length) (hl : A.length ≤ 100000000000) : Calls Try.prog 42 #[.pointer (some ⟨r, 0, none⟩), .int .i64 dst, .int .i64 src, .int .i64 k] w (Wrote w r V A (splice M dst ((M.drop src).take k))) := by
  have hc := Lib.hid (rinside_to h dst k true (ins_true (by omega) (by omega) (by omega)))
  have hc2 := Lib.hid (rinside_to h src k true (ins_true (by omega) (by omega) (by omega)))
  have hcap := h.cap
  have c1 := h.c1
  have f1 := h.ptr.free 1
  have hsem := Lib.hid (h.copysem dst src k hd hs)
  have hrow := Lib.hid h.row
  have hok : Hid (ActV.Ok ⟨3, dst, k, src, 0, ByteArray.empty⟩) := ⟨Or.inr (Or.inr rfl), by show dst + k ≤ 134217728; omega, by show src + k ≤ 134217728; omega, fun h => by cases h⟩
  have hlen : Hid ((splice M dst ((M.drop src).take k)).length = M.length) := splice_len _ _ _ (by simp; omega)
  replace h := Lib.hid h
  go_enter Try.func42, Try.ntmps42
  go_wp2_with fail
  refine hc.out.mono ?_
  rintro e w' ⟨rfl, rfl⟩
  go_wp2_with fail
  refine hc2.out.mono ?_
  rintro e w' ⟨rfl, rfl⟩
  go_wp2_with (at_builtin; refine wpList_append_act rfl _ _ rfl V A.length _ rfl (row_keep hrow.out (fun g hg => Below.heap_alloc w _ g (row_lt hrow.out g hg))) w.heap.size ⟨3, dst, k, src, 0, ByteArray.empty⟩ rfl ?_ (by omega) ?_)
  · intro j u hu
    rw [(Blk.new w _ _).cell, List.getElem?_toArray]
    exact hu
  · intro v' w1 hown hg hv
    obtain ⟨g', cap', rfl⟩ : ∃ g' cap', v' = .slice (some ⟨g', 0, none⟩) (A.length + 1) cap' := by
      rcases hown.2 with ⟨_, h0⟩ | ⟨g', cap', _, hv', _⟩
      · omega
      · exact ⟨g', cap', hv'⟩
    obtain ⟨c1', f1', hR, hT, hm⟩ := h.out.added _ _ hown hg hv hok.out hlen.out hsem.out
    replace hR := Lib.hid hR
    replace hT := Lib.hid hT
    replace hm := Lib.hid hm
    clear hown hg hv c1 f1
    go_wp2_with fail
    go_ret
    exact ⟨_, _, rfl, hR.out, by simp, hT.out, hm.out⟩
end
end Go.Proofs.Ytkchhggbiopffaa
