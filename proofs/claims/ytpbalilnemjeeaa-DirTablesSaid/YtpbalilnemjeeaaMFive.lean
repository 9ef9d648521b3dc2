/- What is proved here: the contract of a memory's Grow. Conditions: a memory that is there. -/
import Derived.Test.YtpbalilnemjeeaaMFour
import Derived.WalkLawsBesides
namespace Go.Proofs.Ytpbalilnemjeeaa
set_option linter.unusedVariables false
set_option linter.unusedSimpArgs false
open Go.RowKit Pm
section
variable {w : World} {p q n : Nat} {L : List UInt8}
theorem run_max_int (x y : Int) (ts : Array TypeId) (ty : TypeId) (w : World) : (Builtin.max_ ts ty #[.int .i64 x, .int .i64 y]).run Try.prog w = .ok (.int .i64 (max x y)) w := by
  simp only [Builtin.max_, List.foldlM, Builtin.max2]
  rw [show (if y > x then y else x) = max x y by omega]
  rfl
theorem run_min_int (x y : Int) (ts : Array TypeId) (ty : TypeId) (w : World) : (Builtin.min_ ts ty #[.int .i64 x, .int .i64 y]).run Try.prog w = .ok (.int .i64 (min x y)) w := by
  simp only [Builtin.min_, List.foldlM, Builtin.min2]
  rw [show (if y < x then y else x) = min x y by omega]
  rfl
theorem grow_no (h : MemAt w p q L n) (size : Int) (hb : size < n ∨ 134217728 < size) : Calls Try.prog 85 #[.pointer (some ⟨p, 0, none⟩), .int .i64 size] w fun e w' => e = .returned (.int .i64 12) ∧ w = w' := by
  have hc := h.ptrc
  replace h := Lib.hid h
  rcases hb with hb | hb
  · go_enter Try.func85, Try.ntmps85
    go_wp2_with fail
    go_ret
    exact ⟨rfl, rfl⟩
  · by_cases h1 : size < n
    · go_enter Try.func85, Try.ntmps85
      go_wp2_with fail
      go_ret
      exact ⟨rfl, rfl⟩
    · go_enter Try.func85, Try.ntmps85
      go_wp2_with fail
      go_ret
      exact ⟨rfl, rfl⟩
theorem zero_splice (h : MemAt w p q L n) (size : Nat) (h1 : n ≤ size) (h2 : size ≤ L.length) : splice L n (List.replicate (size - n) 0) = L := by
  apply List.ext_getElem?
  intro i
  rw [splice_get? _ _ _ (by simp; omega)]
  simp only [List.length_replicate]
  split
  · rename_i hi
    rw [List.getElem?_replicate, if_pos (by omega)]
    exact (h.zer i hi.1 (by omega)).symm
  · rfl
set_option maxHeartbeats 1000000 in
set_option maxRecDepth 100000 in
theorem grow_room (h : MemAt w p q L n) (size : Nat) (h1 : n ≤ size) (h2 : size ≤ L.length) : Calls Try.prog 85 #[.pointer (some ⟨p, 0, none⟩), .int .i64 size] w fun e w' =>
    e = .returned (.int .i64 0) ∧ MemAt w' p q L size ∧ Turns [p, q] w w' := by
  have hc := h.ptrc
  have hf := h.ptrf
  have hn2 : L.length ≤ 134217728 := h.cap
  have hpl := h.ptr.lt
  have hzs := Lib.hid (zero_splice h size h1 h2)
  have hdat := Lib.hid (h.dat.other p 0 (.slice (some ⟨q, 0, none⟩) size L.length) h.ne)
  have hpp := Lib.hid (h.ptr.set 0 (.slice (some ⟨q, 0, none⟩) size L.length))
  have hne := Lib.hid h.ne
  replace h := Lib.hid h
  have hz : L.length = n ∨ ¬ L.length = n := by omega
  rcases hz with rfl | hz
  · obtain rfl : L.length = size := by omega
    have hcl := fun (w : World) (A : Option Addr) (cap : Nat) (ty : TypeId) => run_clear_none (w := w) A cap ty
    have hdat2 := hdat.out
    have hpp2 := hpp.out
    replace hdat2 := Lib.hid hdat2
    replace hpp2 := Lib.hid hpp2
    go_enter Try.func85, Try.ntmps85
    go_wp2_with fail
    go_ret
    exact ⟨rfl, ⟨hpp2.out, hdat2.out, hne.out, h2, hn2, fun i hi hl => by omega⟩, (Turns.refl [p, q] w).set p 0 _ (Or.inl (by simp))⟩
  · go_enter Try.func85, Try.ntmps85
    go_wp2_with (((with_reducible show wpList _ _ _ (⟨none, .call ⟨.builtin .clear, _, _⟩, _, _, _, _⟩ :: _) _ _); (refine wpList_clear_bytes rfl (.tmp 65) rfl _ _ _ rfl q n L hdat.out (fun h0 => by first | rfl | (exfalso; omega)) (by omega) ?_); intro w2 hb ht; replace hb := Lib.hid hb; replace ht := Lib.hid ht))
    go_ret
    refine ⟨rfl, ⟨?_, ?_, hne.out, h2, hn2, fun i hi hl => h.out.zer i (by omega) hl⟩, ?_⟩
    · exact hpp.out.turn ht.out (by have := hne.out; simp; exact this)
    · have hb' := hb.out
      rwa [hzs.out] at hb'
    · exact (((Turns.refl [p, q] w).set p 0 _ (Or.inl (by simp))).trans (ht.out.more (fun x hx => Or.inl (by simp at hx; simp [hx]))))
set_option maxHeartbeats 1000000 in
set_option maxRecDepth 100000 in
theorem grow_new (h : MemAt w p q L n) (size : Nat) (h1 : L.length < size) (h2 : size ≤ 134217728) : Calls Try.prog 85 #[.pointer (some ⟨p, 0, none⟩), .int .i64 size] w fun e w' =>
    e = .returned (.int .i64 0) ∧ ∃ L', MemAt w' p w.heap.size L' size ∧ L'.take size = L.take n ++ List.replicate (size - n) 0 ∧ Turns [p] w w' := by
  have hc := h.ptrc
  have hf := h.ptrf
  have hn2 : L.length ≤ 134217728 := h.cap
  have hn : n ≤ L.length := h.le
  have hpl := h.ptr.lt
  have hne := Lib.hid h.ne
  have hm : Hid ((L.take n).length = Nat.min n size) := by unfold Hid; simp [Nat.min_def]; split <;> split <;> omega
  obtain ⟨C, hC⟩ : ∃ C : Nat, Hid (min (134217728 : Int) (max (size : Int) (2 * n)) = C) := ⟨(min (134217728 : Int) (max (size : Int) (2 * n))).toNat, by unfold Hid; omega⟩
  have c1 : size ≤ C := by have := hC.out; omega
  have c2 : C ≤ 134217728 := by have := hC.out; omega
  have hb0 := Lib.hid (Blk.new w (bv (List.replicate C 0)) 5)
  replace h := Lib.hid h
  go_enter Try.func85, Try.ntmps85
  have hmx := run_max_int (size : Int) (2 * n)
  have hmn := fun ts ty w => (run_min_int (134217728 : Int) (max (size : Int) (2 * n)) ts ty w).trans (by rw [hC.out])
  have hln : Hid ((L.take n).length = n) := by unfold Hid; simp; omega
  have hsl := Lib.hid (splice_len (List.replicate C (0 : UInt8)) 0 (L.take n) (by rw [hln.out]; simp; omega))
  have hsrc0 : Hid (∀ j b, (L.take n)[j]? = some b → (w.alloc (.cells (bv (List.replicate C 0)) 5)).cell? ((⟨q, 0, none⟩ : Addr).add j) = some (.int .u8 (b.toNat : Int))) := by
    have := (h.out.alloc (.cells (bv (List.replicate C 0)) 5)).src 0 n; rw [List.drop_zero] at this; exact this
  have hpp0 := Lib.hid (h.out.ptr.alloc (.cells (bv (List.replicate C 0)) 5))
  have hpn : Hid (¬ p ∈ [w.heap.size]) := by unfold Hid; simp; omega
  go_upto_region 4 with (fail)
  go_wp2_with (first | (at_make; refine wpList_make_bytes rfl _ _ rfl size C rfl rfl (by omega) (by omega) ?_) | ((with_reducible show wpList _ _ _ (⟨some 41, _, _, _, _, _⟩ :: _) _ _); refine wpList_copy_bytes rfl (.tmp 36) (.tmp 40) rfl _ _ _ _ _ _ rfl rfl w.heap.size 0 (List.replicate C 0) (L.take n) hb0.out hm.out ⟨q, 0, none⟩ (fun _ => rfl) (fun _ => rfl) hsrc0.out (by have := hln.out; simp; omega) ?_; intro w2 hb ht; have hpp2 := hpp0.out.turn ht hpn.out; have hc2 := hpp2.cell 0; have hf2 := hpp2.free 0; replace hpp2 := Lib.hid hpp2; replace hb := Lib.hid hb; replace ht := Lib.hid ht))
  go_ret
  have t1 : Turns [p] w w2 := ((Turns.refl [p] w).alloc _).next ht.out (fun x hx => Or.inr (by simp at hx; omega))
  have hq1 := hb.out.other p 0 (.slice (some ⟨w.heap.size, 0, none⟩) size C) (by omega)
  have hp1 := hpp2.out.set 0 (.slice (some ⟨w.heap.size, 0, none⟩) size C)
  have hC2 : (splice (List.replicate C (0 : UInt8)) 0 (L.take n)).length = C := by rw [hsl.out]; simp
  refine ⟨rfl, splice (List.replicate C 0) 0 (L.take n), ⟨?_, hq1, by omega, by omega, by omega, fun i hi hl => ?_⟩, ?_, t1.set p 0 _ (Or.inl (by simp))⟩
  · rw [hC2]; exact hp1
  · rw [splice_out _ _ _ (by rw [hln.out]; simp; omega) i (by rw [hln.out]; omega), List.getElem?_replicate, if_pos (by omega)]
  · apply List.ext_getElem?
    intro i
    rw [List.getElem?_take]
    by_cases hi : i < size
    · rw [if_pos hi, splice_get? _ _ _ (by rw [hln.out]; simp; omega), hln.out]
      by_cases hi2 : i < n
      · rw [if_pos (by omega), List.getElem?_append_left (by rw [hln.out]; exact hi2)]; rfl
      · rw [if_neg (by omega), List.getElem?_append_right (by rw [hln.out]; omega), List.getElem?_replicate, List.getElem?_replicate, if_pos (by omega), hln.out, if_pos (by omega)]
    · rw [if_neg hi, List.getElem?_append_right (by rw [hln.out]; omega), List.getElem?_replicate, hln.out, if_neg (by omega)]
end
end Go.Proofs.Ytpbalilnemjeeaa
