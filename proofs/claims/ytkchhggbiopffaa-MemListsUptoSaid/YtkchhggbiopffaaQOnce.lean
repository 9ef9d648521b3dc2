/- What is proved here: the contract of the law's own once, but for Read and Write. Conditions: a memory and a book apart from it. -/
import Derived.Test.YtkchhggbiopffaaQBook
namespace Go.Proofs.Ytkchhggbiopffaa
set_option linter.unusedVariables false
set_option linter.unusedSimpArgs false
open Go.RowKit Pm
/-- a call of the memory that has answered a number -/
def Moved (w : World) (p q : Nat) (e : Ending) (w' : World) : Prop := ∃ (r : Int) (q' : Nat) (L' : List UInt8) (n' : Nat), e = .returned (.int .i64 r) ∧ MemAt w' p q' L' n' ∧ Turns [p, q] w w' ∧ (q' = q ∨ w.heap.size ≤ q')
/-- a call of once that has answered true -/
def Onced (w0 : World) (p : Nat) (B : List PageV) (e : Ending) (w' : World) : Prop := ∃ (q' n' : Nat) (L' : List UInt8) (V' : Value) (B' : List PageV), e = .returned (.tuple #[V', .bool true]) ∧ Lst w0 w' p q' n' L' V' B' ∧ B.length ≤ B'.length ∧ B'.length ≤ B.length + 2
section
variable {w0 w w' : World} {p q n : Nat} {L : List UInt8} {V : Value} {B : List PageV}
theorem one_turns {S : List Nat} {w1 : World} (h : Turns [q] w w1) : Turns [p, q] w w1 := h.more (fun x hx => Or.inl (by simp at hx; simp [hx]))
theorem Lst.moved (h : Lst w0 w p q n L V B) {e : Ending} (hm : Moved w p q e w') : ∃ (r : Int) (q' n' : Nat) (L' : List UInt8), e = .returned (.int .i64 r) ∧ Lst w0 w' p q' n' L' V B := by
  obtain ⟨r, q', L', n', he, hm, ht, hq⟩ := hm
  exact ⟨r, q', n', L', he, h.step ht (fun x hx => by simpa using hx) hm hq⟩
theorem grow_moved (h : MemAt w p q L n) (a : Int) : Calls Try.prog 26 #[.pointer (some ⟨p, 0, none⟩), .int .i64 a] w (Moved w p q) := by
  by_cases hb : a < n ∨ 134217728 < a
  · refine (grow_no h a hb).mono ?_
    rintro e w' ⟨rfl, rfl⟩
    exact ⟨_, q, L, n, rfl, h, Turns.refl _ _, Or.inl rfl⟩
  · obtain ⟨a', rfl⟩ := Int.eq_ofNat_of_zero_le (show 0 ≤ a by omega)
    refine (grow_to h a' (by omega) (by omega)).mono ?_
    rintro e w' ⟨q', L', rfl, hm, -, ht, hq⟩
    exact ⟨_, q', L', a', rfl, hm, ht, hq⟩
theorem store_moved (h : MemAt w p q L n) (a nn : Int) (v : Nat) (hv : v < 2 ^ 64) : Calls Try.prog 27 #[.pointer (some ⟨p, 0, none⟩), .int .i64 a, .int .i64 nn, .int .u64 v] w (Moved w p q) := by
  by_cases hw : nn = 1 ∨ nn = 2 ∨ nn = 4 ∨ nn = 8
  · cases hi : insF n a nn with
    | false =>
      refine (store_out h a nn v hw hi).mono ?_
      rintro e w' ⟨rfl, rfl⟩
      exact ⟨_, q, L, n, rfl, h, Turns.refl _ _, Or.inl rfl⟩
    | true =>
      obtain ⟨h1, h2, h3⟩ := (insF_iff _ _ _).1 hi
      obtain ⟨a', rfl⟩ := Int.eq_ofNat_of_zero_le h1
      obtain ⟨nn', rfl⟩ := Int.eq_ofNat_of_zero_le h2
      refine (store_in h a' nn' v (by omega) (by omega) hv).mono ?_
      rintro e w' ⟨rfl, hm, ht⟩
      exact ⟨_, q, _, n, rfl, hm, one_turns (S := []) ht, Or.inl rfl⟩
  · refine (store_width h a nn v hw).mono ?_
    rintro e w' ⟨rfl, rfl⟩
    exact ⟨_, q, L, n, rfl, h, Turns.refl _ _, Or.inl rfl⟩
theorem fill_moved (h : MemAt w p q L n) (a nn : Int) (c : UInt8) : Calls Try.prog 24 #[.pointer (some ⟨p, 0, none⟩), .int .i64 a, .int .i64 nn, .int .u8 (c.toNat : Int)] w (Moved w p q) := by
  cases hi : insF n a nn with
  | false =>
    refine (fill_out h a nn _ hi).mono ?_
    rintro e w' ⟨rfl, rfl⟩
    exact ⟨_, q, L, n, rfl, h, Turns.refl _ _, Or.inl rfl⟩
  | true =>
    obtain ⟨h1, h2, h3⟩ := (insF_iff _ _ _).1 hi
    obtain ⟨a', rfl⟩ := Int.eq_ofNat_of_zero_le h1
    obtain ⟨nn', rfl⟩ := Int.eq_ofNat_of_zero_le h2
    refine (fill_in h a' nn' c (by omega)).mono ?_
    rintro e w' ⟨rfl, hm, ht⟩
    exact ⟨_, q, _, n, rfl, hm, one_turns (S := []) ht, Or.inl rfl⟩
theorem copy_moved (h : MemAt w p q L n) (a b nn : Int) : Calls Try.prog 21 #[.pointer (some ⟨p, 0, none⟩), .int .i64 a, .int .i64 b, .int .i64 nn] w (Moved w p q) := by
  by_cases hi : insF n a nn = false ∨ insF n b nn = false
  · refine (copy_out h a b nn hi).mono ?_
    rintro e w' ⟨rfl, rfl⟩
    exact ⟨_, q, L, n, rfl, h, Turns.refl _ _, Or.inl rfl⟩
  · have ha : insF n a nn = true := by cases e : insF n a nn; exact absurd (Or.inl e) hi; rfl
    have hb : insF n b nn = true := by cases e : insF n b nn; exact absurd (Or.inr e) hi; rfl
    obtain ⟨h1, h2, h3⟩ := (insF_iff _ _ _).1 ha
    obtain ⟨h4, _, h6⟩ := (insF_iff _ _ _).1 hb
    obtain ⟨a', rfl⟩ := Int.eq_ofNat_of_zero_le h1
    obtain ⟨nn', rfl⟩ := Int.eq_ofNat_of_zero_le h2
    obtain ⟨b', rfl⟩ := Int.eq_ofNat_of_zero_le h4
    refine (copy_in h a' b' nn' (by omega) (by omega)).mono ?_
    rintro e w' ⟨rfl, hm, ht⟩
    exact ⟨_, q, _, n, rfl, hm, one_turns (S := []) ht, Or.inl rfl⟩
set_option maxHeartbeats 1000000 in
set_option maxRecDepth 100000 in
theorem once_grow (h : Lst w0 w p q n L V B) (mm a b nn : Int) (v : Nat) (P : Value) : Calls Try.prog 28 #[.pointer (some ⟨p, 0, none⟩), .agg (opv 2 mm a b nn v P), V] w (Onced w0 p B) := by
  have hX := h.keep ((Below.refl _ _).alloc (Nat.le_refl _) (.cells (opv 2 mm a b nn v P) 59))
  have hO := Blk.new w (opv 2 mm a b nn v P) 59
  obtain ⟨ob, hob⟩ : ∃ ob, Hid (ob = w.heap.size) := ⟨_, rfl⟩
  rw [← hob.out] at hO
  replace h := Lib.hid h
  go_enter Try.func28, Try.ntmps28
  unfold opv at hX hO ⊢
  go_upto_region 1 with (fail)
  rw [← hob.out]
  generalize World.alloc w _ = wz at hX hO ⊢
  replace hX := Lib.hid hX
  obtain ⟨q1', q2, q3, q4, q5, q6⟩ := opblk hO
  go_wp2_with (go_at_call 26; (with_reducible refine (grow_moved hX.out.mem a).mono ?_); rintro e w1 hm1; obtain ⟨rr, q1, n1, L1, rfl, hX1⟩ := hX.out.moved hm1; replace hX1 := Lib.hid hX1)
  go_ret2
  exact ⟨q1, n1, L1, V, B, rfl, hX1.out, by omega, by omega⟩
set_option maxHeartbeats 1000000 in
set_option maxRecDepth 100000 in
theorem once_store (h : Lst w0 w p q n L V B) (mm a b nn : Int) (v : Nat) (P : Value) (hv : v < 2 ^ 64) : Calls Try.prog 28 #[.pointer (some ⟨p, 0, none⟩), .agg (opv 4 mm a b nn v P), V] w (Onced w0 p B) := by
  have hX := h.keep ((Below.refl _ _).alloc (Nat.le_refl _) (.cells (opv 4 mm a b nn v P) 59))
  have hO := Blk.new w (opv 4 mm a b nn v P) 59
  obtain ⟨ob, hob⟩ : ∃ ob, Hid (ob = w.heap.size) := ⟨_, rfl⟩
  rw [← hob.out] at hO
  replace h := Lib.hid h
  go_enter Try.func28, Try.ntmps28
  unfold opv at hX hO ⊢
  go_upto_region 1 with (fail)
  rw [← hob.out]
  generalize World.alloc w _ = wz at hX hO ⊢
  replace hX := Lib.hid hX
  obtain ⟨q1', q2, q3, q4, q5, q6⟩ := opblk hO
  go_wp2_with (go_at_call 27; (with_reducible refine (store_moved hX.out.mem a nn v hv).mono ?_); rintro e w1 hm1; obtain ⟨rr, q1, n1, L1, rfl, hX1⟩ := hX.out.moved hm1; replace hX1 := Lib.hid hX1)
  go_ret2
  exact ⟨q1, n1, L1, V, B, rfl, hX1.out, by omega, by omega⟩
set_option maxHeartbeats 1000000 in
set_option maxRecDepth 100000 in
theorem once_fill (h : Lst w0 w p q n L V B) (mm a b nn : Int) (v : Nat) (P : Value) : Calls Try.prog 28 #[.pointer (some ⟨p, 0, none⟩), .agg (opv 5 mm a b nn v P), V] w (Onced w0 p B) := by
  obtain ⟨c, hc⟩ : ∃ c : UInt8, c = UInt8.ofNat v := ⟨_, rfl⟩
  have hcn : c.toNat = v % 256 := by rw [hc]; simp
  have f1 : IntKind.u8.wrap (v : Int) = (c.toNat : Int) := by rw [hcn]; simp [IntKind.wrap, IntKind.signed, IntKind.bits]
  clear hc hcn
  have hX := h.keep ((Below.refl _ _).alloc (Nat.le_refl _) (.cells (opv 5 mm a b nn v P) 59))
  have hO := Blk.new w (opv 5 mm a b nn v P) 59
  obtain ⟨ob, hob⟩ : ∃ ob, Hid (ob = w.heap.size) := ⟨_, rfl⟩
  rw [← hob.out] at hO
  replace h := Lib.hid h
  go_enter Try.func28, Try.ntmps28
  unfold opv at hX hO ⊢
  go_upto_region 1 with (fail)
  rw [← hob.out]
  generalize World.alloc w _ = wz at hX hO ⊢
  replace hX := Lib.hid hX
  obtain ⟨q1', q2, q3, q4, q5, q6⟩ := opblk hO
  go_wp2_with (go_at_call 24; (with_reducible refine (fill_moved hX.out.mem a nn c).mono ?_); rintro e w1 hm1; obtain ⟨rr, q1, n1, L1, rfl, hX1⟩ := hX.out.moved hm1; replace hX1 := Lib.hid hX1)
  go_ret2
  exact ⟨q1, n1, L1, V, B, rfl, hX1.out, by omega, by omega⟩
set_option maxHeartbeats 1000000 in
set_option maxRecDepth 100000 in
theorem once_copy (h : Lst w0 w p q n L V B) (mm a b nn : Int) (v : Nat) (P : Value) : Calls Try.prog 28 #[.pointer (some ⟨p, 0, none⟩), .agg (opv 6 mm a b nn v P), V] w (Onced w0 p B) := by
  have hX := h.keep ((Below.refl _ _).alloc (Nat.le_refl _) (.cells (opv 6 mm a b nn v P) 59))
  have hO := Blk.new w (opv 6 mm a b nn v P) 59
  obtain ⟨ob, hob⟩ : ∃ ob, Hid (ob = w.heap.size) := ⟨_, rfl⟩
  rw [← hob.out] at hO
  replace h := Lib.hid h
  go_enter Try.func28, Try.ntmps28
  unfold opv at hX hO ⊢
  go_upto_region 1 with (fail)
  rw [← hob.out]
  generalize World.alloc w _ = wz at hX hO ⊢
  replace hX := Lib.hid hX
  obtain ⟨q1', q2, q3, q4, q5, q6⟩ := opblk hO
  go_wp2_with (go_at_call 21; (with_reducible refine (copy_moved hX.out.mem a b nn).mono ?_); rintro e w1 hm1; obtain ⟨rr, q1, n1, L1, rfl, hX1⟩ := hX.out.moved hm1; replace hX1 := Lib.hid hX1)
  go_ret2
  exact ⟨q1, n1, L1, V, B, rfl, hX1.out, by omega, by omega⟩
set_option maxHeartbeats 1000000 in
set_option maxRecDepth 100000 in
theorem once_other (h : Lst w0 w p q n L V B) (kd : Int) (mm a b nn : Int) (v : Nat) (P : Value) (hk : kd ≠ 2 ∧ kd ≠ 4 ∧ kd ≠ 5 ∧ kd ≠ 6 ∧ kd ≠ 9 ∧ kd ≠ 8) : Calls Try.prog 28 #[.pointer (some ⟨p, 0, none⟩), .agg (opv kd mm a b nn v P), V] w (Onced w0 p B) := by
  obtain ⟨x1, x2, x3, x4, x5, x6⟩ := hk
  have hX := h.keep ((Below.refl _ _).alloc (Nat.le_refl _) (.cells (opv kd mm a b nn v P) 59))
  have hO := Blk.new w (opv kd mm a b nn v P) 59
  obtain ⟨ob, hob⟩ : ∃ ob, Hid (ob = w.heap.size) := ⟨_, rfl⟩
  rw [← hob.out] at hO
  replace h := Lib.hid h
  go_enter Try.func28, Try.ntmps28
  unfold opv at hX hO ⊢
  go_upto_region 1 with (fail)
  rw [← hob.out]
  generalize World.alloc w _ = wz at hX hO ⊢
  replace hX := Lib.hid hX
  obtain ⟨q1', q2, q3, q4, q5, q6⟩ := opblk hO
  go_wp2_with (fail)
  go_ret2
  exact ⟨q, n, L, V, B, rfl, hX.out, by omega, by omega⟩
end
end Go.Proofs.Ytkchhggbiopffaa
