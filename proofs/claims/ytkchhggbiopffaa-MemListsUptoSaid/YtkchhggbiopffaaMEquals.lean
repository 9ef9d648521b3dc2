/- What is proved here: the walk of the law MemEquals. Conditions: a string of at most maxLen bytes, numbers of their kinds. -/
import Derived.Test.YtkchhggbiopffaaMLaw
import Derived.Lib.Strings
namespace Go.Proofs.Ytkchhggbiopffaa
set_option linter.unusedVariables false
set_option linter.unusedSimpArgs false
open Go.RowKit Pm
set_option maxHeartbeats 2000000 in
set_option maxRecDepth 100000 in
theorem eq_oo (s : ByteArray) (a b k : Int) (w : World) (hb_a : -9223372036854775808 ≤ a ∧ a ≤ 9223372036854775807) (hb_b : -9223372036854775808 ≤ b ∧ b ≤ 9223372036854775807) (hb_k : -9223372036854775808 ≤ k ∧ k ≤ 9223372036854775807) (ha : Hid (insF s.size a k = false)) (hb : Hid (insF s.size b k = false)) (hs2 : s.size ≤ 134217728) : Calls Try.prog 6 #[.string s, .int .i64 a, .int .i64 b, .int .i64 k] w fun e w' => e = .returned (.bool true) ∧ Below w.heap.size w w' := by
  have hno : Hid (insF s.size a k = false ∨ insF s.size b k = false) := Or.inl ha.out
  go_enter Try.func6, Try.ntmps6
  go_wp2_with fail
  refine (made_any s w hs2).mono ?_
  rintro e w' ⟨rfl, hM⟩
  replace hM := Lib.hid hM
  go_wp2_with (first | (go_at_call 19; first | ((with_reducible refine (lins_to s.size a k false ha.out _ (by omega)).mono ?_); rintro e w' ⟨rfl, rfl⟩)) | (go_at_call 23; (with_reducible refine (ms_equal_out hM.out a b k hno.out).mono ?_); rintro e w' ⟨rfl, hM⟩; replace hM := Lib.hid hM) | (go_at_call 15; first | ((with_reducible refine (ms_read_out hM.out a k ha.out).mono ?_); rintro e w' ⟨rfl, hM⟩; replace hM := Lib.hid hM) | ((with_reducible refine (ms_read_out hM.out b k hb.out).mono ?_); rintro e w' ⟨rfl, hM⟩; replace hM := Lib.hid hM)))
  go_ret
  exact ⟨ret_bool (by first | rfl | (simp; done) | (rw [IntWalk.i64_in _ (by omega)]; simp)), hM.out.below⟩
set_option maxHeartbeats 2000000 in
set_option maxRecDepth 100000 in
theorem eq_oi (s : ByteArray) (a : Int) (b k : Nat) (w : World) (hb_a : -9223372036854775808 ≤ a ∧ a ≤ 9223372036854775807) (ha : Hid (insF s.size a k = false)) (hb : b + k ≤ s.size) (hs2 : s.size ≤ 134217728) : Calls Try.prog 6 #[.string s, .int .i64 a, .int .i64 b, .int .i64 k] w fun e w' => e = .returned (.bool true) ∧ Below w.heap.size w w' := by
  have hno : Hid (insF s.size a k = false ∨ insF s.size b k = false) := Or.inl ha.out
  go_enter Try.func6, Try.ntmps6
  go_wp2_with fail
  refine (made_any s w hs2).mono ?_
  rintro e w' ⟨rfl, hM⟩
  replace hM := Lib.hid hM
  go_wp2_with (first | (go_at_call 19; first | ((with_reducible refine (lins_to s.size a k false ha.out _ (by omega)).mono ?_); rintro e w' ⟨rfl, rfl⟩)) | (go_at_call 23; (with_reducible refine (ms_equal_out hM.out a b k hno.out).mono ?_); rintro e w' ⟨rfl, hM⟩; replace hM := Lib.hid hM) | (go_at_call 15; first | ((with_reducible refine (ms_read_out hM.out a k ha.out).mono ?_); rintro e w' ⟨rfl, hM⟩; replace hM := Lib.hid hM) | ((with_reducible refine (ms_read_in hM.out b k (by omega)).mono ?_); rintro e w' ⟨rfl, hM, hbk, hbl⟩; replace hM := Lib.hid hM; clear hbk hbl)))
  go_ret
  exact ⟨ret_bool (by first | rfl | (simp; done) | (rw [IntWalk.i64_in _ (by omega)]; simp)), hM.out.below⟩
set_option maxHeartbeats 2000000 in
set_option maxRecDepth 100000 in
theorem eq_io (s : ByteArray) (a : Nat) (b : Int) (k : Nat) (w : World) (hb_b : -9223372036854775808 ≤ b ∧ b ≤ 9223372036854775807) (ha : a + k ≤ s.size) (hb : Hid (insF s.size b k = false)) (hs2 : s.size ≤ 134217728) : Calls Try.prog 6 #[.string s, .int .i64 a, .int .i64 b, .int .i64 k] w fun e w' => e = .returned (.bool true) ∧ Below w.heap.size w w' := by
  have hno : Hid (insF s.size a k = false ∨ insF s.size b k = false) := Or.inr hb.out
  have hat : Hid (insF s.size a k = true) := ins_true (by omega) (by omega) (by omega)
  go_enter Try.func6, Try.ntmps6
  go_wp2_with fail
  refine (made_any s w hs2).mono ?_
  rintro e w' ⟨rfl, hM⟩
  replace hM := Lib.hid hM
  go_wp2_with (first | (go_at_call 19; first | ((with_reducible refine (lins_to s.size a k true hat.out _ (by omega)).mono ?_); rintro e w' ⟨rfl, rfl⟩) | ((with_reducible refine (lins_to s.size b k false hb.out _ (by omega)).mono ?_); rintro e w' ⟨rfl, rfl⟩)) | (go_at_call 23; (with_reducible refine (ms_equal_out hM.out a b k hno.out).mono ?_); rintro e w' ⟨rfl, hM⟩; replace hM := Lib.hid hM) | (go_at_call 15; first | ((with_reducible refine (ms_read_in hM.out a k (by omega)).mono ?_); rintro e w' ⟨rfl, hM, hbk, hbl⟩; replace hM := Lib.hid hM; clear hbk hbl) | ((with_reducible refine (ms_read_out hM.out b k hb.out).mono ?_); rintro e w' ⟨rfl, hM⟩; replace hM := Lib.hid hM)))
  go_ret
  exact ⟨ret_bool (by first | rfl | (simp; done) | (rw [IntWalk.i64_in _ (by omega)]; simp)), hM.out.below⟩
theorem conv_bytes (w : World) (g k c : Nat) (X : List UInt8) (S : ByteArray) (hX : S.data.toList = X) (hl : X.length = k) (hb : Blk w g (bv X) 5) : (convert 27 9 (.slice (some ⟨g, 0, none⟩) k c)).run Try.prog w = .ok (.string S) w := by
  have h := run_convert_bytes_arg (P := Try.prog) w 27 5 Try.underlying27 Try.underlying5 g 0 k c (X.map fun b => (b.toNat : Int)) (by simp [hl]) (fun i hi => by
    rw [Nat.zero_add, hb.cell, bv_get?, List.getElem?_eq_getElem (by omega)]
    simp [List.getD, List.getElem?_eq_getElem (show i < X.length by omega)]) 9 Try.underlying9
  rw [h]
  have e : strOfNums (X.map fun b => (b.toNat : Int)) = S := by
    unfold strOfNums
    subst hX
    obtain ⟨⟨l⟩⟩ := S
    have e2 : ((fun n : Int => UInt8.ofNat n.toNat) ∘ fun b : UInt8 => (b.toNat : Int)) = id := by funext b; simp
    simp only [List.map_map, e2, List.map_id]
  rw [e]
set_option maxHeartbeats 2000000 in
set_option maxRecDepth 100000 in
theorem eq_ii (s : ByteArray) (a b k : Nat) (w : World) (ha : a + k ≤ s.size) (hb : b + k ≤ s.size) (hs2 : s.size ≤ 134217728) : Calls Try.prog 6 #[.string s, .int .i64 a, .int .i64 b, .int .i64 k] w fun e w' => e = .returned (.bool true) ∧ Below w.heap.size w w' := by
  have hat : Hid (insF s.size a k = true) := ins_true (by omega) (by omega) (by omega)
  have hbt : Hid (insF s.size b k = true) := ins_true (by omega) (by omega) (by omega)
  have hXa : Hid ((s.extract a (a + k)).data.toList = (s.data.toList.drop a).take k) := by unfold Hid; rw [Lib.extract_data]; congr 1; omega
  have hXb : Hid ((s.extract b (b + k)).data.toList = (s.data.toList.drop b).take k) := by unfold Hid; rw [Lib.extract_data]; congr 1; omega
  have hla : Hid (((s.data.toList.drop a).take k).length = k) := by unfold Hid; simp; omega
  have hlb : Hid (((s.data.toList.drop b).take k).length = k) := by unfold Hid; simp; omega
  obtain ⟨r, hr⟩ : ∃ r, Hid (decide ((s.data.toList.drop a).take k = (s.data.toList.drop b).take k) = r) := ⟨_, rfl⟩
  have i1 : (0 : Int) ≤ a := by omega
  have i2 : (0 : Int) ≤ b := by omega
  have i3 : (a : Int) ≤ a + k := by omega
  have i4 : (b : Int) ≤ b + k := by omega
  have i5 : (a : Int) + k ≤ s.size := by omega
  have i6 : (b : Int) + k ≤ s.size := by omega
  have f1 : Hid (IntKind.i64.wrap ((a : Int) + k) = a + k) := IntWalk.i64_in _ (by omega)
  have f2 : Hid (IntKind.i64.wrap ((b : Int) + k) = b + k) := IntWalk.i64_in _ (by omega)
  go_enter Try.func6, Try.ntmps6
  go_wp2_with fail
  refine (made_any s w hs2).mono ?_
  rintro e w' ⟨rfl, hM⟩
  replace hM := Lib.hid hM
  go_wp2_with (first | (go_at_call 19; first | ((with_reducible refine (lins_to s.size a k true hat.out _ (by omega)).mono ?_); rintro e w' ⟨rfl, rfl⟩) | ((with_reducible refine (lins_to s.size b k true hbt.out _ (by omega)).mono ?_); rintro e w' ⟨rfl, rfl⟩)) | (go_at_call 23; (with_reducible refine (ms_equal_in hM.out a b k (by omega) (by omega) r hr.out).mono ?_); rintro e w' ⟨rfl, hM⟩; replace hM := Lib.hid hM))
  refine (ms_read_in hM.out a k (by omega)).mono ?_
  rintro e w2 ⟨rfl, hM, hbx, hbl⟩
  replace hM := Lib.hid hM
  replace hbl := Lib.hid hbl
  obtain ⟨gx, hgx⟩ : ∃ g, Hid (g = w'.heap.size) := ⟨_, rfl⟩
  rw [← hgx.out] at hbx
  rw [← hgx.out]
  replace hbx := Lib.hid hbx
  go_wp2_with fail
  refine (ms_read_in hM.out b k (by omega)).mono ?_
  rintro e w3 ⟨rfl, hM, hby, hbl2⟩
  replace hM := Lib.hid hM
  obtain ⟨gy, hgy⟩ : ∃ g, Hid (g = w2.heap.size) := ⟨_, rfl⟩
  rw [← hgy.out] at hby
  rw [← hgy.out]
  have hbx2 := hbx.out.keep hbl2
  have cx := fun m => conv_bytes (w3.drewN m) gx k k _ _ hXa.out hla.out (hbx2.drewN m)
  have cy := fun m => conv_bytes (w3.drewN m) gy k k _ _ hXb.out hlb.out (hby.drewN m)
  have cx1 := conv_bytes w3.drew gx k k _ _ hXa.out hla.out hbx2.drew
  have cy1 := conv_bytes w3.drew gy k k _ _ hXb.out hlb.out hby.drew
  replace hbx2 := Lib.hid hbx2
  replace hby := Lib.hid hby
  replace hbl2 := Lib.hid hbl2
  go_wp2_with (first | (go_at_call 19; first | ((with_reducible refine (lins_to s.size a k true hat.out _ (by omega)).mono ?_); rintro e w' ⟨rfl, rfl⟩) | ((with_reducible refine (lins_to s.size b k true hbt.out _ (by omega)).mono ?_); rintro e w' ⟨rfl, rfl⟩)))
  replace f1 := f1.out
  replace f2 := f2.out
  go_quiet (fail)
  go_wp2_with fail
  go_quiet (fail)
  go_wp2_with fail
  go_ret
  refine ⟨ret_bool ?_, below_drewN (below_drewN hM.out.below _) _⟩
  rw [Lib.toList_data, Lib.toList_data, hXa.out, hXb.out, beq_iff_eq, ← hr.out]
  rw [Bool.eq_iff_iff]; simp
set_option maxHeartbeats 2000000 in
set_option maxRecDepth 100000 in
theorem equals_all (s : ByteArray) (a b k : Int) (w : World) (hb_a : -9223372036854775808 ≤ a ∧ a ≤ 9223372036854775807) (hb_b : -9223372036854775808 ≤ b ∧ b ≤ 9223372036854775807) (hb_k : -9223372036854775808 ≤ k ∧ k ≤ 9223372036854775807) (hs : s.size ≤ maxLen) : Calls Try.prog 6 #[.string s, .int .i64 a, .int .i64 b, .int .i64 k] w fun e w' => e = .returned (.bool true) ∧ Below w.heap.size w w' := by
  have hs0 := Lib.hid hs
  unfold maxLen at hs
  by_cases hbig : 134217728 < s.size
  · have hbig2 : (134217728 : Int) < s.size := by omega
    go_enter Try.func6, Try.ntmps6
    go_wp2_with (go_at_call 16; (with_reducible refine (made_no s _ hbig hs0.out).mono ?_); rintro e w' ⟨rfl, rfl⟩)
    go_ret
    exact ⟨ret_bool (by first | rfl | simp), Below.refl _ _⟩
  have hs2 : s.size ≤ 134217728 := by omega
  clear hs hbig
  by_cases ha : 0 ≤ a ∧ 0 ≤ k ∧ a + k ≤ s.size
  · obtain ⟨h0, h1, h2⟩ := ha
    obtain ⟨a, rfl⟩ := Int.eq_ofNat_of_zero_le h0
    obtain ⟨k, rfl⟩ := Int.eq_ofNat_of_zero_le h1
    by_cases hb : 0 ≤ b ∧ 0 ≤ (k : Int) ∧ b + k ≤ s.size
    · obtain ⟨h3, _, h4⟩ := hb
      obtain ⟨b, rfl⟩ := Int.eq_ofNat_of_zero_le h3
      exact eq_ii s a b k w (by omega) (by omega) hs2
    · exact eq_io s a b k w hb_b (by omega) (ins_false hb) hs2
  · by_cases hb : 0 ≤ b ∧ 0 ≤ k ∧ b + k ≤ s.size
    · obtain ⟨h3, h5, h4⟩ := hb
      obtain ⟨b, rfl⟩ := Int.eq_ofNat_of_zero_le h3
      obtain ⟨k, rfl⟩ := Int.eq_ofNat_of_zero_le h5
      exact eq_oi s a b k w hb_a (ins_false ha) (by omega) hs2
    · exact eq_oo s a b k w hb_a hb_b hb_k (ins_false ha) (ins_false hb) hs2
end Go.Proofs.Ytkchhggbiopffaa
