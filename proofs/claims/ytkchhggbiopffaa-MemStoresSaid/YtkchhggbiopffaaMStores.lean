/- What is proved here: the walk of the law MemStores. Conditions: a string of at most maxLen bytes, numbers of their kinds. -/
import Derived.Test.YtkchhggbiopffaaMStoresA
import Derived.Test.YtkchhggbiopffaaMStoresB
namespace Go.Proofs.Ytkchhggbiopffaa
set_option linter.unusedVariables false
set_option linter.unusedSimpArgs false
open Go.RowKit Pm
set_option maxHeartbeats 2000000 in
set_option maxRecDepth 100000 in
theorem stores_all (s : ByteArray) (off k : Int) (v : Nat) (p : Int) (w : World) (hb_off : -9223372036854775808 ≤ off ∧ off ≤ 9223372036854775807) (hb_k : -9223372036854775808 ≤ k ∧ k ≤ 9223372036854775807) (hv64 : v < 2 ^ 64) (hs : s.size ≤ maxLen) : Calls Try.prog 10 #[.string s, .int .i64 off, .int .i64 k, .int .u64 v, .int .i64 p] w fun e w' => e = .returned (.bool true) ∧ Below w.heap.size w w' := by
  have hs0 := Lib.hid hs
  unfold maxLen at hs
  by_cases hbig : 134217728 < s.size
  · have hbig2 : (134217728 : Int) < s.size := by omega
    go_enter Try.func10, Try.ntmps10
    go_wp2_with (go_at_call 16; (with_reducible refine (made_no s _ hbig hs0.out).mono ?_); rintro e w' ⟨rfl, rfl⟩)
    go_ret
    exact ⟨ret_bool (by first | rfl | simp), Below.refl _ _⟩
  have hs2 : s.size ≤ 134217728 := by omega
  clear hs hbig
  by_cases hk : k = 1 ∨ k = 2 ∨ k = 4 ∨ k = 8
  rotate_left
  · exact stores_width s off k v p w hb_off hb_k hk hs2
  by_cases hi : 0 ≤ off ∧ 0 ≤ k ∧ off + k ≤ s.size
  rotate_left
  · have hb : Hid (insF s.size off k = false) := ins_false hi
    rcases hk with rfl | rfl | rfl | rfl
    · exact stores_out1 s off v p w hb_off hb hs2
    · exact stores_out2 s off v p w hb_off hb hs2
    · exact stores_out4 s off v p w hb_off hb hs2
    · exact stores_out8 s off v p w hb_off hb hs2
  obtain ⟨h0, _, h2⟩ := hi
  obtain ⟨off, rfl⟩ := Int.eq_ofNat_of_zero_le h0
  have hvv : Hid (v < 2 ^ 64) := hv64
  rcases hk with rfl | rfl | rfl | rfl
  · by_cases hsp : (off : Int) ≤ p ∧ p < off + 1
    · obtain ⟨h5, h6⟩ := hsp
      obtain ⟨p, rfl⟩ := Int.eq_ofNat_of_zero_le (by omega : 0 ≤ p)
      exact stores_in1 s off v p w hvv (by omega) (by omega) (by omega) hs2
    · exact stores_by1 s off v p w hvv (by omega) (by omega) hs2
  · by_cases hsp : (off : Int) ≤ p ∧ p < off + 2
    · obtain ⟨h5, h6⟩ := hsp
      obtain ⟨p, rfl⟩ := Int.eq_ofNat_of_zero_le (by omega : 0 ≤ p)
      exact stores_in2 s off v p w hvv (by omega) (by omega) (by omega) hs2
    · exact stores_by2 s off v p w hvv (by omega) (by omega) hs2
  · by_cases hsp : (off : Int) ≤ p ∧ p < off + 4
    · obtain ⟨h5, h6⟩ := hsp
      obtain ⟨p, rfl⟩ := Int.eq_ofNat_of_zero_le (by omega : 0 ≤ p)
      exact stores_in4 s off v p w hvv (by omega) (by omega) (by omega) hs2
    · exact stores_by4 s off v p w hvv (by omega) (by omega) hs2
  · by_cases hsp : (off : Int) ≤ p ∧ p < off + 8
    · obtain ⟨h5, h6⟩ := hsp
      obtain ⟨p, rfl⟩ := Int.eq_ofNat_of_zero_le (by omega : 0 ≤ p)
      exact stores_in8 s off v p w hvv (by omega) (by omega) (by omega) hs2
    · exact stores_by8 s off v p w hvv (by omega) (by omega) hs2
end Go.Proofs.Ytkchhggbiopffaa
