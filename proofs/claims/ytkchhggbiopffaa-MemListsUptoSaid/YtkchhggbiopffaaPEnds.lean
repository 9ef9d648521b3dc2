/- What is proved here: the contracts of the law's own plays at any call, around and ends. Conditions: a memory and a reference memory of the same bytes. -/
import Derived.Test.YtkchhggbiopffaaPPlayW
namespace Go.Proofs.Ytkchhggbiopffaa
set_option linter.unusedVariables false
set_option linter.unusedSimpArgs false
open Go.RowKit Pm
section
variable {w w' : World} {p q r : Nat} {L : List UInt8} {n : Nat} {V : Value} {A : List ActV}
theorem plays_any (h : Pair w p q r L n V A) (kd mm a b nn : Int) (v : Nat) (A0 : Option Addr) (cc : Nat) (ss : List ByteArray) (k : Nat) (hv : v < 2 ^ 64) (hk : ss.length = k) (hs : StrsAt w A0 ss) (hs1 : (cat ss).size ≤ 1048576) (hs2 : k ≤ 1048576) (hss : ∀ s ∈ ss, s.size ≤ 1048576) (hA : A.length ≤ 100000000000)
    (ho : -9223372036854775808 ≤ a ∧ a ≤ 9223372036854775807) (hsa : ∀ x, A0 = some x → ss ≠ [] → x.block ≠ p ∧ x.block ≠ q ∧ x.block ≠ r ∧ V.ownBlock ≠ some x.block ∧ x.block < w.heap.size) :
    Calls Try.prog 31 #[.pointer (some ⟨p, 0, none⟩), .pointer (some ⟨r, 0, none⟩), .agg (opv kd mm a b nn v (.slice A0 k cc))] w (Played w p q r V A) := by
  by_cases hlo : kd < 1 ∨ 9 < kd
  · exact plays_other h kd mm a b nn v _ hlo
  have hkd : kd = 1 ∨ kd = 2 ∨ kd = 3 ∨ kd = 4 ∨ kd = 5 ∨ kd = 6 ∨ kd = 7 ∨ kd = 8 ∨ kd = 9 := by omega
  rcases hkd with rfl | rfl | rfl | rfl | rfl | rfl | rfl | rfl | rfl
  · exact plays_asks h 1 mm a b nn v _ (by omega)
  · by_cases hb : a < n ∨ 134217728 < a
    · exact plays_grow_no h mm a b nn v _ hb
    · obtain ⟨a', rfl⟩ := Int.eq_ofNat_of_zero_le (show 0 ≤ a by omega)
      exact plays_grow_yes h mm b nn a' v _ (by omega) (by omega)
  · exact plays_asks h 3 mm a b nn v _ (by omega)
  · by_cases hw : nn = 1 ∨ nn = 2 ∨ nn = 4 ∨ nn = 8
    · cases hi : insF n a nn with
      | false => exact plays_store_out h mm a b nn v _ hw hi
      | true =>
        obtain ⟨h1, h2, h3⟩ := (insF_iff _ _ _).1 hi
        obtain ⟨a', rfl⟩ := Int.eq_ofNat_of_zero_le h1
        obtain ⟨nn', rfl⟩ := Int.eq_ofNat_of_zero_le h2
        exact plays_store_in h mm b a' nn' v _ (by omega) (by omega) hv hA
    · exact plays_store_width h mm a b nn v _ hw
  · cases hi : insF n a nn with
    | false => exact plays_fill_out h mm a b nn v _ hi
    | true =>
      obtain ⟨h1, h2, h3⟩ := (insF_iff _ _ _).1 hi
      obtain ⟨a', rfl⟩ := Int.eq_ofNat_of_zero_le h1
      obtain ⟨nn', rfl⟩ := Int.eq_ofNat_of_zero_le h2
      exact plays_fill_in h mm b a' nn' v _ (by omega) hA
  · by_cases hi : insF n a nn = false ∨ insF n b nn = false
    · exact plays_copy_out h mm a b nn v _ hi
    · have ha : insF n a nn = true := by cases e : insF n a nn; exact absurd (Or.inl e) hi; rfl
      have hb : insF n b nn = true := by cases e : insF n b nn; exact absurd (Or.inr e) hi; rfl
      obtain ⟨h1, h2, h3⟩ := (insF_iff _ _ _).1 ha
      obtain ⟨h4, _, h6⟩ := (insF_iff _ _ _).1 hb
      obtain ⟨a', rfl⟩ := Int.eq_ofNat_of_zero_le h1
      obtain ⟨nn', rfl⟩ := Int.eq_ofNat_of_zero_le h2
      obtain ⟨b', rfl⟩ := Int.eq_ofNat_of_zero_le h4
      exact plays_copy_in h mm a' b' nn' v _ (by omega) (by omega) hA
  · exact plays_asks h 7 mm a b nn v _ (by omega)
  · exact plays_asks h 8 mm a b nn v _ (by omega)
  · exact plays_write h mm a b nn v A0 cc ss k hk hs hs1 hs2 hss hA ho hsa
theorem plays_read (h : Pair w p q r L n V A) (a nn : Int) : Calls Try.prog 31 #[.pointer (some ⟨p, 0, none⟩), .pointer (some ⟨r, 0, none⟩), .agg #[.int .i64 8, .int .i64 0, .int .i64 a, .int .i64 0, .int .i64 nn, .int .u64 0, .slice none 0 0]] w fun e w' => e = .returned (.bool true) ∧ Below w.heap.size w w' :=
  plays_ask h 8 0 a 0 nn 0 (.slice none 0 0) (by omega)
theorem plays_len (h : Pair w p q r L n V A) : Calls Try.prog 31 #[.pointer (some ⟨p, 0, none⟩), .pointer (some ⟨r, 0, none⟩), .agg #[.int .i64 1, .int .i64 0, .int .i64 0, .int .i64 0, .int .i64 0, .int .u64 0, .slice none 0 0]] w fun e w' => e = .returned (.bool true) ∧ Below w.heap.size w w' :=
  plays_ask h 1 0 0 0 0 0 (.slice none 0 0) (by omega)
theorem around_any (h : Pair w p q r L n V A) (x : Nat) (hx : x ≤ 268435456) : Calls Try.prog 44 #[.pointer (some ⟨p, 0, none⟩), .pointer (some ⟨r, 0, none⟩), .int .i64 x] w fun e w' => e = .returned (.bool true) ∧ Below w.heap.size w w' := by
  have r0 := h.r0
  have hn := h.n_le
  have c := Lib.hid (plays_read h)
  replace h := Lib.hid h
  by_cases hf : x < 16
  · have f1 : (x : Int) - 16 < 0 := by omega
    by_cases h32 : 32 < n
    · have f2 : (32 : Int) < n := by omega
      go_enter Try.func44, Try.ntmps44
      go_wp2_with (go_at_call 31; (with_reducible refine (c.out _ _).mono ?_); rintro e w2 ⟨rfl, hb2⟩)
      go_ret
      exact ⟨rfl, hb2⟩
    · have f2 : ¬ (32 : Int) < n := by omega
      by_cases h0 : n = 0
      · subst h0
        rw [show (((0 : Nat) : Int)) = 0 from rfl] at r0 f2
        go_enter Try.func44, Try.ntmps44
        go_wp2_with fail
        go_ret
        exact ⟨rfl, Below.refl _ _⟩
      · have f3 : ¬ (n : Int) ≤ 0 := by omega
        go_enter Try.func44, Try.ntmps44
        go_wp2_with (go_at_call 31; (with_reducible refine (c.out _ _).mono ?_); rintro e w2 ⟨rfl, hb2⟩)
        go_ret
        exact ⟨rfl, hb2⟩
  · have f1 : ¬ (x : Int) - 16 < 0 := by omega
    by_cases h32 : 32 < (n : Int) - (x - 16)
    · go_enter Try.func44, Try.ntmps44
      go_wp2_with (go_at_call 31; (with_reducible refine (c.out _ _).mono ?_); rintro e w2 ⟨rfl, hb2⟩)
      go_ret
      exact ⟨rfl, hb2⟩
    · by_cases h0 : (n : Int) - (x - 16) ≤ 0
      · go_enter Try.func44, Try.ntmps44
        go_wp2_with fail
        go_ret
        exact ⟨rfl, Below.refl _ _⟩
      · go_enter Try.func44, Try.ntmps44
        go_wp2_with (go_at_call 31; (with_reducible refine (c.out _ _).mono ?_); rintro e w2 ⟨rfl, hb2⟩)
        go_ret
        exact ⟨rfl, hb2⟩
end
end Go.Proofs.Ytkchhggbiopffaa
