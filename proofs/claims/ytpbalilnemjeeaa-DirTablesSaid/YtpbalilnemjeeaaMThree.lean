/- What is proved here: the contracts of a memory's Store and Fill. Conditions: a memory that is there. -/
import Derived.Test.YtpbalilnemjeeaaMTwo
namespace Go.Proofs.Ytpbalilnemjeeaa
set_option linter.unusedVariables false
set_option linter.unusedSimpArgs false
open Go.RowKit Pm
section
variable {w : World} {p q n : Nat} {L : List UInt8}
theorem MemAt.has (h : MemAt w p q L n) (i : Nat) (hi : i < L.length) : ∃ b : UInt8, w.cell? ⟨q, i, none⟩ = some (.int .u8 (b.toNat : Int)) := ⟨L[i], h.datc i _ (List.getElem?_eq_getElem hi)⟩
theorem store_width (h : MemAt w p q L n) (off k : Int) (v : Int) (hk : ¬ (k = 1 ∨ k = 2 ∨ k = 4 ∨ k = 8)) : Calls Try.prog 73 #[.pointer (some ⟨p, 0, none⟩), .int .i64 off, .int .i64 k, .int .u64 v] w fun e w' => e = .returned (.int .i64 10) ∧ w = w' := by
  replace h := Lib.hid h
  replace hk := Lib.hid hk
  go_enter Try.func73, Try.ntmps73
  go_wp2_with (go_at_call 105; (with_reducible refine (number_width h.out off _ hk.out).mono ?_); rintro e w' ⟨rfl, rfl⟩)
  go_ret
  exact ⟨rfl, rfl⟩
theorem store_out (h : MemAt w p q L n) (off k : Int) (v : Int) (hk : k = 1 ∨ k = 2 ∨ k = 4 ∨ k = 8) (hi : insF n off k = false) : Calls Try.prog 73 #[.pointer (some ⟨p, 0, none⟩), .int .i64 off, .int .i64 k, .int .u64 v] w fun e w' => e = .returned (.int .i64 11) ∧ w = w' := by
  replace h := Lib.hid h
  replace hi := Lib.hid hi
  replace hk := Lib.hid hk
  go_enter Try.func73, Try.ntmps73
  go_wp2_with (go_at_call 105; (with_reducible refine (number_out h.out off _ hk.out hi.out).mono ?_); rintro e w' ⟨rfl, rfl⟩)
  go_ret
  exact ⟨rfl, rfl⟩
set_option maxRecDepth 100000 in
theorem store_in (h : MemAt w p q L n) (off k v : Nat) (hk : k = 1 ∨ k = 2 ∨ k = 4 ∨ k = 8) (hf : off + k ≤ n) (hv : v < 2 ^ 64) : Calls Try.prog 73 #[.pointer (some ⟨p, 0, none⟩), .int .i64 off, .int .i64 k, .int .u64 v] w fun e w' =>
    e = .returned (.int .i64 0) ∧ MemAt w' p q (splice L off (leB k v)) n ∧ Turns [q] w w' := by
  have hn : n ≤ L.length := h.le
  have hn2 : L.length ≤ 134217728 := h.cap
  have hk8 : k ≤ 8 := by omega
  replace hk := Lib.hid hk
  replace hv := Lib.hid hv
  replace h := Lib.hid h
  have hsl := fun j (hj : j ≤ k) => splice_len L off ((leB k v).take j) (by rw [List.length_take, leB_len]; omega)
  replace hsl := Lib.hid hsl
  go_enter Try.func73, Try.ntmps73
  go_wp2_with (go_at_call 105; (with_reducible refine (number_in h.out off k hk.out hf).mono ?_); rintro e w' ⟨rfl, rfl⟩)
  go_loopw [24] (fun i wr => ∃ j : Nat, j ≤ k ∧ i = .int .i64 j ∧ MemAt wr p q (splice L off ((leB k v).take j)) n ∧ Turns [q] w wr) (fun i _ => (k - (intOf i).toNat))
  case atStart => exact ⟨0, by omega, rfl, by rw [List.take_zero, splice_nil]; exact h.out, Turns.refl _ _⟩
  case round =>
    obtain ⟨j, hj, rfl, hm, ht⟩ := hrel
    replace ht := Lib.hid ht
    by_cases hlt : j < k
    · obtain ⟨b0, hb0⟩ := hm.has (off + j) (by rw [hsl.out j hj]; omega)
      have hfz := hm.datf (off + j)
      have HM := Lib.hid hm
      clear hm
      have HB := Lib.hid (leB_get? k v j hlt)
      go_wp2_with fail
      go_roundw
      case rel =>
        have hp := HM.out.put (off + j) (by omega) (UInt8.ofNat (v / 256 ^ j % 256))
        rw [splice_take_step L off (leB k v) j _ (by rw [leB_len]; omega) HB.out] at hp
        exact ⟨j + 1, by omega, by go_num, by rw [byte_at]; exact hp, ht.out.set _ _ _ (Or.inl (by simp))⟩
      case measure => simp [intOf]; omega
    · have hje : j = k := by omega
      have he : Hid (MemAt wr p q (splice L off (leB k v)) n) := by unfold Hid; rw [List.take_of_length_le (by rw [leB_len]; omega)] at hm; exact hm
      clear hje hm
      go_wp2_with fail
      go_ret
      exact ⟨rfl, he.out, ht.out⟩
theorem fill_out (h : MemAt w p q L n) (off k : Int) (v : Int) (hi : insF n off k = false) : Calls Try.prog 71 #[.pointer (some ⟨p, 0, none⟩), .int .i64 off, .int .i64 k, .int .u8 v] w fun e w' => e = .returned (.int .i64 11) ∧ w = w' := by
  replace h := Lib.hid h
  replace hi := Lib.hid hi
  go_enter Try.func71, Try.ntmps71
  go_wp2_with (go_at_call 104; (with_reducible refine (inside_to h.out off k false hi.out).mono ?_); rintro e w' ⟨rfl, rfl⟩)
  go_ret
  exact ⟨rfl, rfl⟩
set_option maxRecDepth 100000 in
theorem fill_in (h : MemAt w p q L n) (off k : Nat) (c : UInt8) (hf : off + k ≤ n) : Calls Try.prog 71 #[.pointer (some ⟨p, 0, none⟩), .int .i64 off, .int .i64 k, .int .u8 (c.toNat : Int)] w fun e w' =>
    e = .returned (.int .i64 0) ∧ MemAt w' p q (splice L off (List.replicate k c)) n ∧ Turns [q] w w' := by
  have hn : n ≤ L.length := h.le
  have hn2 : L.length ≤ 134217728 := h.cap
  have hc := h.ptrc
  have hdat := Lib.hid h.dat
  have hpp := Lib.hid h.ptr
  have hne := Lib.hid h.ne
  replace h := Lib.hid h
  have hsl := fun j (hj : j ≤ k) => splice_len L off ((List.replicate k c).take j) (by rw [List.length_take, List.length_replicate]; omega)
  replace hsl := Lib.hid hsl
  have hz2 : L.length = off ∨ ¬ L.length = off := by omega
  by_cases h0 : c = 0
  · subst h0
    rcases hz2 with hz | hz
    all_goals
      go_enter Try.func71, Try.ntmps71
      go_wp2_with (first | (go_at_call 104; (with_reducible refine (inside_to h.out off k true (ins_true (by omega) (by omega) (by omega))).mono ?_); rintro e w' ⟨rfl, rfl⟩) | ((with_reducible show wpList _ _ _ (⟨none, .call ⟨.builtin .clear, _, _⟩, _, _, _, _⟩ :: _) _ _); refine wpList_clear_bytes rfl (.tmp 27) rfl _ _ _ rfl q off L hdat.out (fun h0 => by first | rfl | omega) (by omega) ?_; intro w2 hb ht; replace hb := Lib.hid hb; replace ht := Lib.hid ht))
      go_ret
      exact ⟨rfl, h.out.spliced off _ (by simp; omega) (hpp.out.turn ht.out (by have := hne.out; simp; exact this)) (by have hb' := hb.out; (try rw [Nat.add_sub_cancel_left] at hb'); exact hb'), ht.out⟩
  · have hcn : ((c.toNat : Int) == 0) = false := by
      rw [beq_eq_false_iff_ne]
      intro e
      exact h0 (UInt8.toNat_inj.1 (by rw [show (0 : UInt8).toNat = 0 from rfl]; omega))
    clear h0
    rcases hz2 with hz | hz
    · have hk0 : k = 0 := by omega
      subst hk0
      go_enter Try.func71, Try.ntmps71
      go_wp2_with (go_at_call 104; (with_reducible refine (inside_to h.out off _ true (ins_true (by omega) (by omega) (by omega))).mono ?_); rintro e w' ⟨rfl, rfl⟩)
      go_loopw [30] (fun i wr => i = .int .i64 0 ∧ w = wr) (fun i _ => 0)
      case atStart => exact ⟨rfl, rfl⟩
      case round =>
        obtain ⟨rfl, rfl⟩ := hrel
        go_wp2_with fail
        go_ret
        exact ⟨rfl, by rw [List.replicate_zero, splice_nil]; exact h.out, Turns.refl _ _⟩
    · go_enter Try.func71, Try.ntmps71
      go_wp2_with (go_at_call 104; (with_reducible refine (inside_to h.out off _ true (ins_true (by omega) (by omega) (by omega))).mono ?_); rintro e w' ⟨rfl, rfl⟩)
      go_loopw [30] (fun i wr => ∃ j : Nat, j ≤ k ∧ i = .int .i64 j ∧ MemAt wr p q (splice L off ((List.replicate k c).take j)) n ∧ Turns [q] w wr) (fun i _ => (k - (intOf i).toNat))
      case atStart => exact ⟨0, by omega, rfl, by rw [List.take_zero, splice_nil]; exact h.out, Turns.refl _ _⟩
      case round =>
        obtain ⟨j, hj, rfl, hm, ht⟩ := hrel
        replace ht := Lib.hid ht
        by_cases hlt : j < k
        · obtain ⟨b0, hb0⟩ := hm.has (off + j) (by rw [hsl.out j hj]; omega)
          have hfz := hm.datf (off + j)
          have HM := Lib.hid hm
          clear hm
          have HB : Hid ((List.replicate k c)[j]? = some c) := by unfold Hid; rw [List.getElem?_replicate, if_pos hlt]
          go_wp2_with fail
          go_roundw
          case rel =>
            have hp := HM.out.put (off + j) (by omega) c
            rw [splice_take_step L off (List.replicate k c) j _ (by rw [List.length_replicate]; omega) HB.out] at hp
            exact ⟨j + 1, by omega, by go_num, hp, ht.out.set _ _ _ (Or.inl (by simp))⟩
          case measure => simp [intOf]; omega
        · have hje : j = k := by omega
          have he : Hid (MemAt wr p q (splice L off (List.replicate k c)) n) := by unfold Hid; rw [List.take_of_length_le (by rw [List.length_replicate]; omega)] at hm; exact hm
          clear hje hm
          go_wp2_with fail
          go_ret
          exact ⟨rfl, he.out, ht.out⟩
end
end Go.Proofs.Ytpbalilnemjeeaa
