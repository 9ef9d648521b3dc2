/- What is proved here: the walk of the law CtrlBorrows. The mask is a byte. -/
import Derived.Test.YtakmaedimelaaaaCCtrl
namespace Go.Proofs.Ytakmaedimelaaaa
set_option linter.unusedVariables false
set_option linter.unusedSimpArgs false
open Go.RowKit Pl
set_option maxRecDepth 100000 in
set_option maxHeartbeats 1000000 in
theorem borrows_in (tag b m : Nat) (w : World) (ht : tag ≤ 127) (hb : b ≤ 7) (hm : m < 256) : Calls Try.prog 7 #[.int .i64 tag, .int .u8 m, .int .i64 b] w fun e w' => e = .returned (.bool true) ∧ Below w.heap.size w w' := by
  have g1 : ¬ (tag : Int) < 0 := by omega
  have g2 : ¬ 127 < (tag : Int) := by omega
  have g3 : ¬ (b : Int) < 0 := by omega
  have g4 : ¬ 7 < (b : Int) := by omega
  go_enter Try.func7, Try.ntmps7
  go_wp2_with fail
  refine (empty_any _).mono ?_
  rintro e w1 ⟨rfl, hB⟩
  go_wp2_with fail
  obtain ⟨y1, y2, y3⟩ := flip_eq tag b ht hb
  generalize tag ^^^ 2 ^ b = y at *
  go_loopw [8, 7] (fun i x wr => ∃ k x' : Nat, k ≤ 8 ∧ i = .int .i64 k ∧ x = .int .u64 x' ∧ x' < 18446744073709551616 ∧ Hid (∀ j, j < k → byt x' j = if bitB m j then tag else y) ∧ Below w.heap.size w wr) (fun i _ _ => (8 - intOf i).toNat)
  case atStart => exact ⟨0, _, by decide, rfl, rfl, by decide, fun j hj => by omega, hB⟩
  case round =>
    obtain ⟨k, x, hk, rfl, rfl, hx, hall, hB⟩ := hrel
    by_cases hlt : k < 8
    · have h1 := bit_eq m k hm
      obtain ⟨v, hv⟩ : ∃ v, Hid (bitB m k = v) := ⟨_, rfl⟩
      cases v
      · rw [hv.out] at h1
        have e0 : (bits BinOp.and IntKind.u8 ((m : Int) / 2 ^ k) 1 == 0) = true := by rw [h1]; rfl
        clear h1
        have hs := Lib.hid (fun j (hj : j < 8) => byt_setN (n := x) (i := k) (c := y) (j := j) (by omega) hlt hj)
        go_wp2_with (go_at_call 8; refine (set_in x k y _ hx hlt (by omega)).mono ?_; rintro e w' ⟨rfl, ⟨mm, rfl⟩⟩)
        go_roundw
        case rel =>
          refine ⟨k + 1, setN x k y, by omega, by go_num, rfl, setN_lt (by omega) hlt, fun j hj => ?_, by first | exact hB | exact below_drewN hB _⟩
          rw [hs.out j (by omega)]
          by_cases hjk : j = k
          · subst hjk; rw [if_pos rfl, hv.out]; rfl
          · rw [if_neg hjk]; exact hall.out j (by omega)
        case measure => simp [intOf]; omega
      · rw [hv.out] at h1
        have e0 : (bits BinOp.and IntKind.u8 ((m : Int) / 2 ^ k) 1 == 0) = false := by rw [h1]; rfl
        clear h1
        have hs := Lib.hid (fun j (hj : j < 8) => byt_setN (n := x) (i := k) (c := tag) (j := j) (by omega) hlt hj)
        go_wp2_with (go_at_call 8; refine (set_in x k tag _ hx hlt (by omega)).mono ?_; rintro e w' ⟨rfl, ⟨mm, rfl⟩⟩)
        go_roundw
        case rel =>
          refine ⟨k + 1, setN x k tag, by omega, by go_num, rfl, setN_lt (by omega) hlt, fun j hj => ?_, by first | exact hB | exact below_drewN hB _⟩
          rw [hs.out j (by omega)]
          by_cases hjk : j = k
          · subst hjk; rw [if_pos rfl, hv.out]; rfl
          · rw [if_neg hjk]; exact hall.out j (by omega)
        case measure => simp [intOf]; omega
    · have hmat : Hid (∀ j, j < 8 → mat x tag j = bitB m j) := fun j hj => by
        unfold mat
        rw [hall.out j (by omega)]
        cases bitB m j
        · simp [y3]
        · simp
      clear y1 y3 hall
      go_wp2_with fail
      refine (match_in x tag _ hx (by omega)).mono ?_
      rintro e w2 ⟨rfl, hb2⟩
      have hB2 := Below.then hB hb2
      go_wp2_with fail
      have hT : Three w w2.heap.size w2.heap.size w2.heap.size (.int .u64 (mask (mat x tag) : Nat)) (.int .u64 (mask (mat x tag) : Nat)) (.int .u64 (mask (mat x tag) : Nat))
          (w2.alloc (.cells #[.int .u64 (mask (mat x tag) : Nat)] 30)) :=
        ⟨hB2.alloc hB2.size _, by go_simp, by go_simp, by go_simp⟩
      go_loopw [11, 12] (fun s i wr => ∃ k : Nat, k ≤ 8 ∧ i = .int .i64 k ∧ s = .int .i64 (upTo (bitB m) k : Nat) ∧ Three w w2.heap.size w2.heap.size w2.heap.size (.int .u64 (mask (mat x tag) : Nat)) (.int .u64 (mask (mat x tag) : Nat)) (.int .u64 (mask (mat x tag) : Nat)) wr) (fun _ i _ => (8 - intOf i).toNat)
      case atStart => exact ⟨0, by decide, rfl, rfl, hT⟩
      case round =>
        obtain ⟨k, hk, rfl, rfl, hT⟩ := hrel
        have q1 := hT.c1
        have hu := upTo_le (bitB m) k
        by_cases hkl : k < 8
        · have h1 := bit_eq m k hm
          obtain ⟨v, hv⟩ : ∃ v, Hid (bitB m k = v) := ⟨_, rfl⟩
          cases v
          · rw [hv.out] at h1
            have e0 : (bits BinOp.and IntKind.u8 ((m : Int) / 2 ^ k) 1 == 1) = false := by rw [h1]; rfl
            clear h1
            have hq := Lib.hid ((hmat.out k hkl).trans hv.out)
            have hup : Hid (upTo (bitB m) (k + 1) = upTo (bitB m) k + 0) := by unfold Hid; simp only [upTo]; rw [hv.out]; rfl
            have q0 := hT.below
            have k0 : (0 : Int) ≤ (k : Int) := by omega
            go_wp2_with fail
            go_region_held3 (fun w' => Below w.heap.size w w' ∧ w'.cell? ⟨w2.heap.size, 0, none⟩ = some (.int .u64 (mask (mat x tag) : Nat))) (first | exact ⟨hT.below, hT.c1⟩ | exact ⟨hT.below.drew, hT.c1⟩ | exact ⟨by assumption, by assumption⟩ | go_keep) ((first | (go_at_call 12; refine (keeps (has_is (mat x tag) k _ _ hkl hq.out) (fun w' hb => Three.keep (by first | exact hT | exact hT.drew1 | exact hT.drew _) w' hb)).mono ?_; rintro e w' ⟨rfl, hT⟩; have q0 := hT.below; have q1 := hT.c1)))
            go_wp2_with (go_at_call 12; refine (keeps (has_is (mat x tag) k _ _ hkl hq.out) (fun w' hb => Three.keep (by first | exact hT | exact hT.drew1 | exact hT.drew _) w' hb)).mono ?_; rintro e w' ⟨rfl, hT⟩; have q0 := hT.below; have q1 := hT.c1)
            go_roundw
            case rel => exact ⟨k + 1, by omega, by go_num, by rw [hup.out]; go_num, by first | exact hT | exact hT.drew _⟩
            case measure => simp [intOf]; omega
          · rw [hv.out] at h1
            have e0 : (bits BinOp.and IntKind.u8 ((m : Int) / 2 ^ k) 1 == 1) = true := by rw [h1]; rfl
            clear h1
            have hq := Lib.hid ((hmat.out k hkl).trans hv.out)
            have hup : Hid (upTo (bitB m) (k + 1) = upTo (bitB m) k + 1) := by unfold Hid; simp only [upTo]; rw [hv.out]; rfl
            have q0 := hT.below
            have k0 : (0 : Int) ≤ (k : Int) := by omega
            go_wp2_with fail
            go_region_held3 (fun w' => Below w.heap.size w w' ∧ w'.cell? ⟨w2.heap.size, 0, none⟩ = some (.int .u64 (mask (mat x tag) : Nat))) (first | exact ⟨hT.below, hT.c1⟩ | exact ⟨hT.below.drew, hT.c1⟩ | exact ⟨by assumption, by assumption⟩ | go_keep) ((first | (go_at_call 12; refine (keeps (has_is (mat x tag) k _ _ hkl hq.out) (fun w' hb => Three.keep (by first | exact hT | exact hT.drew1 | exact hT.drew _) w' hb)).mono ?_; rintro e w' ⟨rfl, hT⟩; have q0 := hT.below; have q1 := hT.c1)))
            go_wp2_with (go_at_call 12; refine (keeps (has_is (mat x tag) k _ _ hkl hq.out) (fun w' hb => Three.keep (by first | exact hT | exact hT.drew1 | exact hT.drew _) w' hb)).mono ?_; rintro e w' ⟨rfl, hT⟩; have q0 := hT.below; have q1 := hT.c1)
            go_roundw
            case rel => exact ⟨k + 1, by omega, by go_num, by rw [hup.out]; go_num, by first | exact hT | exact hT.drew _⟩
            case measure => simp [intOf]; omega
        · have he : Hid (((cnt (mat x tag) : Nat) : Int) = ((upTo (bitB m) k : Nat) : Int)) := by
            have : k = 8 := by omega
            subst this
            unfold Hid
            rw [upTo_cnt]
            unfold cnt
            rw [hmat.out 0 (by decide), hmat.out 1 (by decide), hmat.out 2 (by decide), hmat.out 3 (by decide), hmat.out 4 (by decide), hmat.out 5 (by decide), hmat.out 6 (by decide), hmat.out 7 (by decide)]
          go_wp2_with fail
          refine (keeps (count_to (mat x tag) _ _ he.out) (fun w' hb => Three.keep (by first | exact hT | exact hT.drew _) w' hb)).mono ?_
          rintro e w6 ⟨rfl, hT6⟩
          go_wp2_with fail
          go_ret
          exact ⟨ret_bool (by simp), hT6.below⟩
theorem borrows_all (tag b : Int) (m : Nat) (w : World) (hm : m < 256) : Calls Try.prog 7 #[.int .i64 tag, .int .u8 m, .int .i64 b] w fun e w' => e = .returned (.bool true) ∧ Below w.heap.size w w' := by
  by_cases h : 0 ≤ tag ∧ tag ≤ 127 ∧ 0 ≤ b ∧ b ≤ 7
  · obtain ⟨t, rfl⟩ := Int.eq_ofNat_of_zero_le h.1
    obtain ⟨c, rfl⟩ := Int.eq_ofNat_of_zero_le h.2.2.1
    exact borrows_in t c m w (by omega) (by omega) hm
  have hn : (tag < 0) ∨ (0 ≤ tag ∧ 127 < tag) ∨ (0 ≤ tag ∧ tag ≤ 127 ∧ b < 0) ∨ (0 ≤ tag ∧ tag ≤ 127 ∧ 0 ≤ b ∧ 7 < b) := by omega
  clear h
  rcases hn with hn | ⟨hn0, hn⟩ | ⟨hn0, hn1, hn⟩ | ⟨hn0, hn1, hn2, hn⟩
  all_goals
    go_enter Try.func7, Try.ntmps7
    go_wp2_with fail
    go_ret
    exact ⟨rfl, Below.refl _ _⟩
end Go.Proofs.Ytakmaedimelaaaa
