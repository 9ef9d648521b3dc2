/- What is proved here: the contracts of the law's own all and holds: lists that hold their marks. Conditions: such lists lie in memory. -/
import Derived.Test.YtkchhggbiopffaaPEnds
namespace Go.Proofs.Ytkchhggbiopffaa
set_option linter.unusedVariables false
set_option linter.unusedSimpArgs false
open Go.RowKit Pm
/-- n marks, and k numbers behind them -/
def marks (m : UInt8) (n k : Nat) : List UInt8 := List.replicate n m ++ (List.range k).map (fun i => m + UInt8.ofNat (i + 1))
theorem marks_len (m : UInt8) (n k : Nat) : (marks m n k).length = n + k := by simp [marks]
theorem marks_lo (m : UInt8) (n k j : Nat) (h : j < n) : (marks m n k)[j]? = some m := by
  unfold marks
  rw [List.getElem?_append_left (by simpa using h), List.getElem?_replicate, if_pos h]
theorem marks_hi (m : UInt8) (n k j : Nat) (h : n ≤ j) (h2 : j < n + k) : (marks m n k)[j]? = some (m + UInt8.ofNat (j - n + 1)) := by
  unfold marks
  rw [List.getElem?_append_right (by simpa using h), List.length_replicate, List.getElem?_map, List.getElem?_range (by omega)]; rfl
theorem wrap_u8 (z : Int) : IntKind.u8.wrap z = z % 256 := by simp [IntKind.wrap, IntKind.signed, IntKind.bits]
theorem add_u8 (m : UInt8) (i : Nat) (hi : i < 256) : IntKind.u8.wrap ((m.toNat : Int) + (i : Int)) = ((m + UInt8.ofNat i).toNat : Int) := by
  rw [wrap_u8, UInt8.toNat_add]
  have : (UInt8.ofNat i).toNat = i := by simp; omega
  rw [this]; omega
set_option maxHeartbeats 1000000 in
theorem all_to (w : World) (g c : Nat) (m : UInt8) (n k : Nat) (hk : k ≤ 3) (hn : n ≤ 134217728) (hc : ∀ (j : Nat) (b : UInt8), (marks m n k)[j]? = some b → w.cell? ⟨g, j, none⟩ = some (.int .u8 (b.toNat : Int))) :
    Calls Try.prog 37 #[.slice (some ⟨g, 0, none⟩) (n + k) c, .int .u8 (m.toNat : Int), .int .i64 n, .int .i64 k] w fun e w' => e = .returned (.bool true) ∧ w = w' := by
  have hne : (((n + k : Nat) : Int) != (n : Int) + (k : Int)) = false := by simp
  replace hc := Lib.hid hc
  go_enter Try.func37, Try.ntmps37
  go_wp2_with fail
  clear hne
  go_loop [19] (fun iv => ∃ j : Nat, j ≤ n + k ∧ iv = .int .i64 j) (fun iv => (n + k - intOf iv).toNat)
  case atStart => exact ⟨0, by omega, rfl⟩
  case round =>
    obtain ⟨j, hj, rfl⟩ := hrel
    by_cases hlt : j < n + k
    · by_cases hjn : j < n
      · have q := hc.out j m (marks_lo m n k j hjn)
        have j0 : (0 : Int) ≤ j := by omega
        have j1 : (j : Int) < n + k := by omega
        have j2 : (j : Int) < n := by omega
        have j3 : ¬ (n : Int) ≤ j := by omega
        go_wp2_with fail
        go_round
        case rel => exact ⟨j + 1, by omega, by go_num⟩
        case measure => simp [intOf]; omega
      · have q := hc.out j _ (marks_hi m n k j (by omega) hlt)
        obtain ⟨b, hb⟩ : ∃ b, m + UInt8.ofNat (j - n + 1) = b := ⟨_, rfl⟩
        have hs := add_u8 m (j - n + 1) (by omega)
        rw [hb] at q hs
        have hw : IntKind.u8.wrap ((j : Int) - (n : Int) + 1) = ((j - n + 1 : Nat) : Int) := by rw [wrap_u8]; omega
        obtain ⟨t, ht⟩ : ∃ t, j - n + 1 = t := ⟨_, rfl⟩
        rw [ht] at hs hw
        have ht3 : t ≤ 3 := by omega
        clear ht
        have j0 : (0 : Int) ≤ j := by omega
        have j1 : (j : Int) < n + k := by omega
        have j2 : ¬ (j : Int) < n := by omega
        have j3 : (n : Int) ≤ j := by omega
        clear hb
        go_wp2_with fail
        go_round
        case rel => exact ⟨j + 1, by omega, by go_num⟩
        case measure => simp [intOf]; omega
    · obtain rfl : j = n + k := by omega
      go_wp2_with fail
      go_ret
      exact ⟨rfl, rfl⟩
end Go.Proofs.Ytkchhggbiopffaa
