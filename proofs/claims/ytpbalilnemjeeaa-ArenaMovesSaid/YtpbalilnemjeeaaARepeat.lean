/- What is proved here: the contract of the law's own repeat. Conditions: a number of bytes, at most 4096. -/
import Derived.Test.YtpbalilnemjeeaaAWrite
namespace Go.Proofs.Ytpbalilnemjeeaa
set_option linter.unusedVariables false
set_option linter.unusedSimpArgs false
open Go.RowKit Pm Pa Pl
theorem rep_set (b : UInt8) (n k : Nat) (h : k < n) : (List.replicate k b ++ List.replicate (n - k) 0).set k b = List.replicate (k + 1) b ++ List.replicate (n - (k + 1)) (0 : UInt8) := by
  apply List.ext_getElem?
  intro i
  rw [List.getElem?_set, List.getElem?_append, List.getElem?_append, List.length_append, List.length_replicate, List.length_replicate, List.length_replicate]
  by_cases e : k = i
  · subst e
    rw [if_pos rfl, if_pos (by omega), if_pos (by omega), List.getElem?_replicate, if_pos (by omega)]
  · rw [if_neg e]
    by_cases h1 : i < k
    · rw [if_pos h1, if_pos (by omega), List.getElem?_replicate, List.getElem?_replicate, if_pos h1, if_pos (by omega)]
    · rw [if_neg h1, if_neg (by omega), List.getElem?_replicate, List.getElem?_replicate]
      by_cases h2 : i < n
      · rw [if_pos (by omega), if_pos (by omega)]
      · rw [if_neg (by omega), if_neg (by omega)]
set_option maxHeartbeats 1000000 in
theorem repeat_to (b : UInt8) (n : Nat) (hn : n ≤ 4096) (S : ByteArray) (hS : S.data.toList = List.replicate n b) (w : World) (B N : Int) (hB : B = b.toNat) (hN : N = n) :
    Calls Try.prog 27 #[.int .u8 B, .int .i64 N] w fun e w' => e = .returned (.string S) ∧ Below w.heap.size w w' := by
  subst hB hN
  replace hS := Lib.hid hS
  go_enter Try.func27, Try.ntmps27
  go_wp2_with (first
    | (at_make; refine wpList_make_bytes rfl _ _ rfl n n rfl rfl (Nat.le_refl _) (by omega) ?_)
    | fail)
  have hB0 : Blk (w.alloc (.cells (bv (List.replicate n 0)) 5)) w.heap.size (bv (List.replicate n 0)) 5 := Blk.new _ _ _
  have hW0 : Below w.heap.size w (w.alloc (.cells (bv (List.replicate n 0)) 5)) := (Below.refl _ _).alloc (Nat.le_refl _) _
  obtain ⟨G, hG⟩ : ∃ G, Hid (G = w.heap.size) := ⟨_, rfl⟩
  obtain ⟨wo, rfl⟩ : ∃ wo : World, wo = w := ⟨_, rfl⟩
  rw [← hG.out] at hB0 ⊢
  have hGl : wo.heap.size ≤ G := by rw [hG.out]; exact Nat.le_refl _
  generalize World.alloc wo _ = wz at hB0 hW0 ⊢
  go_wp2_with fail
  go_loopw [6] (fun i wr => ∃ k : Nat, k ≤ n ∧ i = .int .i64 (k : Int) ∧ Hid (Below wo.heap.size wo wr) ∧ Hid (Blk wr G (bv (List.replicate k b ++ List.replicate (n - k) 0)) 5)) (fun i _ => (n - (intOf i).toNat))
  case atStart => exact ⟨0, Nat.zero_le _, rfl, hW0, hB0⟩
  case round =>
    obtain ⟨k, hk, rfl, hbl, hBk⟩ := hrel
    by_cases hlt : k < n
    · have ck : wr.cell? ⟨G, k, none⟩ = some (.int .u8 0) := by
        rw [hBk.out.cell, bv_get?, List.getElem?_append_right (by simp), List.getElem?_replicate, if_pos (by simp; omega)]
        rfl
      have fk := hBk.out.free k
      have k0 : (0 : Int) ≤ k := by omega
      have k1 : (k : Int) < n := by omega
      go_wp2_with fail
      go_roundw
      case rel =>
        refine ⟨k + 1, by omega, by go_num, hbl.out.setCell (p := ⟨G, k, none⟩) hGl _, ?_⟩
        have h9 := hBk.out.set k (.int .u8 (b.toNat : Int))
        rw [bv_set, rep_set b n k hlt] at h9
        exact h9
      case measure => simp [intOf]; omega
    · obtain rfl : k = n := by omega
      have hBn : Blk wr G (bv (List.replicate k b)) 5 := by
        have h9 := hBk.out
        rw [Nat.sub_self, List.replicate_zero, List.append_nil] at h9
        exact h9
      have hcv := conv_bytes wr G k k (List.replicate k b) S hS.out (by simp) hBn
      clear hBn
      go_wp2_with fail
      go_ret
      exact ⟨rfl, hbl.out⟩
end Go.Proofs.Ytpbalilnemjeeaa
