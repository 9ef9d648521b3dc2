/- What is proved here: the contracts of a memory's Read, Load. Conditions: a memory that is there. -/
import Derived.Test.YtpbalilnemjeeaaMOne
namespace Go.Proofs.Ytpbalilnemjeeaa
set_option linter.unusedVariables false
set_option linter.unusedSimpArgs false
open Go.RowKit Pm
section
variable {w : World} {p q n : Nat} {L : List UInt8}
theorem MemAt.src (h : MemAt w p q L n) (off k : Nat) : ∀ j b, ((L.drop off).take k)[j]? = some b → w.cell? ((⟨q, off, none⟩ : Addr).add j) = some (.int .u8 (b.toNat : Int)) := by
  intro j b hb
  rw [List.getElem?_take] at hb
  split at hb
  · rw [List.getElem?_drop] at hb
    have e : (⟨q, off, none⟩ : Addr).add j = ⟨q, off + j, none⟩ := by unfold Addr.add; split <;> simp_all
    rw [e]
    exact h.datc (off + j) b hb
  · cases hb
theorem MemAt.srci (h : MemAt w p q L n) (off k j : Nat) (b : UInt8) (hb : ((L.drop off).take k)[j]? = some b) : w.cell? ⟨q, off + j, none⟩ = some (.int .u8 (b.toNat : Int)) := by
  have e : (⟨q, off, none⟩ : Addr).add j = ⟨q, off + j, none⟩ := by unfold Addr.add; split <;> simp_all
  rw [← e]
  exact h.src off k j b hb
theorem read_out (h : MemAt w p q L n) (off k : Int) (hi : insF n off k = false) : Calls Try.prog 70 #[.pointer (some ⟨p, 0, none⟩), .int .i64 off, .int .i64 k] w fun e w' => e = .returned (.tuple #[.slice none 0 0, .int .i64 11]) ∧ w = w' := by
  replace h := Lib.hid h
  replace hi := Lib.hid hi
  go_enter Try.func70, Try.ntmps70
  go_wp2_with (go_at_call 104; (with_reducible refine (inside_to h.out off _ false hi.out).mono ?_); rintro e w' ⟨rfl, rfl⟩)
  go_ret2
  exact ⟨rfl, rfl⟩
set_option maxRecDepth 100000 in
theorem read_in (h : MemAt w p q L n) (off k : Nat) (hf : off + k ≤ n) : Calls Try.prog 70 #[.pointer (some ⟨p, 0, none⟩), .int .i64 off, .int .i64 k] w fun e w' =>
    e = .returned (.tuple #[.slice (some ⟨w.heap.size, 0, none⟩) k k, .int .i64 0]) ∧ Blk w' w.heap.size (bv ((L.drop off).take k)) 5 ∧ Below w.heap.size w w' := by
  have hc := h.ptrc
  have hn : n ≤ L.length := h.le
  have hn2 : L.length ≤ 134217728 := h.cap
  have hpl := h.ptr.lt
  have hl : Hid (((L.drop off).take k).length = k) := by unfold Hid; simp; omega
  replace h := Lib.hid h
  go_enter Try.func70, Try.ntmps70
  have hb0 : Blk (w.alloc (.cells (bv (List.replicate k 0)) 5)) w.heap.size (bv (List.replicate k 0)) 5 := Blk.new w _ _
  replace hb0 := Lib.hid hb0
  have hm : Hid (((L.drop off).take k).length = Nat.min (n - off) k) := by unfold Hid; rw [hl.out]; exact (Nat.min_eq_right (by omega)).symm
  by_cases hk0 : k = 0
  · subst hk0
    by_cases hz : L.length = off
    all_goals
      go_wp2_with (first | (go_at_call 104; (with_reducible refine (inside_to h.out off _ true (ins_true (by omega) (by omega) (by omega))).mono ?_); rintro e w' ⟨rfl, rfl⟩) | (at_make; refine wpList_make_bytes rfl _ _ rfl 0 0 rfl rfl (by omega) (by omega) ?_) | ((with_reducible show wpList _ _ _ (⟨some 23, _, _, _, _, _⟩ :: _) _ _); refine wpList_copy_bytes rfl (.tmp 16) (.tmp 22) rfl _ _ _ _ _ _ rfl rfl w.heap.size 0 [] [] (Blk.new w _ _) (by simp [Nat.min_def]) ⟨q, off, none⟩ (fun h0 => absurd h0 (by simp)) (fun h0 => absurd h0 (by simp)) (fun j b hb => by simp at hb) (by simp) ?_; intro w2 hb ht; replace hb := Lib.hid hb; replace ht := Lib.hid ht))
      go_ret2
      exact ⟨rfl, by rw [List.take_zero]; exact hb.out, Turns.below ((Below.refl _ _).alloc (Nat.le_refl _) _) ht.out (by simp) (by simp)⟩
  · have hz : ¬ L.length = off := by omega
    go_wp2_with (first | (go_at_call 104; (with_reducible refine (inside_to h.out off _ true (ins_true (by omega) (by omega) (by omega))).mono ?_); rintro e w' ⟨rfl, rfl⟩) | (at_make; refine wpList_make_bytes rfl _ _ rfl k k rfl rfl (by omega) (by omega) ?_) | ((with_reducible show wpList _ _ _ (⟨some 23, _, _, _, _, _⟩ :: _) _ _); refine wpList_copy_bytes rfl (.tmp 16) (.tmp 22) rfl _ _ _ _ _ _ rfl rfl w.heap.size 0 (List.replicate k 0) ((L.drop off).take k) hb0.out hm.out ⟨q, off, none⟩ (fun _ => rfl) (fun _ => rfl) ((h.out.alloc _).src off k) (by rw [hl.out]; simp) ?_; intro w2 hb ht; replace hb := Lib.hid hb; replace ht := Lib.hid ht))
    go_ret2
    refine ⟨rfl, ?_, Turns.below ((Below.refl _ _).alloc (Nat.le_refl _) _) ht.out (by simp) (by simp)⟩
    have hb := hb.out
    rwa [splice_whole _ _ (by rw [hl.out]; simp)] at hb
theorem load_width (h : MemAt w p q L n) (off k : Int) (hk : ¬ (k = 1 ∨ k = 2 ∨ k = 4 ∨ k = 8)) : Calls Try.prog 74 #[.pointer (some ⟨p, 0, none⟩), .int .i64 off, .int .i64 k] w fun e w' => e = .returned (.tuple #[.int .u64 0, .int .i64 10]) ∧ w = w' := by
  replace h := Lib.hid h
  replace hk := Lib.hid hk
  go_enter Try.func74, Try.ntmps74
  go_wp2_with (go_at_call 105; (with_reducible refine (number_width h.out off _ hk.out).mono ?_); rintro e w' ⟨rfl, rfl⟩)
  go_ret2
  exact ⟨rfl, rfl⟩
theorem load_out (h : MemAt w p q L n) (off k : Int) (hk : k = 1 ∨ k = 2 ∨ k = 4 ∨ k = 8) (hi : insF n off k = false) : Calls Try.prog 74 #[.pointer (some ⟨p, 0, none⟩), .int .i64 off, .int .i64 k] w fun e w' => e = .returned (.tuple #[.int .u64 0, .int .i64 11]) ∧ w = w' := by
  replace h := Lib.hid h
  replace hi := Lib.hid hi
  replace hk := Lib.hid hk
  go_enter Try.func74, Try.ntmps74
  go_wp2_with (go_at_call 105; (with_reducible refine (number_out h.out off _ hk.out hi.out).mono ?_); rintro e w' ⟨rfl, rfl⟩)
  go_ret2
  exact ⟨rfl, rfl⟩
set_option maxRecDepth 100000 in
theorem load_in (h : MemAt w p q L n) (off k : Nat) (hk : k = 1 ∨ k = 2 ∨ k = 4 ∨ k = 8) (hf : off + k ≤ n) : Calls Try.prog 74 #[.pointer (some ⟨p, 0, none⟩), .int .i64 off, .int .i64 k] w fun e w' =>
    e = .returned (.tuple #[.int .u64 (leN ((L.drop off).take k)), .int .i64 0]) ∧ w = w' := by
  have hn : n ≤ L.length := h.le
  have hn2 : L.length ≤ 134217728 := h.cap
  have hk8 : k ≤ 8 := by omega
  replace hk := Lib.hid hk
  have hl : Hid (((L.drop off).take k).length = k) := by unfold Hid; simp; omega
  replace h := Lib.hid h
  go_enter Try.func74, Try.ntmps74
  go_wp2_with (go_at_call 105; (with_reducible refine (number_in h.out off k hk.out hf).mono ?_); rintro e w' ⟨rfl, rfl⟩)
  go_loop [10, 25] (fun v i => ∃ j : Nat, j ≤ k ∧ i = .int .i64 j ∧ v = .int .u64 (leN (((L.drop off).take k).take j))) (fun _ i => (k - (intOf i).toNat))
  case atStart => exact ⟨0, by omega, rfl, by simp [leN]⟩
  case round =>
    obtain ⟨j, hj, rfl, rfl⟩ := hrel
    by_cases hlt : j < k
    · obtain ⟨b, hb⟩ : ∃ b, Hid (((L.drop off).take k)[j]? = some b) := ⟨_, List.getElem?_eq_getElem (by rw [hl.out]; exact hlt)⟩
      have hcell := h.out.srci off k j b hb.out
      have hb2 : (b.toNat : Int) < 256 := by have := b.toNat_lt; omega
      have hx := leN_lt (((L.drop off).take k).take j)
      rw [show (((L.drop off).take k).take j).length = j by rw [List.length_take, hl.out]; omega] at hx
      have HX := Lib.hid (or_step _ b.toNat j hx b.toNat_lt (by omega))
      have HT := Lib.hid (leN_take_succ _ _ _ hb.out)
      clear hx
      go_wp2_with fail
      go_round
      case rel => exact ⟨j + 1, by omega, by go_num, by rw [HT.out]; exact congrArg _ HX.out⟩
      case measure => simp [intOf]; omega
    · have hje : j = k := by omega
      have he : Hid (leN (((L.drop off).take k).take j) = leN ((L.drop off).take k)) := by unfold Hid; rw [List.take_of_length_le (by rw [hl.out]; omega)]
      clear hje
      go_wp2_with fail
      go_ret2
      exact ⟨ret_tup2 (by rw [← he.out]; rfl) rfl, rfl⟩
end
end Go.Proofs.Ytpbalilnemjeeaa
