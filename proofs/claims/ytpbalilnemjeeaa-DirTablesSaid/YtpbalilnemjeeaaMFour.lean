/- What is proved here: the contracts of a memory's Copy and Equal. Conditions: a memory that is there. -/
import Derived.Test.YtpbalilnemjeeaaMThree
import Derived.Deep.RegionHeldLaw
namespace Go.Proofs.Ytpbalilnemjeeaa
set_option linter.unusedVariables false
set_option linter.unusedSimpArgs false
open Go.RowKit Pm
section
variable {w : World} {p q n : Nat} {L : List UInt8}
theorem copy_out (h : MemAt w p q L n) (dst src k : Int) (hi : insF n dst k = false ∨ insF n src k = false) : Calls Try.prog 69 #[.pointer (some ⟨p, 0, none⟩), .int .i64 dst, .int .i64 src, .int .i64 k] w fun e w' => e = .returned (.int .i64 11) ∧ w = w' := by
  replace h := Lib.hid h
  cases h1 : insF n dst k with
  | false =>
    replace h1 := Lib.hid h1
    clear hi
    go_enter Try.func69, Try.ntmps69
    go_wp2_with (go_at_call 104; (with_reducible refine (inside_to h.out dst k false h1.out).mono ?_); rintro e w' ⟨rfl, rfl⟩)
    go_ret
    exact ⟨rfl, rfl⟩
  | true =>
    have h2 : Hid (insF n src k = false) := by rcases hi with hi | hi; rw [h1] at hi; cases hi; exact hi
    replace h1 := Lib.hid h1
    clear hi
    go_enter Try.func69, Try.ntmps69
    go_wp2_with (go_at_call 104; first | ((with_reducible refine (inside_to h.out dst k true h1.out).mono ?_); rintro e w' ⟨rfl, rfl⟩) | ((with_reducible refine (inside_to h.out src k false h2.out).mono ?_); rintro e w' ⟨rfl, rfl⟩))
    go_ret
    exact ⟨rfl, rfl⟩
set_option maxRecDepth 100000 in
set_option maxHeartbeats 1000000 in
theorem copy_in (h : MemAt w p q L n) (dst src k : Nat) (hd : dst + k ≤ n) (hs : src + k ≤ n) : Calls Try.prog 69 #[.pointer (some ⟨p, 0, none⟩), .int .i64 dst, .int .i64 src, .int .i64 k] w fun e w' =>
    e = .returned (.int .i64 0) ∧ MemAt w' p q (splice L dst ((L.drop src).take k)) n ∧ Turns [q] w w' := by
  have hn : n ≤ L.length := h.le
  have hn2 : L.length ≤ 134217728 := h.cap
  have hc := h.ptrc
  have hdat := Lib.hid h.dat
  have hpp := Lib.hid h.ptr
  have hne := Lib.hid h.ne
  have hl : Hid (((L.drop src).take k).length = k) := by unfold Hid; simp; omega
  replace h := Lib.hid h
  go_enter Try.func69, Try.ntmps69
  go_wp2_with (go_at_call 104; first | ((with_reducible refine (inside_to h.out dst k true (ins_true (by omega) (by omega) (by omega))).mono ?_); rintro e w' ⟨rfl, rfl⟩) | ((with_reducible refine (inside_to h.out src k true (ins_true (by omega) (by omega) (by omega))).mono ?_); rintro e w' ⟨rfl, rfl⟩))
  have i1 : (0 : Int) ≤ dst := by omega
  have i2 : (0 : Int) ≤ src := by omega
  have i3 : (dst : Int) + k ≤ L.length := by omega
  have i4 : (src : Int) + k ≤ L.length := by omega
  have i5 : (dst : Int) ≤ dst + k := by omega
  have i6 : (src : Int) ≤ src + k := by omega
  have i7 : (0 : Int) ≤ dst + k := by omega
  have i8 : (0 : Int) ≤ src + k := by omega
  have f1 : IntKind.i64.wrap ((dst : Int) + k) = dst + k := IntWalk.i64_in _ (by omega)
  have f2 : IntKind.i64.wrap ((src : Int) + k) = src + k := IntWalk.i64_in _ (by omega)
  have hpq : Hid (¬ p ∈ [q]) := by have := hne.out; unfold Hid; simp; exact this
  have hkk : Hid (∀ w2, Turns [q] w.drew w2 → w2.cell? ⟨p, 0, none⟩ = some (.slice (some ⟨q, 0, none⟩) n L.length)) := fun w2 ht => (hpp.out.drew.turn ht hpq.out).cell 0
  by_cases hk0 : k = 0
  · have hz1 : L.length = dst ∨ ¬ L.length = dst := by omega
    have hz2 : L.length = src ∨ ¬ L.length = src := by omega
    replace hk0 := Lib.hid hk0
    rcases hz1 with rfl | hz1
    all_goals
      rcases hz2 with rfl | hz2
    all_goals
      go_region_held_law (fun w' => w'.cell? ⟨p, 0, none⟩ = some (.slice (some ⟨q, 0, none⟩) n L.length)) (go_keep) ((refine step_copy_bytes rfl (.tmp 29) (.tmp 38) rfl _ _ _ _ _ _ (by rfl) (by rfl) q _ L [] hdat.out (by have := hk0.out; simp only [Nat.min_def, List.length_nil]; split <;> omega) ⟨q, 0, none⟩ (fun h0 => absurd h0 (by simp)) (fun h0 => absurd h0 (by simp)) (fun j b hb => by simp at hb) (by simp; omega) ?_; intro w2 hb ht; have hw2 := hkk.out w2 ht; replace hb := Lib.hid hb; replace ht := Lib.hid ht))
      go_wp2_with fail
      go_ret
      exact ⟨rfl, h.out.spliced _ _ (by rw [hk0.out, List.take_zero]; simp; omega) (hpp.out.drew.turn ht.out hpq.out) (by rw [hk0.out, List.take_zero, splice_nil]; have hb' := hb.out; rwa [splice_nil] at hb'), (Turns.refl _ _).drew.trans (ht.out.more (by simp))⟩
  · have hz1 : ¬ L.length = dst := by omega
    have hz2 : ¬ L.length = src := by omega
    go_region_held_law (fun w' => w'.cell? ⟨p, 0, none⟩ = some (.slice (some ⟨q, 0, none⟩) n L.length)) (go_keep) ((refine step_copy_bytes rfl (.tmp 29) (.tmp 38) rfl _ _ _ _ _ _ (by rfl) (by rfl) q dst L ((L.drop src).take k) hdat.out (by rw [hl.out]; simp only [Nat.min_def]; split <;> omega) ⟨q, src, none⟩ (fun _ => rfl) (fun _ => rfl) (h.out.src src k) (by rw [hl.out]; omega) ?_; intro w2 hb ht; have hw2 := hkk.out w2 ht; replace hb := Lib.hid hb; replace ht := Lib.hid ht))
    go_wp2_with fail
    go_ret
    exact ⟨rfl, h.out.spliced dst _ (by rw [hl.out]; omega) (hpp.out.drew.turn ht.out hpq.out) hb.out, (Turns.refl _ _).drew.trans (ht.out.more (by simp))⟩
theorem equal_out (h : MemAt w p q L n) (x y k : Int) (hi : insF n x k = false ∨ insF n y k = false) : Calls Try.prog 68 #[.pointer (some ⟨p, 0, none⟩), .int .i64 x, .int .i64 y, .int .i64 k] w fun e w' => e = .returned (.tuple #[.bool false, .int .i64 11]) ∧ w = w' := by
  replace h := Lib.hid h
  cases h1 : insF n x k with
  | false =>
    replace h1 := Lib.hid h1
    clear hi
    go_enter Try.func68, Try.ntmps68
    go_wp2_with (go_at_call 104; (with_reducible refine (inside_to h.out x k false h1.out).mono ?_); rintro e w' ⟨rfl, rfl⟩)
    go_ret2
    exact ⟨rfl, rfl⟩
  | true =>
    have h2 : Hid (insF n y k = false) := by rcases hi with hi | hi; rw [h1] at hi; cases hi; exact hi
    replace h1 := Lib.hid h1
    clear hi
    go_enter Try.func68, Try.ntmps68
    go_wp2_with (go_at_call 104; first | ((with_reducible refine (inside_to h.out x k true h1.out).mono ?_); rintro e w' ⟨rfl, rfl⟩) | ((with_reducible refine (inside_to h.out y k false h2.out).mono ?_); rintro e w' ⟨rfl, rfl⟩))
    go_ret2
    exact ⟨rfl, rfl⟩
set_option maxRecDepth 100000 in
theorem equal_in (h : MemAt w p q L n) (x y k : Nat) (hd : x + k ≤ n) (hs : y + k ≤ n) : Calls Try.prog 68 #[.pointer (some ⟨p, 0, none⟩), .int .i64 x, .int .i64 y, .int .i64 k] w fun e w' =>
    e = .returned (.tuple #[.bool (decide ((L.drop x).take k = (L.drop y).take k)), .int .i64 0]) ∧ ∃ m, w' = w.drewN m := by
  have hn : n ≤ L.length := h.le
  have hn2 : L.length ≤ 134217728 := h.cap
  have hlx : Hid (((L.drop x).take k).length = k) := by unfold Hid; simp; omega
  have hly : Hid (((L.drop y).take k).length = k) := by unfold Hid; simp; omega
  replace h := Lib.hid h
  go_enter Try.func68, Try.ntmps68
  go_wp2_with (go_at_call 104; first | ((with_reducible refine (inside_to h.out x k true (ins_true (by omega) (by omega) (by omega))).mono ?_); rintro e w' ⟨rfl, rfl⟩) | ((with_reducible refine (inside_to h.out y k true (ins_true (by omega) (by omega) (by omega))).mono ?_); rintro e w' ⟨rfl, rfl⟩))
  go_loopw [24] (fun i wr => ∃ j m : Nat, j ≤ k ∧ i = .int .i64 j ∧ Hid (((L.drop x).take k).take j = ((L.drop y).take k).take j) ∧ wr = w.drewN m) (fun i _ => (k - (intOf i).toNat))
  case atStart => exact ⟨0, 0, by omega, rfl, by unfold Hid; simp, rfl⟩
  case round =>
    obtain ⟨j, m, hj, rfl, hq, rfl⟩ := hrel
    by_cases hlt : j < k
    · obtain ⟨b, hb⟩ : ∃ b, Hid (((L.drop x).take k)[j]? = some b) := ⟨_, List.getElem?_eq_getElem (by rw [hlx.out]; exact hlt)⟩
      obtain ⟨c, hc⟩ : ∃ c, Hid (((L.drop y).take k)[j]? = some c) := ⟨_, List.getElem?_eq_getElem (by rw [hly.out]; exact hlt)⟩
      have hp := h.out.ptrc
      have hcb := h.out.srci x k j b hb.out
      have hcc := h.out.srci y k j c hc.out
      have i1 : (0 : Int) ≤ x + j := by omega
      have i2 : (x : Int) + j < n := by omega
      have i3 : (0 : Int) ≤ y + j := by omega
      have i4 : (y : Int) + j < n := by omega
      have f1 : IntKind.i64.wrap ((x : Int) + j) = x + j := IntWalk.i64_in _ (by omega)
      have f2 : IntKind.i64.wrap ((y : Int) + j) = y + j := IntWalk.i64_in _ (by omega)
      by_cases hbc : b = c
      · subst hbc
        have hbt : ((b.toNat : Int) != (b.toNat : Int)) = false := by simp
        go_wp2_with fail
        go_quiet (fail)
        go_wp2_with fail
        go_roundw
        case rel =>
          exact ⟨j + 1, _, by omega, by go_num, by unfold Hid; rw [List.take_add_one, List.take_add_one, hb.out, hc.out, hq.out], rfl⟩
        case measure => simp [intOf]; omega
      · have hbt : ((b.toNat : Int) != (c.toNat : Int)) = true := by
          rw [bne_iff_ne]; intro e; exact hbc (UInt8.toNat_inj.1 (by omega))
        have hr : Hid (decide ((L.drop x).take k = (L.drop y).take k) = false) := by
          unfold Hid
          rw [decide_eq_false_iff_not]
          intro e
          have h1 := hb.out
          rw [e, hc.out] at h1
          exact hbc (Option.some.inj h1).symm
        clear hbc
        go_wp2_with fail
        go_quiet (fail)
        go_wp2_with fail
        go_ret2
        exact ⟨ret_tup2 (by rw [hr.out]; rfl) rfl, _, World.drewN_drewN _ _ _⟩
    · have hje : j = k := by omega
      have hr : Hid (decide ((L.drop x).take k = (L.drop y).take k) = true) := by
        have h1 := hq.out
        rw [List.take_take, List.take_take, Nat.min_eq_left (by omega), hje] at h1
        unfold Hid
        rw [decide_eq_true_eq]; exact h1
      clear hje
      go_wp2_with fail
      go_ret2
      exact ⟨ret_tup2 (by rw [hr.out]; rfl) rfl, _, rfl⟩
end
end Go.Proofs.Ytpbalilnemjeeaa
