/- What is proved here: the contracts of the reference's First, Count, Rest, and of the law's own is and told. The library's table lies in its variable. -/
import Derived.Test.YtakmaedimelaaaaDoorCRefSets
set_option linter.unusedVariables false
set_option linter.unusedSimpArgs false
namespace Go.Proofs.YtakmaedimelaaaaDoor
open Go.RowKit Pl
theorem boxed (w : World) (p : Nat → Bool) : Own w w.heap.size (bs p) 29 (w.alloc (.cells (bs p) 29)) := ⟨(Below.refl _ _).alloc (Nat.le_refl _) _, Blk.new _ _ _, Nat.le_refl _⟩
theorem rfirst_any (p : Nat → Bool) (w : World) : Calls Tryd.prog 34 #[.agg (bs p)] w fun e w' => e = .returned (.int .i64 (fst p : Nat)) ∧ Below w.heap.size w w' := by
  have hO := boxed w p
  go_enter Tryd.func34, Tryd.ntmps34
  go_wp2_with fail
  go_loopw [3] (fun i wr => ∃ k : Nat, k ≤ 8 ∧ i = .int .i64 k ∧ Hid (∀ i, i < k → p i = false) ∧ Own w w.heap.size (bs p) 29 wr) (fun i _ => (8 - intOf i).toNat)
  case atStart => exact ⟨0, by decide, rfl, fun i hi => by omega, hO⟩
  case round =>
    clear hO
    obtain ⟨k, hk, rfl, hall, hO⟩ := hrel
    by_cases hlt : k < 8
    · have q1 := hO.blk.cell k
      rw [bs_get _ k hlt] at q1
      have k0 : (0 : Int) ≤ k := by omega
      have k1 : (k : Int) < 8 := by omega
      cases hp : p k
      · rw [hp] at q1
        replace hp := Lib.hid hp
        go_wp2_with fail
        go_roundw
        case rel =>
          refine ⟨k + 1, by omega, by go_num, fun i hi => ?_, hO⟩
          by_cases e : i = k
          · subst e; exact hp.out
          · exact hall.out i (by omega)
        case measure => simp [intOf]; omega
      · rw [hp] at q1
        have hf := Lib.hid (fst_eq p k hk hall.out (fun _ => hp))
        clear hp
        go_wp2_with fail
        go_ret
        exact ⟨ret_int (by rw [hf.out]), hO.below⟩
    · obtain rfl : k = 8 := by omega
      have hf := Lib.hid (fst_eq p 8 hk hall.out (fun h => by omega))
      go_wp2_with fail
      go_ret
      exact ⟨ret_int (by rw [hf.out]; rfl), hO.below⟩
theorem rfirst_to (p : Nat → Bool) (k : Nat) (w : World) (hk : fst p = k) : Calls Tryd.prog 34 #[.agg (bs p)] w fun e w' => e = .returned (.int .i64 (k : Nat)) ∧ Below w.heap.size w w' := by
  subst hk; exact rfirst_any p w
theorem rcount_any (p : Nat → Bool) (w : World) : Calls Tryd.prog 35 #[.agg (bs p)] w fun e w' => e = .returned (.int .i64 (cnt p : Nat)) ∧ Below w.heap.size w w' := by
  have hO := boxed w p
  go_enter Tryd.func35, Tryd.ntmps35
  go_wp2_with fail
  go_loopw [3, 4] (fun s i wr => ∃ k : Nat, k ≤ 8 ∧ i = .int .i64 k ∧ s = .int .i64 (upTo p k : Nat) ∧ Own w w.heap.size (bs p) 29 wr) (fun _ i _ => (8 - intOf i).toNat)
  case atStart => exact ⟨0, by decide, rfl, rfl, hO⟩
  case round =>
    clear hO
    obtain ⟨k, hk, rfl, rfl, hO⟩ := hrel
    have hu := upTo_le p k
    by_cases hlt : k < 8
    · have q1 := hO.blk.cell k
      rw [bs_get _ k hlt] at q1
      have k0 : (0 : Int) ≤ k := by omega
      have k1 : (k : Int) < 8 := by omega
      cases hp : p k
      · rw [hp] at q1
        have hup : Hid (upTo p (k + 1) = upTo p k + 0) := by unfold Hid; simp only [upTo]; rw [hp]; rfl
        clear hp
        go_wp2_with fail
        go_roundw
        case rel => exact ⟨k + 1, by omega, by go_num, by rw [hup.out]; go_num, hO⟩
        case measure => simp [intOf]; omega
      · rw [hp] at q1
        have hup : Hid (upTo p (k + 1) = upTo p k + 1) := by unfold Hid; simp only [upTo]; rw [hp]; rfl
        clear hp
        go_wp2_with fail
        go_roundw
        case rel => exact ⟨k + 1, by omega, by go_num, by rw [hup.out]; go_num, hO⟩
        case measure => simp [intOf]; omega
    · obtain rfl : k = 8 := by omega
      have he := Lib.hid (upTo_cnt p)
      go_wp2_with fail
      go_ret
      exact ⟨ret_int (by rw [he.out]), hO.below⟩
theorem up0 (p q : Nat → Bool) : bs (upB p 0) = bs (upB q 0) := by simp [bs, upB]
theorem Res.turn {w0 w : World} {r s : Nat} {p : Nat → Bool} (h : Res w0 r s p 8 w) (k : Nat) (hk : k < 8) (hf : fst p = k) : Res w0 r s (rst p) 8 (w.setCell ⟨s, k, none⟩ (.bool false)) :=
  ⟨h.below.setCell h.hs _, by rw [up0 (rst p) p]; exact h.res.other s k _ h.ne, by have := h.set'.set k (.bool false); rw [bs_up8, bs_drop p k hk hf] at this; rw [bs_up8]; exact this, h.hr, h.hs, h.ne⟩
theorem Res.same {w0 w : World} {r s : Nat} {p : Nat → Bool} (h : Res w0 r s p 8 w) (hf : fst p = 8) : Res w0 r s (rst p) 8 w :=
  ⟨h.below, by rw [up0 (rst p) p]; exact h.res, by have := h.set'; rw [bs_up8] at this; rw [bs_up8, rst_none p hf]; exact this, h.hr, h.hs, h.ne⟩
set_option maxHeartbeats 1000000 in
theorem rrest_any (p : Nat → Bool) (w : World) : Calls Tryd.prog 36 #[.agg (bs p)] w fun e w' => e = .returned (.agg (bs (rst p))) ∧ Below w.heap.size w w' := by
  have h8 := fst_le p
  go_enter Tryd.func36, Tryd.ntmps36
  go_upto_region 1 with (fail)
  have hR : Res w (w.heap.size + 1) w.heap.size p 8 ((w.alloc (.cells (bs p) 29)).alloc (.cells #[.bool false, .bool false, .bool false, .bool false, .bool false, .bool false, .bool false, .bool false] 29)) := by
    have e : bs (upB p 0) = #[.bool false, .bool false, .bool false, .bool false, .bool false, .bool false, .bool false, .bool false] := by simp [bs, upB]
    have h2 := Blk.new (w.alloc (.cells (bs p) 29)) #[.bool false, .bool false, .bool false, .bool false, .bool false, .bool false, .bool false, .bool false] 29
    rw [show ∀ o, (w.alloc o).heap.size = w.heap.size + 1 from fun o => by simp] at h2
    exact ⟨(boxed w p).below.alloc (by simp) _, by rw [e]; exact h2, by rw [bs_up8]; exact (boxed w p).blk.alloc _, by omega, Nat.le_refl _, by omega⟩
  obtain ⟨r, hr⟩ : ∃ r, Hid (r = w.heap.size + 1) := ⟨_, rfl⟩
  obtain ⟨s, hs⟩ : ∃ s, Hid (s = w.heap.size) := ⟨_, rfl⟩
  rw [← hr.out, ← hs.out] at hR
  rw [← hr.out, ← hs.out]
  generalize World.alloc (World.alloc w _) _ = wz at hR ⊢
  have hS := hR.set'
  rw [bs_up8] at hS
  obtain ⟨s0, s1, s2, s3, s4, s5, s6, s7⟩ := cells8 hS
  clear hS
  go_wp2_with fail
  refine (keeps (rfirst_any p _) (fun w' hb => hR.keep hb)).mono ?_
  rintro e w1 ⟨rfl, hR1⟩
  clear hR s0 s1 s2 s3 s4 s5 s6 s7
  by_cases hf : fst p < 8
  · obtain ⟨k, hk0⟩ : ∃ k, fst p = k := ⟨_, rfl⟩
    rw [hk0] at hf ⊢
    have hk := Lib.hid hk0
    clear hk0 h8
    have q1 := hR1.set'.cell k
    have q2 := hR1.set'.free k
    rw [bs_get _ k hf] at q1
    have k0 : (0 : Int) ≤ k := by omega
    have k1 : (k : Int) < 8 := by omega
    have hT := hR1.turn k hf hk.out
    go_upto_region 4 with (fail)
    generalize World.setCell _ _ _ = wy at hT ⊢
    clear q1 q2 hR1
    have hS := hT.set'
    rw [bs_up8] at hS
    obtain ⟨s0, s1, s2, s3, s4, s5, s6, s7⟩ := cells8 hS
    obtain ⟨r0, r1, r2, r3, r4, r5, r6, r7⟩ := cells8 hT.res
    have rf := fun i => hT.res.free i
    have hne := hT.ne
    have hO := hT.last
    clear hS
    go_wp2_with fail
    clear s0 s1 s2 s3 s4 s5 s6 s7 r0 r1 r2 r3 r4 r5 r6 r7 rf
    revert hO
    generalize World.setCell _ _ _ = wx
    intro hO
    obtain ⟨r0, r1, r2, r3, r4, r5, r6, r7⟩ := cells8 hO.blk
    exact bodyPost_ret (v := .agg (bs (rst p))) (by simp [results, Tryd.results36, go_sem, r0, r1, r2, r3, r4, r5, r6, r7, bs]) rfl ⟨rfl, hO.below⟩
  · have hf8 : fst p = 8 := by omega
    have hT := hR1.same hf8
    rw [hf8]
    rw [show (((8 : Nat) : Int)) = 8 from rfl]
    go_upto_region 4 with (fail)
    clear hR1
    have hS := hT.set'
    rw [bs_up8] at hS
    obtain ⟨s0, s1, s2, s3, s4, s5, s6, s7⟩ := cells8 hS
    obtain ⟨r0, r1, r2, r3, r4, r5, r6, r7⟩ := cells8 hT.res
    have rf := fun i => hT.res.free i
    have hne := hT.ne
    have hO := hT.last
    clear hS
    go_wp2_with fail
    clear s0 s1 s2 s3 s4 s5 s6 s7 r0 r1 r2 r3 r4 r5 r6 r7 rf
    revert hO
    generalize World.setCell _ _ _ = wx
    intro hO
    obtain ⟨r0, r1, r2, r3, r4, r5, r6, r7⟩ := cells8 hO.blk
    exact bodyPost_ret (v := .agg (bs (rst p))) (by simp [results, Tryd.results36, go_sem, r0, r1, r2, r3, r4, r5, r6, r7, bs]) rfl ⟨rfl, hO.below⟩
end Go.Proofs.YtakmaedimelaaaaDoor
