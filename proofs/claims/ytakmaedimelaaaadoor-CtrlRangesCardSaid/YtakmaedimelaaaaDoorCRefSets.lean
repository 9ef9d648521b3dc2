/- What is proved here: the contracts of the reference's sets. Each word is below 2 to the 64. -/
import Derived.Test.YtakmaedimelaaaaDoorCRefs
import Derived.Laws.Rows
set_option linter.unusedVariables false
set_option linter.unusedSimpArgs false
namespace Go.Proofs.YtakmaedimelaaaaDoor
open Go.RowKit Pl
theorem cells8 {w : World} {g : Nat} {p : Nat → Bool} (h : Blk w g (bs p) 29) :
    w.cell? ⟨g, 0, none⟩ = some (.bool (p 0)) ∧ w.cell? ⟨g, 1, none⟩ = some (.bool (p 1)) ∧ w.cell? ⟨g, 2, none⟩ = some (.bool (p 2)) ∧ w.cell? ⟨g, 3, none⟩ = some (.bool (p 3)) ∧
    w.cell? ⟨g, 4, none⟩ = some (.bool (p 4)) ∧ w.cell? ⟨g, 5, none⟩ = some (.bool (p 5)) ∧ w.cell? ⟨g, 6, none⟩ = some (.bool (p 6)) ∧ w.cell? ⟨g, 7, none⟩ = some (.bool (p 7)) :=
  ⟨h.cell 0, h.cell 1, h.cell 2, h.cell 3, h.cell 4, h.cell 5, h.cell 6, h.cell 7⟩
/-- the result's cells and the set that is made, both the call's own -/
structure Res (w0 : World) (r s : Nat) (p : Nat → Bool) (k : Nat) (w : World) : Prop where
  below : Below w0.heap.size w0 w
  res : Blk w r (bs (upB p 0)) 29
  set' : Blk w s (bs (upB p k)) 29
  hr : w0.heap.size ≤ r
  hs : w0.heap.size ≤ s
  ne : s ≠ r
section
variable {w0 w w' : World} {r s k : Nat} {p : Nat → Bool}
theorem Res.keep (h : Res w0 r s p k w) (hb : Below w.heap.size w w') : Res w0 r s p k w' := ⟨Below.then h.below hb, h.res.keep hb, h.set'.keep hb, h.hr, h.hs, h.ne⟩
theorem Res.drewN (h : Res w0 r s p k w) (n : Nat) : Res w0 r s p k (w.drewN n) := ⟨below_drewN h.below n, h.res.drewN n, h.set'.drewN n, h.hr, h.hs, h.ne⟩
theorem Res.drew (h : Res w0 r s p k w) : Res w0 r s p k w.drew := ⟨h.below.drew, h.res.drew, h.set'.drew, h.hr, h.hs, h.ne⟩
theorem Res.step (h : Res w0 r s p k w) (hk : k < 8) (b : Bool) (hb : p k = b) : Res w0 r s p (k + 1) (w.setCell ⟨s, k, none⟩ (.bool b)) :=
  ⟨h.below.setCell h.hs _, h.res.other s k _ h.ne, by have := h.set'.set k (.bool b); rwa [bs_set p k hk b hb] at this, h.hr, h.hs, h.ne⟩
theorem Res.start (w0 : World) (p : Nat → Bool) : Res w0 w0.heap.size (w0.heap.size + 1) p 0 ((w0.alloc (.cells #[.bool false, .bool false, .bool false, .bool false, .bool false, .bool false, .bool false, .bool false] 29)).alloc (.cells #[.bool false, .bool false, .bool false, .bool false, .bool false, .bool false, .bool false, .bool false] 29)) := by
  have e : bs (upB p 0) = #[.bool false, .bool false, .bool false, .bool false, .bool false, .bool false, .bool false, .bool false] := by simp [bs, upB]
  have h1 := Blk.new w0 #[.bool false, .bool false, .bool false, .bool false, .bool false, .bool false, .bool false, .bool false] 29
  have h2 := Blk.new (w0.alloc (.cells #[.bool false, .bool false, .bool false, .bool false, .bool false, .bool false, .bool false, .bool false] 29)) #[.bool false, .bool false, .bool false, .bool false, .bool false, .bool false, .bool false, .bool false] 29
  rw [show ∀ o, (w0.alloc o).heap.size = w0.heap.size + 1 from fun o => by simp] at h2
  exact ⟨((Below.refl _ _).alloc (Nat.le_refl _) _).alloc (by simp) _, by rw [e]; exact h1.alloc _, by rw [e]; exact h2, Nat.le_refl _, by omega, by omega⟩
end
theorem Res.last {w0 w : World} {r s k : Nat} {p : Nat → Bool} (h : Res w0 r s p k w) : Own w0 r (bs p) 29
    ((((((((w.setCell ⟨r, 0, none⟩ (.bool (p 0))).setCell ⟨r, 1, none⟩ (.bool (p 1))).setCell ⟨r, 2, none⟩ (.bool (p 2))).setCell ⟨r, 3, none⟩ (.bool (p 3))).setCell ⟨r, 4, none⟩ (.bool (p 4))).setCell ⟨r, 5, none⟩ (.bool (p 5))).setCell ⟨r, 6, none⟩ (.bool (p 6))).setCell ⟨r, 7, none⟩ (.bool (p 7))) := by
  have h0 : Own w0 r (bs (upB p 0)) 29 w := ⟨h.below, h.res, h.hr⟩
  have h8 := (((((((h0.set 0 (.bool (p 0))).set 1 (.bool (p 1))).set 2 (.bool (p 2))).set 3 (.bool (p 3))).set 4 (.bool (p 4))).set 5 (.bool (p 5))).set 6 (.bool (p 6))).set 7 (.bool (p 7))
  have e : ((((((((bs (upB p 0)).setIfInBounds 0 (.bool (p 0))).setIfInBounds 1 (.bool (p 1))).setIfInBounds 2 (.bool (p 2))).setIfInBounds 3 (.bool (p 3))).setIfInBounds 4 (.bool (p 4))).setIfInBounds 5 (.bool (p 5))).setIfInBounds 6 (.bool (p 6))).setIfInBounds 7 (.bool (p 7)) = bs p := by simp [bs]
  rwa [e] at h8
theorem rmatch_any (n : Nat) (t : Int) (w : World) (h : n < 18446744073709551616) : Calls Tryd.prog 7 #[.int .u64 n, .int .i64 t] w fun e w' => e = .returned (.agg (bs (matF n t))) ∧ Below w.heap.size w w' := by
  go_enter Tryd.func7, Tryd.ntmps7
  go_wp2_with fail
  have hR := Res.start w (matF n t)
  obtain ⟨r, hr⟩ : ∃ r, Hid (r = w.heap.size) := ⟨_, rfl⟩
  obtain ⟨s, hs⟩ : ∃ s, Hid (s = w.heap.size + 1) := ⟨_, rfl⟩
  rw [← hs.out, ← hr.out] at hR
  rw [← hs.out, ← hr.out]
  have hmf : Hid (∀ i, matF n t i = (decide (0 ≤ t) && decide (t ≤ 127) && (((byt n i : Nat) : Int) == t))) := fun _ => rfl
  go_loopw [6] (fun i wr => ∃ k : Nat, k ≤ 8 ∧ i = .int .i64 k ∧ Res w r s (matF n t) k wr) (fun i _ => (8 - intOf i).toNat)
  case atStart => exact ⟨0, by decide, rfl, hR⟩
  case round =>
    clear hR
    obtain ⟨k, hk, rfl, hR⟩ := hrel
    by_cases hlt : k < 8
    · have hm := Lib.hid (hmf.out k)
      have q1 := hR.set'.cell k
      have q2 := hR.set'.free k
      rw [bs_get _ k hlt] at q1
      have k0 : (0 : Int) ≤ k := by omega
      have k1 : (k : Int) < 8 := by omega
      have hg := Lib.hid (fun w => rget_in n k w h hlt)
      obtain ⟨b, hb⟩ : ∃ b, byt n k = b := ⟨_, rfl⟩
      rw [hb] at hg hm
      clear hb
      cases ht0 : decide (0 ≤ t) <;> cases ht1 : decide (t ≤ 127) <;> cases ht2 : (((b : Nat) : Int) == t) <;>
      · rw [ht0, ht1, ht2] at hm
        replace hm := Lib.hid (hm.out)
        go_wp2_with (go_at_call 23; (with_reducible refine (hg.out _).mono ?_); rintro e w' ⟨rfl, rfl⟩)
        go_roundw
        case rel => exact ⟨k + 1, by omega, by go_num, hR.step hlt _ hm.out⟩
        case measure => simp [intOf]; omega
    · obtain rfl : k = 8 := by omega
      have hS := hR.set'
      rw [bs_up8] at hS
      obtain ⟨s0, s1, s2, s3, s4, s5, s6, s7⟩ := cells8 hS
      obtain ⟨r0, r1, r2, r3, r4, r5, r6, r7⟩ := cells8 hR.res
      have rf := fun i => hR.res.free i
      have hne := hR.ne
      have hO := hR.last
      clear hS
      go_wp2_with fail
      clear s0 s1 s2 s3 s4 s5 s6 s7 r0 r1 r2 r3 r4 r5 r6 r7 rf
      revert hO
      generalize World.setCell _ _ _ = wz
      intro hO
      obtain ⟨r0, r1, r2, r3, r4, r5, r6, r7⟩ := cells8 hO.blk
      exact bodyPost_ret (v := .agg (bs (matF n t))) (by simp [results, Tryd.results7, go_sem, r0, r1, r2, r3, r4, r5, r6, r7, bs]) rfl ⟨rfl, hO.below⟩
theorem rmatchEmpty_any (n : Nat) (w : World) (h : n < 18446744073709551616) : Calls Tryd.prog 13 #[.int .u64 n] w fun e w' => e = .returned (.agg (bs (mat n 128))) ∧ Below w.heap.size w w' := by
  go_enter Tryd.func13, Tryd.ntmps13
  go_wp2_with fail
  have hR := Res.start w (mat n 128)
  obtain ⟨r, hr⟩ : ∃ r, Hid (r = w.heap.size) := ⟨_, rfl⟩
  obtain ⟨s, hs⟩ : ∃ s, Hid (s = w.heap.size + 1) := ⟨_, rfl⟩
  rw [← hs.out, ← hr.out] at hR
  rw [← hs.out, ← hr.out]
  go_loopw [4] (fun i wr => ∃ k : Nat, k ≤ 8 ∧ i = .int .i64 k ∧ Res w r s (mat n 128) k wr) (fun i _ => (8 - intOf i).toNat)
  case atStart => exact ⟨0, by decide, rfl, hR⟩
  case round =>
    clear hR
    obtain ⟨k, hk, rfl, hR⟩ := hrel
    by_cases hlt : k < 8
    · have q1 := hR.set'.cell k
      have q2 := hR.set'.free k
      rw [bs_get _ k hlt] at q1
      have k0 : (0 : Int) ≤ k := by omega
      have k1 : (k : Int) < 8 := by omega
      have hg := Lib.hid (fun w => rget_in n k w h hlt)
      have hbl := byt_lt n k
      obtain ⟨b, hb⟩ : ∃ b, byt n k = b := ⟨_, rfl⟩
      rw [hb] at hg hbl
      by_cases h1 : b = 128
      · have hp : Hid (mat n 128 k = true) := by unfold Hid mat; rw [hb]; simp [h1]
        subst h1
        clear hb
        go_wp2_with (go_at_call 23; (with_reducible refine (hg.out _).mono ?_); rintro e w' ⟨rfl, rfl⟩)
        go_roundw
        case rel => exact ⟨k + 1, by omega, by go_num, hR.step hlt _ hp.out⟩
        case measure => simp [intOf]; omega
      · have hp : Hid (mat n 128 k = false) := by unfold Hid mat; rw [hb]; simp [h1]
        have h2 : ((b : Int) == 128) = false := by simp; omega
        clear hb
        go_wp2_with (go_at_call 23; (with_reducible refine (hg.out _).mono ?_); rintro e w' ⟨rfl, rfl⟩)
        go_roundw
        case rel => exact ⟨k + 1, by omega, by go_num, hR.step hlt _ hp.out⟩
        case measure => simp [intOf]; omega
    · obtain rfl : k = 8 := by omega
      have hS := hR.set'
      rw [bs_up8] at hS
      obtain ⟨s0, s1, s2, s3, s4, s5, s6, s7⟩ := cells8 hS
      obtain ⟨r0, r1, r2, r3, r4, r5, r6, r7⟩ := cells8 hR.res
      have rf := fun i => hR.res.free i
      have hne := hR.ne
      have hO := hR.last
      clear hS
      go_wp2_with fail
      clear s0 s1 s2 s3 s4 s5 s6 s7 r0 r1 r2 r3 r4 r5 r6 r7 rf
      revert hO
      generalize World.setCell _ _ _ = wz
      intro hO
      obtain ⟨r0, r1, r2, r3, r4, r5, r6, r7⟩ := cells8 hO.blk
      exact bodyPost_ret (v := .agg (bs (mat n 128))) (by simp [results, Tryd.results13, go_sem, r0, r1, r2, r3, r4, r5, r6, r7, bs]) rfl ⟨rfl, hO.below⟩
theorem rmatchVacant_any (n : Nat) (w : World) (h : n < 18446744073709551616) : Calls Tryd.prog 11 #[.int .u64 n] w fun e w' => e = .returned (.agg (bs (vac n))) ∧ Below w.heap.size w w' := by
  go_enter Tryd.func11, Tryd.ntmps11
  go_wp2_with fail
  have hR := Res.start w (vac n)
  obtain ⟨r, hr⟩ : ∃ r, Hid (r = w.heap.size) := ⟨_, rfl⟩
  obtain ⟨s, hs⟩ : ∃ s, Hid (s = w.heap.size + 1) := ⟨_, rfl⟩
  rw [← hs.out, ← hr.out] at hR
  rw [← hs.out, ← hr.out]
  go_loopw [4] (fun i wr => ∃ k : Nat, k ≤ 8 ∧ i = .int .i64 k ∧ Res w r s (vac n) k wr) (fun i _ => (8 - intOf i).toNat)
  case atStart => exact ⟨0, by decide, rfl, hR⟩
  case round =>
    clear hR
    obtain ⟨k, hk, rfl, hR⟩ := hrel
    by_cases hlt : k < 8
    · have q1 := hR.set'.cell k
      have q2 := hR.set'.free k
      rw [bs_get _ k hlt] at q1
      have k0 : (0 : Int) ≤ k := by omega
      have k1 : (k : Int) < 8 := by omega
      have hg := Lib.hid (fun w => rget_in n k w h hlt)
      have hbl := byt_lt n k
      obtain ⟨b, hb⟩ : ∃ b, byt n k = b := ⟨_, rfl⟩
      rw [hb] at hg hbl
      by_cases h1 : b = 128
      · have hp : Hid (vac n k = true) := by unfold Hid vac mat; rw [hb]; simp [h1]
        subst h1
        clear hb
        go_wp2_with (go_at_call 23; (with_reducible refine (hg.out _).mono ?_); rintro e w' ⟨rfl, rfl⟩)
        go_roundw
        case rel => exact ⟨k + 1, by omega, by go_num, hR.step hlt _ hp.out⟩
        case measure => simp [intOf]; omega
      by_cases h3 : b = 254
      · have hp : Hid (vac n k = true) := by unfold Hid vac mat; rw [hb]; simp [h3]
        subst h3
        clear hb
        go_wp2_with (go_at_call 23; (with_reducible refine (hg.out _).mono ?_); rintro e w' ⟨rfl, rfl⟩)
        go_roundw
        case rel => exact ⟨k + 1, by omega, by go_num, hR.step hlt _ hp.out⟩
        case measure => simp [intOf]; omega
      · have hp : Hid (vac n k = false) := by unfold Hid vac mat; rw [hb]; simp [h1, h3]
        have h2 : ((b : Int) == 128) = false := by simp; omega
        have h4 : ((b : Int) == 254) = false := by simp; omega
        clear hb
        go_wp2_with (go_at_call 23; (with_reducible refine (hg.out _).mono ?_); rintro e w' ⟨rfl, rfl⟩)
        go_roundw
        case rel => exact ⟨k + 1, by omega, by go_num, hR.step hlt _ hp.out⟩
        case measure => simp [intOf]; omega
    · obtain rfl : k = 8 := by omega
      have hS := hR.set'
      rw [bs_up8] at hS
      obtain ⟨s0, s1, s2, s3, s4, s5, s6, s7⟩ := cells8 hS
      obtain ⟨r0, r1, r2, r3, r4, r5, r6, r7⟩ := cells8 hR.res
      have rf := fun i => hR.res.free i
      have hne := hR.ne
      have hO := hR.last
      clear hS
      go_wp2_with fail
      clear s0 s1 s2 s3 s4 s5 s6 s7 r0 r1 r2 r3 r4 r5 r6 r7 rf
      revert hO
      generalize World.setCell _ _ _ = wz
      intro hO
      obtain ⟨r0, r1, r2, r3, r4, r5, r6, r7⟩ := cells8 hO.blk
      exact bodyPost_ret (v := .agg (bs (vac n))) (by simp [results, Tryd.results11, go_sem, r0, r1, r2, r3, r4, r5, r6, r7, bs]) rfl ⟨rfl, hO.below⟩
theorem rmatchFull_any (n : Nat) (w : World) (h : n < 18446744073709551616) : Calls Tryd.prog 9 #[.int .u64 n] w fun e w' => e = .returned (.agg (bs (ful n))) ∧ Below w.heap.size w w' := by
  go_enter Tryd.func9, Tryd.ntmps9
  go_wp2_with fail
  have hR := Res.start w (ful n)
  obtain ⟨r, hr⟩ : ∃ r, Hid (r = w.heap.size) := ⟨_, rfl⟩
  obtain ⟨s, hs⟩ : ∃ s, Hid (s = w.heap.size + 1) := ⟨_, rfl⟩
  rw [← hs.out, ← hr.out] at hR
  rw [← hs.out, ← hr.out]
  go_loopw [4] (fun i wr => ∃ k : Nat, k ≤ 8 ∧ i = .int .i64 k ∧ Res w r s (ful n) k wr) (fun i _ => (8 - intOf i).toNat)
  case atStart => exact ⟨0, by decide, rfl, hR⟩
  case round =>
    clear hR
    obtain ⟨k, hk, rfl, hR⟩ := hrel
    by_cases hlt : k < 8
    · have q1 := hR.set'.cell k
      have q2 := hR.set'.free k
      rw [bs_get _ k hlt] at q1
      have k0 : (0 : Int) ≤ k := by omega
      have k1 : (k : Int) < 8 := by omega
      have hg := Lib.hid (fun w => rget_in n k w h hlt)
      have hbl := byt_lt n k
      obtain ⟨b, hb⟩ : ∃ b, byt n k = b := ⟨_, rfl⟩
      rw [hb] at hg hbl
      by_cases h1 : b ≤ 127
      · have hp : Hid (ful n k = true) := by unfold Hid ful; rw [hb]; simp; omega
        have h2 : decide ((b : Int) ≤ 127) = true := by simp; omega
        clear hb
        go_wp2_with (go_at_call 23; (with_reducible refine (hg.out _).mono ?_); rintro e w' ⟨rfl, rfl⟩)
        go_roundw
        case rel => exact ⟨k + 1, by omega, by go_num, hR.step hlt _ hp.out⟩
        case measure => simp [intOf]; omega
      · have hp : Hid (ful n k = false) := by unfold Hid ful; rw [hb]; simp; omega
        have h2 : decide ((b : Int) ≤ 127) = false := by simp; omega
        clear hb
        go_wp2_with (go_at_call 23; (with_reducible refine (hg.out _).mono ?_); rintro e w' ⟨rfl, rfl⟩)
        go_roundw
        case rel => exact ⟨k + 1, by omega, by go_num, hR.step hlt _ hp.out⟩
        case measure => simp [intOf]; omega
    · obtain rfl : k = 8 := by omega
      have hS := hR.set'
      rw [bs_up8] at hS
      obtain ⟨s0, s1, s2, s3, s4, s5, s6, s7⟩ := cells8 hS
      obtain ⟨r0, r1, r2, r3, r4, r5, r6, r7⟩ := cells8 hR.res
      have rf := fun i => hR.res.free i
      have hne := hR.ne
      have hO := hR.last
      clear hS
      go_wp2_with fail
      clear s0 s1 s2 s3 s4 s5 s6 s7 r0 r1 r2 r3 r4 r5 r6 r7 rf
      revert hO
      generalize World.setCell _ _ _ = wz
      intro hO
      obtain ⟨r0, r1, r2, r3, r4, r5, r6, r7⟩ := cells8 hO.blk
      exact bodyPost_ret (v := .agg (bs (ful n))) (by simp [results, Tryd.results9, go_sem, r0, r1, r2, r3, r4, r5, r6, r7, bs]) rfl ⟨rfl, hO.below⟩
end Go.Proofs.YtakmaedimelaaaaDoor
