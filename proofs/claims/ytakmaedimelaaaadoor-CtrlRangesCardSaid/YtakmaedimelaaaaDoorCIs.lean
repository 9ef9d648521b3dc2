/- What is proved here: the contract of the law's own is. No condition. -/
import Derived.Test.YtakmaedimelaaaaDoorCTold
set_option linter.unusedVariables false
set_option linter.unusedSimpArgs false
namespace Go.Proofs.YtakmaedimelaaaaDoor
open Go.RowKit Pl
/-- a set of the program and one of the reference, each in a block of the call's own -/
structure Tw (w0 : World) (g s : Nat) (p q : Nat → Bool) (w : World) : Prop where
  below : Below w0.heap.size w0 w
  bit : Blk w g #[.int .u64 (mask p : Nat)] 26
  set' : Blk w s (bs q) 29
  hg : w0.heap.size ≤ g
  hs : w0.heap.size ≤ s
  ne : g ≠ s
section
variable {w0 w w' : World} {g s : Nat} {p q : Nat → Bool}
theorem Tw.keep (h : Tw w0 g s p q w) (hb : Below w.heap.size w w') : Tw w0 g s p q w' := ⟨Below.then h.below hb, h.bit.keep hb, h.set'.keep hb, h.hg, h.hs, h.ne⟩
theorem Tw.drewN (h : Tw w0 g s p q w) (n : Nat) : Tw w0 g s p q (w.drewN n) := ⟨below_drewN h.below n, h.bit.drewN n, h.set'.drewN n, h.hg, h.hs, h.ne⟩
theorem Tw.drew (h : Tw w0 g s p q w) : Tw w0 g s p q w.drew := ⟨h.below.drew, h.bit.drew, h.set'.drew, h.hg, h.hs, h.ne⟩
theorem Tw.b0 (h : Tw w0 g s p q w) : w.cell? ⟨g, 0, none⟩ = some (.int .u64 (mask p : Nat)) := h.bit.cell 0
end
theorem Tw.sk {w0 w : World} {g s : Nat} {p q : Nat → Bool} (h : Tw w0 g s p q w) {k : Nat} (hk : k < 8) {b : Bool} (hb : q k = b) : w.cell? ⟨s, k, none⟩ = some (.bool b) := by
  rw [h.set'.cell, bs_get _ k hk, hb]
theorem has_no (p : Nat → Bool) (i : Int) (w : World) (hi : i < 0 ∨ 7 < i) : Calls Tryd.prog 21 #[.agg #[.int .u64 (mask p : Nat)], .int .i64 i] w fun e w' => e = .returned (.bool false) ∧ Below w.heap.size w w' := has_out _ i w hi
set_option maxHeartbeats 1000000 in
theorem is_any (p : Nat → Bool) (w : World) : Calls Tryd.prog 15 #[.agg #[.int .u64 (mask p : Nat)], .agg (bs p)] w fun e w' => e = .returned (.bool true) ∧ Below w.heap.size w w' := by
  have hT : Tw w w.heap.size (w.heap.size + 1) p p ((w.alloc (.cells #[.int .u64 (mask p : Nat)] 26)).alloc (.cells (bs p) 29)) := by
    have h2 := Blk.new (w.alloc (.cells #[.int .u64 (mask p : Nat)] 26)) (bs p) 29
    rw [show ∀ o, (w.alloc o).heap.size = w.heap.size + 1 from fun o => by simp] at h2
    exact ⟨((Below.refl _ _).alloc (Nat.le_refl _) _).alloc (by simp) _, (Blk.new _ _ _).alloc _, h2, Nat.le_refl _, by omega, by omega⟩
  obtain ⟨s, hs⟩ : ∃ s, Hid (s = w.heap.size + 1) := ⟨_, rfl⟩
  obtain ⟨g, hg⟩ : ∃ g, Hid (g = w.heap.size) := ⟨_, rfl⟩
  go_enter Tryd.func15, Tryd.ntmps15
  go_wp2_with fail
  rw [← hs.out, ← hg.out] at hT
  rw [← hs.out, ← hg.out]
  generalize World.alloc (World.alloc w _) _ = wz at hT ⊢
  go_loopw [5] (fun i wr => ∃ k : Nat, k ≤ 8 ∧ i = .int .i64 k ∧ Tw w g s p p wr) (fun i _ => (8 - intOf i).toNat)
  case atStart => exact ⟨0, by decide, rfl, hT⟩
  case round =>
    clear hT
    obtain ⟨k, hk, rfl, hT⟩ := hrel
    by_cases hlt : k < 8
    · have q0 := hT.below
      have q1 := hT.b0
      have q2 := hT.set'.cell k
      rw [bs_get _ k hlt] at q2
      have k0 : (0 : Int) ≤ k := by omega
      have k1 : (k : Int) < 8 := by omega
      obtain ⟨v, hv⟩ : ∃ v, Hid (p k = v) := ⟨_, rfl⟩
      rw [hv.out] at q2
      cases v
      · go_wp2_with fail
        go_region_held3 (fun w' => Tw w g s p p w' ∧ w'.cell? ⟨g, 0, none⟩ = some (.int .u64 (mask p : Nat)) ∧ w'.cell? ⟨s, k, none⟩ = some (.bool false)) (first | exact ⟨hT, hT.b0, hT.sk hlt hv.out⟩ | exact ⟨hT.drew, hT.drew.b0, hT.drew.sk hlt hv.out⟩ | exact ⟨by assumption, by assumption, by assumption⟩ | go_keep) ((first | (go_at_call 21; refine (keeps (has_is p k _ _ hlt hv.out) (fun w' hb => Tw.keep (by first | exact hT | exact hT.drew | exact hT.drewN _) hb)).mono ?_; rintro e w' ⟨rfl, hT⟩)))
        go_wp2_with fail
        go_roundw
        case rel => exact ⟨k + 1, by omega, by go_num, by first | exact hT | exact hT.drew | exact hT.drewN _⟩
        case measure => simp [intOf]; omega
      · go_wp2_with fail
        go_region_held3 (fun w' => Tw w g s p p w' ∧ w'.cell? ⟨g, 0, none⟩ = some (.int .u64 (mask p : Nat)) ∧ w'.cell? ⟨s, k, none⟩ = some (.bool true)) (first | exact ⟨hT, hT.b0, hT.sk hlt hv.out⟩ | exact ⟨hT.drew, hT.drew.b0, hT.drew.sk hlt hv.out⟩ | exact ⟨by assumption, by assumption, by assumption⟩ | go_keep) ((first | (go_at_call 21; refine (keeps (has_is p k _ _ hlt hv.out) (fun w' hb => Tw.keep (by first | exact hT | exact hT.drew | exact hT.drewN _) hb)).mono ?_; rintro e w' ⟨rfl, hT⟩)))
        go_wp2_with fail
        go_roundw
        case rel => exact ⟨k + 1, by omega, by go_num, by first | exact hT | exact hT.drew | exact hT.drewN _⟩
        case measure => simp [intOf]; omega
    · have q1 := hT.b0
      go_wp2_with (go_at_call 21; (with_reducible refine (keeps (has_no p _ _ (by decide)) (fun w' hb => Tw.keep (by first | exact hT | exact hT.drewN _) hb)).mono ?_); rintro e w' ⟨rfl, hT⟩; have q1 := hT.b0)
      go_ret
      exact ⟨rfl, hT.below⟩
end Go.Proofs.YtakmaedimelaaaaDoor
