/- What is proved here: the contract of the law's own told. The library's table lies in its variable. -/
import Derived.Test.YtakmaedimelaaaaDoorCIs
set_option linter.unusedVariables false
set_option linter.unusedSimpArgs false
namespace Go.Proofs.YtakmaedimelaaaaDoor
open Go.RowKit Pl
theorem Tw.all {w0 w : World} {g s : Nat} {p q : Nat → Bool} (h : Tw w0 g s p q w) : Tw w0 g s p q w ∧ w.cell? ⟨g, 0, none⟩ = some (.int .u64 (mask p : Nat)) ∧
    w.cell? ⟨s, 0, none⟩ = some (.bool (q 0)) ∧ w.cell? ⟨s, 1, none⟩ = some (.bool (q 1)) ∧ w.cell? ⟨s, 2, none⟩ = some (.bool (q 2)) ∧ w.cell? ⟨s, 3, none⟩ = some (.bool (q 3)) ∧
    w.cell? ⟨s, 4, none⟩ = some (.bool (q 4)) ∧ w.cell? ⟨s, 5, none⟩ = some (.bool (q 5)) ∧ w.cell? ⟨s, 6, none⟩ = some (.bool (q 6)) ∧ w.cell? ⟨s, 7, none⟩ = some (.bool (q 7)) := ⟨h, h.b0, cells8 h.set'⟩
/-- the same, and the rest of the set in a third block -/
structure Tx (w0 : World) (g s f : Nat) (q : Nat → Bool) (w : World) : Prop where
  tw : Tw w0 g s q q w
  rest : Blk w f #[.int .u64 (mask (rst q) : Nat)] 26
  hf : w0.heap.size ≤ f
  n1 : f ≠ g
  n2 : f ≠ s
section
variable {w0 w w' : World} {g s f : Nat} {q : Nat → Bool}
theorem Tx.keep (h : Tx w0 g s f q w) (hb : Below w.heap.size w w') : Tx w0 g s f q w' := ⟨h.tw.keep hb, h.rest.keep hb, h.hf, h.n1, h.n2⟩
theorem Tx.drew (h : Tx w0 g s f q w) : Tx w0 g s f q w.drew := ⟨h.tw.drew, h.rest.drew, h.hf, h.n1, h.n2⟩
theorem Tx.drewN (h : Tx w0 g s f q w) (n : Nat) : Tx w0 g s f q (w.drewN n) := ⟨h.tw.drewN n, h.rest.drewN n, h.hf, h.n1, h.n2⟩
theorem Tx.r0 (h : Tx w0 g s f q w) : w.cell? ⟨f, 0, none⟩ = some (.int .u64 (mask (rst q) : Nat)) := h.rest.cell 0
theorem Tx.all (h : Tx w0 g s f q w) : Tx w0 g s f q w ∧ w.cell? ⟨g, 0, none⟩ = some (.int .u64 (mask q : Nat)) ∧
    w.cell? ⟨s, 0, none⟩ = some (.bool (q 0)) ∧ w.cell? ⟨s, 1, none⟩ = some (.bool (q 1)) ∧ w.cell? ⟨s, 2, none⟩ = some (.bool (q 2)) ∧ w.cell? ⟨s, 3, none⟩ = some (.bool (q 3)) ∧
    w.cell? ⟨s, 4, none⟩ = some (.bool (q 4)) ∧ w.cell? ⟨s, 5, none⟩ = some (.bool (q 5)) ∧ w.cell? ⟨s, 6, none⟩ = some (.bool (q 6)) ∧ w.cell? ⟨s, 7, none⟩ = some (.bool (q 7)) := ⟨h, h.tw.b0, cells8 h.tw.set'⟩
theorem Tw.rested (h : Tw w0 g s q q w) : Tx w0 g s w.heap.size q (w.alloc (.cells #[.int .u64 (mask (rst q) : Nat)] 26)) :=
  ⟨h.keep ((Below.refl _ _).alloc (Nat.le_refl _) _), Blk.new _ _ _, h.below.size, by have := h.bit.lt; omega, by have := h.set'.lt; omega⟩
theorem Tx.moved (h : Tx w0 g s f q w) : Tw w0 g s (rst q) q (w.setCell ⟨g, 0, none⟩ (.int .u64 (mask (rst q) : Nat))) :=
  ⟨h.tw.below.setCell h.tw.hg _, by have := h.tw.bit.set 0 (.int .u64 (mask (rst q) : Nat)); simpa using this, h.tw.set'.other g 0 _ h.tw.ne, h.tw.hg, h.tw.hs, h.tw.ne⟩
theorem Tw.filled {p : Nat → Bool} (h : Tw w0 g s p q w) (r : Nat → Bool) : Tw w0 g s p r
    ((((((((w.setCell ⟨s, 0, none⟩ (.bool (r 0))).setCell ⟨s, 1, none⟩ (.bool (r 1))).setCell ⟨s, 2, none⟩ (.bool (r 2))).setCell ⟨s, 3, none⟩ (.bool (r 3))).setCell ⟨s, 4, none⟩ (.bool (r 4))).setCell ⟨s, 5, none⟩ (.bool (r 5))).setCell ⟨s, 6, none⟩ (.bool (r 6))).setCell ⟨s, 7, none⟩ (.bool (r 7))) := by
  have h0 : Own w0 s (bs q) 29 w := ⟨h.below, h.set', h.hs⟩
  have h8 := (((((((h0.set 0 (.bool (r 0))).set 1 (.bool (r 1))).set 2 (.bool (r 2))).set 3 (.bool (r 3))).set 4 (.bool (r 4))).set 5 (.bool (r 5))).set 6 (.bool (r 6))).set 7 (.bool (r 7))
  have e : ((((((((bs q).setIfInBounds 0 (.bool (r 0))).setIfInBounds 1 (.bool (r 1))).setIfInBounds 2 (.bool (r 2))).setIfInBounds 3 (.bool (r 3))).setIfInBounds 4 (.bool (r 4))).setIfInBounds 5 (.bool (r 5))).setIfInBounds 6 (.bool (r 6))).setIfInBounds 7 (.bool (r 7)) = bs r := by simp [bs]
  rw [e] at h8
  have hn := fun e => h.ne (Eq.symm e)
  exact ⟨h8.below, (((((((h.bit.other s 0 _ hn).other s 1 _ hn).other s 2 _ hn).other s 3 _ hn).other s 4 _ hn).other s 5 _ hn).other s 6 _ hn).other s 7 _ hn, h8.blk, h.hg, h.hs, h.ne⟩
end
set_option maxHeartbeats 2000000 in
theorem told_any (p : Nat → Bool) (w : World) (hTab : Tab w) : Calls Tryd.prog 27 #[.agg #[.int .u64 (mask p : Nat)], .agg (bs p)] w fun e w' => e = .returned (.bool true) ∧ Below w.heap.size w w' := by
  have hT : Tw w w.heap.size (w.heap.size + 1) p p ((w.alloc (.cells #[.int .u64 (mask p : Nat)] 26)).alloc (.cells (bs p) 29)) := by
    have h2 := Blk.new (w.alloc (.cells #[.int .u64 (mask p : Nat)] 26)) (bs p) 29
    rw [show ∀ o, (w.alloc o).heap.size = w.heap.size + 1 from fun o => by simp] at h2
    exact ⟨((Below.refl _ _).alloc (Nat.le_refl _) _).alloc (by simp) _, (Blk.new _ _ _).alloc _, h2, Nat.le_refl _, by omega, by omega⟩
  obtain ⟨s, hs⟩ : ∃ s, Hid (s = w.heap.size + 1) := ⟨_, rfl⟩
  obtain ⟨g, hg⟩ : ∃ g, Hid (g = w.heap.size) := ⟨_, rfl⟩
  go_enter Tryd.func27, Tryd.ntmps27
  go_wp2_with fail
  rw [← hs.out, ← hg.out] at hT
  rw [← hs.out, ← hg.out]
  generalize World.alloc (World.alloc w _) _ = wz at hT ⊢
  replace hTab := Lib.hid hTab
  go_loopw [5] (fun i wr => ∃ (k : Nat) (q : Nat → Bool), k ≤ 9 ∧ i = .int .i64 k ∧ Tw w g s q q wr) (fun i _ => (9 - intOf i).toNat)
  case atStart => exact ⟨0, p, by decide, rfl, hT⟩
  case round =>
    clear hT
    obtain ⟨k, q, hk, rfl, hT⟩ := hrel
    by_cases hlt : k < 9
    · obtain ⟨_, q0, s0, s1, s2, s3, s4, s5, s6, s7⟩ := hT.all
      have k0 : (0 : Int) ≤ k := by omega
      have k1 : (k : Int) < 9 := by omega
      go_wp2_with fail
      go_region_held3 (fun w' => Tw w g s q q w' ∧ w'.cell? ⟨g, 0, none⟩ = some (.int .u64 (mask q : Nat)) ∧
        w'.cell? ⟨s, 0, none⟩ = some (.bool (q 0)) ∧ w'.cell? ⟨s, 1, none⟩ = some (.bool (q 1)) ∧ w'.cell? ⟨s, 2, none⟩ = some (.bool (q 2)) ∧ w'.cell? ⟨s, 3, none⟩ = some (.bool (q 3)) ∧
        w'.cell? ⟨s, 4, none⟩ = some (.bool (q 4)) ∧ w'.cell? ⟨s, 5, none⟩ = some (.bool (q 5)) ∧ w'.cell? ⟨s, 6, none⟩ = some (.bool (q 6)) ∧ w'.cell? ⟨s, 7, none⟩ = some (.bool (q 7)))
        (first | exact hT.all | exact hT.drew.all | exact ⟨by assumption, by assumption, by assumption, by assumption, by assumption, by assumption, by assumption, by assumption, by assumption, by assumption⟩ | go_keep)
        ((first
          | (go_at_call 15; refine (keeps (is_any q _) (fun w' hb => Tw.keep (by first | exact hT | exact hT.drew | exact hT.drewN _) hb)).mono ?_; rintro e w' ⟨rfl, hT⟩)
          | (go_at_call 17; refine (keeps (first_mask q _ (hTab.out.since (by first | exact hT.below | exact hT.drew.below | exact (hT.drewN _).below))) (fun w' hb => Tw.keep (by first | exact hT | exact hT.drew | exact hT.drewN _) hb)).mono ?_; rintro e w' ⟨rfl, hT⟩)
          | (go_at_call 34; refine (keeps (rfirst_any q _) (fun w' hb => Tw.keep (by first | exact hT | exact hT.drew | exact hT.drewN _) hb)).mono ?_; rintro e w' ⟨rfl, hT⟩)
          | (go_at_call 19; refine (keeps (count_mask q _) (fun w' hb => Tw.keep (by first | exact hT | exact hT.drew | exact hT.drewN _) hb)).mono ?_; rintro e w' ⟨rfl, hT⟩)
          | (go_at_call 35; refine (keeps (rcount_any q _) (fun w' hb => Tw.keep (by first | exact hT | exact hT.drew | exact hT.drewN _) hb)).mono ?_; rintro e w' ⟨rfl, hT⟩)))
      have q0 := hT.b0
      go_wp2_with fail
      refine (keeps (rest_any q _) (fun w' hb => Tw.keep (by first | exact hT | exact hT.drew | exact hT.drewN _) hb)).mono ?_
      rintro e w1 ⟨rfl, hT⟩
      go_upto_region 7 with (fail)
      replace hT := hT.rested
      obtain ⟨f, hf⟩ : ∃ f, Hid (f = w1.heap.size) := ⟨_, rfl⟩
      rw [← hf.out] at hT
      rw [← hf.out]
      generalize World.alloc w1 _ = wy at hT ⊢
      obtain ⟨_, q0, s0, s1, s2, s3, s4, s5, s6, s7⟩ := hT.all
      go_region_held3 (fun w' => Tx w g s f q w' ∧ w'.cell? ⟨g, 0, none⟩ = some (.int .u64 (mask q : Nat)) ∧
        w'.cell? ⟨s, 0, none⟩ = some (.bool (q 0)) ∧ w'.cell? ⟨s, 1, none⟩ = some (.bool (q 1)) ∧ w'.cell? ⟨s, 2, none⟩ = some (.bool (q 2)) ∧ w'.cell? ⟨s, 3, none⟩ = some (.bool (q 3)) ∧
        w'.cell? ⟨s, 4, none⟩ = some (.bool (q 4)) ∧ w'.cell? ⟨s, 5, none⟩ = some (.bool (q 5)) ∧ w'.cell? ⟨s, 6, none⟩ = some (.bool (q 6)) ∧ w'.cell? ⟨s, 7, none⟩ = some (.bool (q 7)))
        (first | exact hT.all | exact hT.drew.all | exact ⟨by assumption, by assumption, by assumption, by assumption, by assumption, by assumption, by assumption, by assumption, by assumption, by assumption⟩ | go_keep)
        ((first
          | (go_at_call 15; refine (keeps (is_any q _) (fun w' hb => Tx.keep (by first | exact hT | exact hT.drew | exact hT.drewN _) hb)).mono ?_; rintro e w' ⟨rfl, hT⟩)
          | (go_at_call 17; refine (keeps (first_mask q _ (hTab.out.since (by first | exact hT.tw.below | exact hT.drew.tw.below | exact (hT.drewN _).tw.below))) (fun w' hb => Tx.keep (by first | exact hT | exact hT.drew | exact hT.drewN _) hb)).mono ?_; rintro e w' ⟨rfl, hT⟩)
          | (go_at_call 34; refine (keeps (rfirst_any q _) (fun w' hb => Tx.keep (by first | exact hT | exact hT.drew | exact hT.drewN _) hb)).mono ?_; rintro e w' ⟨rfl, hT⟩)
          | (go_at_call 19; refine (keeps (count_mask q _) (fun w' hb => Tx.keep (by first | exact hT | exact hT.drew | exact hT.drewN _) hb)).mono ?_; rintro e w' ⟨rfl, hT⟩)
          | (go_at_call 35; refine (keeps (rcount_any q _) (fun w' hb => Tx.keep (by first | exact hT | exact hT.drew | exact hT.drewN _) hb)).mono ?_; rintro e w' ⟨rfl, hT⟩)))
      have q0 := hT.tw.b0
      have r0 := hT.r0
      have rf := fun i => hT.tw.bit.free i
      go_upto_region 10 with (fail)
      have hM := Tx.moved hT
      clear hT q0 r0 rf
      generalize World.setCell _ _ _ = wx at hM ⊢
      obtain ⟨s0, s1, s2, s3, s4, s5, s6, s7⟩ := cells8 hM.set'
      go_wp2_with fail
      refine (keeps (rrest_any q _) (fun w' hb => Tw.keep hM hb)).mono ?_
      rintro e w3 ⟨rfl, hN⟩
      have hF := hN.filled (rst q)
      clear s0 s1 s2 s3 s4 s5 s6 s7 hM
      obtain ⟨s0, s1, s2, s3, s4, s5, s6, s7⟩ := cells8 hN.set'
      have rf := fun i => hN.set'.free i
      have eb : bs (rst q) = #[.bool (rst q 0), .bool (rst q 1), .bool (rst q 2), .bool (rst q 3), .bool (rst q 4), .bool (rst q 5), .bool (rst q 6), .bool (rst q 7)] := rfl
      rw [eb]
      replace eb := Lib.hid eb
      go_wp2_with fail
      go_roundw
      case rel => exact ⟨k + 1, rst q, by omega, by go_num, hF⟩
      case measure => simp [intOf]; omega
    · go_wp2_with fail
      go_ret
      exact ⟨rfl, hT.below⟩
end Go.Proofs.YtakmaedimelaaaaDoor
