/- What is proved here: the contracts of TrailingZeros64 (at a set of slots), First and Rest. The library's table lies in its variable. -/
import Derived.Test.YtakmaedimelaaaaDoorCCtrl
import Derived.Lib.TrailingZeros
set_option linter.unusedVariables false
set_option linter.unusedSimpArgs false
namespace Go.Proofs.YtakmaedimelaaaaDoor
open Go.RowKit Pl
/-- the library's table in its variable -/
def Tab (w : World) : Prop := ∀ j, j < 64 → w.cell? ⟨0, j, none⟩ = some (.int .u8 ((Lib.deBruijn64tab.getD j 0 : Nat) : Int))
theorem Tab.keep {w w' : World} (h : Tab w) (hb : Below w.heap.size w w') : Tab w' := fun j hj => (hb.cell (p := ⟨_, j, none⟩) (World.block_lt_of_cell? w _ (h j hj))).trans (h j hj)
theorem Tab.since {w0 w : World} (h : Tab w0) (hb : Below w0.heap.size w0 w) : Tab w := h.keep hb
namespace Pl
def fst (p : Nat → Bool) : Nat := if p 0 then 0 else if p 1 then 1 else if p 2 then 2 else if p 3 then 3 else if p 4 then 4 else if p 5 then 5 else if p 6 then 6 else if p 7 then 7 else 8
theorem fst_le (p : Nat → Bool) : fst p ≤ 8 := by unfold fst; (repeat' split) <;> omega
theorem fst_before (p : Nat → Bool) (i : Nat) (h : i < fst p) : p i = false := by
  unfold fst at h
  have hi : i < 8 := by (repeat' split at h) <;> omega
  match i, hi with
  | 0, _ | 1, _ | 2, _ | 3, _ | 4, _ | 5, _ | 6, _ | 7, _ => (repeat' split at h) <;> first | omega | simp_all
theorem fst_at (p : Nat → Bool) (h : fst p < 8) : p (fst p) = true := by
  unfold fst at h ⊢
  (repeat' split) <;> first | assumption | simp_all
theorem fst_eq (p : Nat → Bool) (k : Nat) (hk : k ≤ 8) (h1 : ∀ i, i < k → p i = false) (h2 : k < 8 → p k = true) : fst p = k := by
  have a := fst_le p
  by_cases h : fst p < k
  · have := fst_at p (by omega); rw [h1 _ h] at this; cases this
  · by_cases g : k < fst p
    · have := fst_before p k g; rw [h2 (by omega)] at this; cases this
    · omega
theorem fst_congr {p q : Nat → Bool} (h : ∀ i, i < 8 → p i = q i) : fst p = fst q := by
  unfold fst; rw [h 0, h 1, h 2, h 3, h 4, h 5, h 6, h 7] <;> decide
def idxOf (k : Nat) : Nat := 2 ^ (8 * k + 7) * 285870213051353865 % 18446744073709551616 / 288230376151711744
def fstB (b0 b1 b2 b3 b4 b5 b6 b7 : Bool) : Nat := if b0 then 0 else if b1 then 1 else if b2 then 2 else if b3 then 3 else if b4 then 4 else if b5 then 5 else if b6 then 6 else if b7 then 7 else 8
theorem key_b : ∀ b0 b1 b2 b3 b4 b5 b6 b7 : Bool, fstB b0 b1 b2 b3 b4 b5 b6 b7 = 8 ∨ IntKind.u64.wrap (bits BinOp.and IntKind.u64 ((wd (hi b0) (hi b1) (hi b2) (hi b3) (hi b4) (hi b5) (hi b6) (hi b7) : Nat) : Int) (IntKind.u64.wrap (-((wd (hi b0) (hi b1) (hi b2) (hi b3) (hi b4) (hi b5) (hi b6) (hi b7) : Nat) : Int))) * 285870213051353865) / 288230376151711744 = ((idxOf (fstB b0 b1 b2 b3 b4 b5 b6 b7) : Nat) : Int) := by decide +kernel
theorem zero_b : ∀ b0 b1 b2 b3 b4 b5 b6 b7 : Bool, (wd (hi b0) (hi b1) (hi b2) (hi b3) (hi b4) (hi b5) (hi b6) (hi b7) = 0 ↔ fstB b0 b1 b2 b3 b4 b5 b6 b7 = 8) := by decide +kernel
theorem rest_b : ∀ b0 b1 b2 b3 b4 b5 b6 b7 : Bool, bits BinOp.and IntKind.u64 ((wd (hi b0) (hi b1) (hi b2) (hi b3) (hi b4) (hi b5) (hi b6) (hi b7) : Nat) : Int) (IntKind.u64.wrap (((wd (hi b0) (hi b1) (hi b2) (hi b3) (hi b4) (hi b5) (hi b6) (hi b7) : Nat) : Int) - 1))
    = ((wd (hi (b0 && (fstB b0 b1 b2 b3 b4 b5 b6 b7 != 0))) (hi (b1 && (fstB b0 b1 b2 b3 b4 b5 b6 b7 != 1))) (hi (b2 && (fstB b0 b1 b2 b3 b4 b5 b6 b7 != 2))) (hi (b3 && (fstB b0 b1 b2 b3 b4 b5 b6 b7 != 3))) (hi (b4 && (fstB b0 b1 b2 b3 b4 b5 b6 b7 != 4))) (hi (b5 && (fstB b0 b1 b2 b3 b4 b5 b6 b7 != 5))) (hi (b6 && (fstB b0 b1 b2 b3 b4 b5 b6 b7 != 6))) (hi (b7 && (fstB b0 b1 b2 b3 b4 b5 b6 b7 != 7))) : Nat) : Int) := by decide +kernel
/-- the set without its lowest slot -/
def rst (p : Nat → Bool) : Nat → Bool := fun i => p i && (fst p != i)
theorem rest_mask (p : Nat → Bool) : bits BinOp.and IntKind.u64 ((mask p : Nat) : Int) (IntKind.u64.wrap (((mask p : Nat) : Int) - 1)) = ((mask (rst p) : Nat) : Int) :=
  rest_b (p 0) (p 1) (p 2) (p 3) (p 4) (p 5) (p 6) (p 7)
theorem mask_zero (p : Nat → Bool) : mask p = 0 ↔ fst p = 8 := zero_b (p 0) (p 1) (p 2) (p 3) (p 4) (p 5) (p 6) (p 7)
theorem key_mask (p : Nat → Bool) (h : fst p < 8) : IntKind.u64.wrap (bits BinOp.and IntKind.u64 ((mask p : Nat) : Int) (IntKind.u64.wrap (-((mask p : Nat) : Int))) * 285870213051353865) / 288230376151711744 = ((idxOf (fst p) : Nat) : Int) := by
  rcases key_b (p 0) (p 1) (p 2) (p 3) (p 4) (p 5) (p 6) (p 7) with e | e
  · exact absurd e (by show ¬ fst p = 8; omega)
  · exact e
theorem idx_tab : ∀ k, k < 8 → idxOf k < 64 ∧ Lib.deBruijn64tab.getD (idxOf k) 0 = 8 * k + 7 := by decide +kernel
end Pl
set_option maxHeartbeats 1000000 in
theorem tz_core (x : Int) (k idx : Nat) (w : World) (hx0 : (x == 0) = false)
    (key : IntKind.u64.wrap (bits BinOp.and IntKind.u64 x (IntKind.u64.wrap (-x)) * 285870213051353865) / 288230376151711744 = (idx : Int))
    (hi : idx < 64) (hk : k < 64) (hcell : w.cell? ⟨0, idx, none⟩ = some (.int .u8 k)) :
    Calls Tryd.prog 31 #[.int .u64 x] w fun e w' => e = .returned (.int .i64 k) ∧ w = w' := by
  go_enter Tryd.func31, Tryd.ntmps31
  go_wp2_with (simp only [key])
  go_ret
  exact ⟨rfl, rfl⟩
theorem tz_zero (w : World) : Calls Tryd.prog 31 #[.int .u64 0] w fun e w' => e = .returned (.int .i64 64) ∧ w = w' := by
  go_enter Tryd.func31, Tryd.ntmps31
  go_wp2
  go_ret
  exact ⟨rfl, rfl⟩
theorem tz_mask (p : Nat → Bool) (w : World) (hT : Tab w) : Calls Tryd.prog 31 #[.int .u64 (mask p : Nat)] w fun e w' => e = .returned (.int .i64 (if fst p = 8 then 64 else (8 * fst p + 7 : Nat))) ∧ w = w' := by
  by_cases h : fst p = 8
  · rw [if_pos h, (mask_zero p).2 h]
    exact tz_zero w
  · have h8 := fst_le p
    obtain ⟨h1, h2⟩ := idx_tab (fst p) (by omega)
    have hc := hT _ h1
    rw [h2] at hc
    rw [if_neg h]
    exact tz_core _ _ _ w (by have := mask_zero p; simp; omega) (key_mask p (by omega)) h1 (by omega) hc
theorem first_mask (p : Nat → Bool) (w : World) (hT : Tab w) : Calls Tryd.prog 17 #[.agg #[.int .u64 (mask p : Nat)]] w fun e w' => e = .returned (.int .i64 (fst p : Nat)) ∧ Below w.heap.size w w' := by
  have h8 := fst_le p
  have hb : Below w.heap.size w (w.alloc (.cells #[.int .u64 (mask p : Nat)] 26)) := (Below.refl _ _).alloc (Nat.le_refl _) _
  have c := Lib.hid (tz_mask p _ (hT.keep hb))
  replace hb := Lib.hid hb
  go_enter Tryd.func17, Tryd.ntmps17
  go_wp2_with fail
  refine c.out.mono ?_
  rintro e w' ⟨rfl, rfl⟩
  by_cases h : fst p = 8
  · rw [if_pos h]
    go_wp2_with fail
    go_ret
    exact ⟨ret_int (by rw [h]; rfl), hb.out⟩
  · rw [if_neg h]
    go_wp2_with fail
    go_ret
    exact ⟨ret_int (by omega), hb.out⟩
theorem first_to (p : Nat → Bool) (k : Nat) (w : World) (hT : Tab w) (hk : fst p = k) : Calls Tryd.prog 17 #[.agg #[.int .u64 (mask p : Nat)]] w fun e w' => e = .returned (.int .i64 k) ∧ Below w.heap.size w w' := by
  subst hk; exact first_mask p w hT
theorem rest_any (p : Nat → Bool) (w : World) : Calls Tryd.prog 30 #[.agg #[.int .u64 (mask p : Nat)]] w fun e w' => e = .returned (.agg #[.int .u64 (mask (rst p) : Nat)]) ∧ Below w.heap.size w w' := by
  have he := Lib.hid (rest_mask p)
  go_enter Tryd.func30, Tryd.ntmps30
  go_wp2_with fail
  exact bodyPost_ret (v := .agg #[.int .u64 (mask (rst p) : Nat)]) (by simp [results, Tryd.results30, go_sem, he.out]) rfl ⟨rfl, ((Below.refl _ _).alloc (Nat.le_refl _) _).alloc (by simp) _⟩
end Go.Proofs.YtakmaedimelaaaaDoor
