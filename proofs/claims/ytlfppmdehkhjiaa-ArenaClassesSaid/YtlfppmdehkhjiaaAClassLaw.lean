/- What is proved here: the walk of the law ArenaClasses: for every n it answers true. No condition. -/
import Derived.Test.YtlfppmdehkhjiaaAClass
namespace Go.Proofs.Ytlfppmdehkhjiaa
open Go.RowKit Pl
theorem class_eq (n m : Int) (w : World) (h : cls n = m) :
    Calls Try.prog 37 #[.int .i64 n] w fun e w' => e = .returned (.int .i64 m) ∧ w = w' := by
  subst h; exact class_any n w
theorem classesOut (n : Int) (w : World) (h : n < 1 ∨ 1048576 < n) :
    Calls Try.prog 11 #[.int .i64 n] w fun e w' => e = .returned (.bool true) ∧ w = w' := by
  rcases h with h | h
  · go_enter Try.func11, Try.ntmps11
    go_wp2_with (go_at_call 37; refine (class_out n _ (by omega)).mono ?_; rintro e w' ⟨rfl, rfl⟩)
    go_ret
    exact ⟨rfl, rfl⟩
  · have h' : ¬ n < 1 := by omega
    go_enter Try.func11, Try.ntmps11
    go_wp2_with (go_at_call 37; refine (class_out n _ (by omega)).mono ?_; rintro e w' ⟨rfl, rfl⟩)
    go_ret
    exact ⟨rfl, rfl⟩
/-- halving: of a multiple o * 2 ^ i of an odd number -/
theorem half_of {o x : Int} {i : Nat} (ho : o = 1 ∨ o = 3) (hx : x = o * 2 ^ i) (h : x % 2 = 0) : ∃ i', x / 2 = o * 2 ^ i' := by
  cases i with
  | zero => simp at hx; omega
  | succ i => exact ⟨i, by rw [hx, Int.pow_succ, ← Int.mul_assoc]; omega⟩
theorem odd_of {o x : Int} {i : Nat} (hx : x = o * 2 ^ i) (h : ¬ x % 2 = 0) : x = o := by
  cases i with
  | zero => simpa using hx
  | succ i => exfalso; apply h; rw [hx, Int.pow_succ, ← Int.mul_assoc]; omega
set_option maxHeartbeats 1000000 in
theorem classesIn (n c b o : Int) (j : Nat) (w : World) (H : At n c b o j) (h1 : 1 ≤ n) (h2 : n ≤ 1048576) :
    Calls Try.prog 11 #[.int .i64 n] w fun e w' => e = .returned (.bool true) ∧ w = w' := by
  have g1 : ¬ n < 1 := by omega
  have g2 : ¬ 1048576 < n := by omega
  have k1 : ¬ c < n := by have := H.hi; omega
  have k2 := H.c16
  have k3 := H.top
  have k4 : c % 16 = 0 := by have := H.mul; omega
  have k5 : b < n := H.lo
  have k6 : 0 ≤ b := H.b0
  have k7 := H.blt
  have hx0 : Hid (c / 16 = o * 2 ^ j) := by have := H.mul; unfold Hid; omega
  have ho : Hid (o = 1 ∨ o = 3) := H.odd
  have hb : Hid (b = if c = 16 then 0 else if c = 32 then 16 else if o = 3 then c / 3 * 2 else c / 4 * 3) := H.below
  have hcn : Hid (cls n = c) := H.cls
  have hcc : Hid (cls c = c) := H.self
  have hcb : Hid (b = 0 ∨ cls b = b) := H.bself
  have hcb1 : Hid (cls (b + 1) = c) := H.next
  clear H
  go_enter Try.func11, Try.ntmps11
  go_wp2_with (go_at_call 37; refine (class_eq n c _ hcn.out).mono ?_; rintro e w' ⟨rfl, rfl⟩)
  go_loop [4] (fun x => ∃ (i : Nat) (t : Int), x = .int .i64 t ∧ 1 ≤ t ∧ t ≤ 65536 ∧ Hid (t = o * 2 ^ i)) (fun x => (intOf x).toNat)
  case atStart => exact ⟨j, c / 16, rfl, by omega, by omega, hx0⟩
  case round =>
    obtain ⟨i, t, rfl, ht1, ht2, ht3⟩ := hrel
    by_cases he : t % 2 = 0
    · have hh : Hid (∃ i', t / 2 = o * 2 ^ i') := half_of ho.out ht3.out he
      go_wp2
      obtain ⟨i', hi'⟩ := hh.out
      go_round
      case rel => exact ⟨i', t / 2, rfl, by omega, by omega, hi'⟩
      case measure => simp [intOf]; omega
    · have hto : t = o := odd_of ht3.out he
      subst hto
      have ho' := ho.out
      have hb' := hb.out
      have hcb' := hcb.out
      clear hb ho hcb ht3 hx0 hcn
      by_cases e16 : c = 16
      · subst e16
        rw [if_pos rfl] at hb'
        subst hb'
        clear hcb'
        have e1 : Hid (cls 1 = 16) := hcb1.out
        clear hcb1
        rcases ho' with rfl | rfl <;>
        · go_wp2_with (go_at_call 37; (first | (with_reducible refine (class_eq 16 16 _ hcc.out).mono ?_) | (with_reducible refine (class_eq 1 16 _ e1.out).mono ?_)); rintro e w' ⟨rfl, rfl⟩)
          go_ret
          exact ⟨rfl, rfl⟩
      · rw [if_neg e16] at hb'
        have e16' : (c == 16) = false := beq_eq_false_iff_ne.2 e16
        by_cases e32 : c = 32
        · subst e32
          rw [if_pos rfl] at hb'
          subst hb'
          have e1 : Hid (cls 17 = 32) := hcb1.out
          have e2 : Hid (cls 16 = 16) := by rcases hcb' with h | h; exact absurd h (by decide); exact h
          clear hcb1 hcb' e16'
          rcases ho' with rfl | rfl <;>
          · go_wp2_with (go_at_call 37; (first | (with_reducible refine (class_eq 32 32 _ hcc.out).mono ?_) | (with_reducible refine (class_eq 16 16 _ e2.out).mono ?_) | (with_reducible refine (class_eq 17 32 _ e1.out).mono ?_)); rintro e w' ⟨rfl, rfl⟩)
            go_ret
            exact ⟨rfl, rfl⟩
        · rw [if_neg e32] at hb'
          have e32' : (c == 32) = false := beq_eq_false_iff_ne.2 e32
          rcases ho' with rfl | rfl
          · rw [if_neg (by decide)] at hb'
            have hb0 : (c / 4 * 3 == 0) = false := beq_eq_false_iff_ne.2 (by omega)
            have e2 : Hid (cls (c / 4 * 3) = c / 4 * 3) := by rcases hcb' with h | h; omega; rw [← hb']; exact h
            have e1 : Hid (cls (c / 4 * 3 + 1) = c) := by have := hcb1.out; rw [hb'] at this; exact this
            have k5' : c / 4 * 3 < n := by omega
            clear hcb' hb' hcb1 e16 e32
            go_wp2_with (go_at_call 37; (first | (with_reducible refine (class_eq c c _ hcc.out).mono ?_) | (with_reducible refine (class_eq (c / 4 * 3) (c / 4 * 3) _ e2.out).mono ?_) | (with_reducible refine (class_eq (c / 4 * 3 + 1) c _ e1.out).mono ?_)); rintro e w' ⟨rfl, rfl⟩)
            go_ret
            exact ⟨rfl, rfl⟩
          · rw [if_pos rfl] at hb'
            have hb0 : (c / 3 * 2 == 0) = false := beq_eq_false_iff_ne.2 (by omega)
            have e2 : Hid (cls (c / 3 * 2) = c / 3 * 2) := by rcases hcb' with h | h; omega; rw [← hb']; exact h
            have e1 : Hid (cls (c / 3 * 2 + 1) = c) := by have := hcb1.out; rw [hb'] at this; exact this
            have k5' : c / 3 * 2 < n := by omega
            clear hcb' hb' hcb1 e16 e32
            go_wp2_with (go_at_call 37; (first | (with_reducible refine (class_eq c c _ hcc.out).mono ?_) | (with_reducible refine (class_eq (c / 3 * 2) (c / 3 * 2) _ e2.out).mono ?_) | (with_reducible refine (class_eq (c / 3 * 2 + 1) c _ e1.out).mono ?_)); rintro e w' ⟨rfl, rfl⟩)
            go_ret
            exact ⟨rfl, rfl⟩
theorem classes_all (n : Int) (w : World) :
    Calls Try.prog 11 #[.int .i64 n] w fun e w' => e = .returned (.bool true) ∧ w = w' := by
  by_cases h : 1 ≤ n ∧ n ≤ 1048576
  · obtain ⟨c, b, o, j, H⟩ := cls_at h.1 h.2
    exact classesIn n c b o j w H h.1 h.2
  · exact classesOut n w (by omega)
end Go.Proofs.Ytlfppmdehkhjiaa
