/- What is proved here: the refusals of AllocAll and Alloc. No condition but that no list is longer than 2 to the power of 40. -/
import Derived.Test.YtpbalilnemjeeaaAAll
namespace Go.Proofs.Ytpbalilnemjeeaa
set_option linter.unusedVariables false
set_option linter.unusedSimpArgs false
open Go.RowKit Pm Pa Pl
namespace Pa
def grN (ns : List Int) : Bool := ns.any fun n => decide (1048576 < n)
theorem grN_app (ns : List Int) (n : Int) : grN (ns ++ [n]) = (grN ns || decide (1048576 < n)) := by simp [grN]
theorem clsN_le (n : Int) : clsN n ≤ 1048576 := by
  by_cases h : 1 ≤ n ∧ n ≤ 1048576
  · exact (clsN_is h).2.2
  · unfold clsN; rw [cls_out (by omega)]; decide
theorem clsN_out (n : Int) (h : n < 1 ∨ 1048576 < n) : clsN n = 0 := by unfold clsN; rw [cls_out h]; rfl
theorem need_le (ns : List Int) : need ns ≤ 1048576 * ns.length := by
  induction ns with
  | nil => simp [need]
  | cons n t ih =>
    have := clsN_le n
    simp [need] at ih ⊢
    omega
end Pa
theorem class_all (n : Int) (w : World) (c : Nat) (h : clsN n = c) : Calls Try.prog 50 #[.int .i64 n] w fun e w' => e = .returned (.int .i64 (c : Int)) ∧ w = w' := by
  subst h
  by_cases hn : 1 ≤ n ∧ n ≤ 1048576
  · exact class_to n w hn
  · have h1 := class_any n w
    rw [cls_out (by omega)] at h1
    rw [clsN_out n (by omega)]
    exact h1
set_option maxHeartbeats 4000000 in
set_option maxRecDepth 100000 in
theorem allocs_ask {w : World} {p : Nat} {x : Loc} {lim : Nat} {ps : Parts} {L : List UInt8} (h : ArAt w p x lim ps L) (ns : List Int) (A : Option Addr) (cap : Nat) (hin : IntsIn w A ns) (hlen : ns.length ≤ 1099511627776) (j : Nat) (hj : j < ns.length) (hbad : ∀ n, ns[j]? = some n → n < 1) (hgood : ∀ i n, i < j → ns[i]? = some n → 1 ≤ n) (N : Nat) (hN : N = ns.length) :
    Calls Try.prog 21 #[.pointer (some ⟨p, 0, none⟩), .slice A N cap] w fun e w' => e = .returned (.tuple #[.slice none 0 0, .int .i64 21]) ∧ w = w' := by
  subst hN
  have hlm := h.lm
  have hlv := h.lv
  obtain ⟨c0, c1, _⟩ := h.cells
  clear h
  replace hin := Lib.hid hin
  replace hbad := Lib.hid hbad
  replace hgood := Lib.hid hgood
  go_enter Try.func21, Try.ntmps21
  go_wp2_with fail
  go_loopw [6, 7, 17] (fun a6 a7 a17 wr => ∃ k : Nat, k ≤ j ∧ a6 = .int .i64 (need (ns.take k) : Int) ∧ a7 = .bool (grN (ns.take k)) ∧ a17 = .int .i64 (k : Int) ∧ Hid (wr = w)) (fun _ _ i _ => (ns.length - (intOf i).toNat))
  case atStart => exact ⟨0, Nat.zero_le _, rfl, rfl, rfl, rfl⟩
  case round =>
    obtain ⟨k, hk, rfl, rfl, rfl, hw⟩ := hrel
    obtain rfl := hw.out
    clear hw
    by_cases hlt : k < ns.length
    · obtain ⟨n, hn⟩ : ∃ n, Hid (ns[k]? = some n) := ⟨_, List.getElem?_eq_getElem hlt⟩
      obtain ⟨g, o, rfl, hc⟩ := hin.out k n hn.out
      have k0 : (0 : Int) ≤ k := by omega
      have k1 : (k : Int) < ns.length := by omega
      obtain ⟨cn, hcn⟩ : ∃ cn : Nat, Hid (clsN n = cn) := ⟨_, rfl⟩
      have hcn1 : cn ≤ 1048576 := by rw [← hcn.out]; exact clsN_le n
      have hnl := need_le (ns.take k)
      rw [List.length_take, Nat.min_eq_left (by omega)] at hnl
      obtain ⟨nd, hnd⟩ : ∃ nd : Nat, Hid (need (ns.take k) = nd) := ⟨_, rfl⟩
      obtain ⟨gb, hgb⟩ : ∃ gb : Bool, Hid (grN (ns.take k) = gb) := ⟨_, rfl⟩
      rw [hnd.out] at hnl ⊢
      rw [hgb.out]
      have hst := Lib.hid (take_snoc ns k n hn.out)
      by_cases hkj : k = j
      · subst hkj
        have n1 : n < 1 := hbad.out n hn.out
        go_wp2_with fail
        go_ret2
        exact ⟨rfl, rfl⟩
      have hng := hgood.out k n (by omega) hn.out
      have n1 : ¬ n < 1 := by omega
      rcases gb with _ | _
      · by_cases n2 : 1048576 < n
        · go_wp2_with (first
            | (go_at_call 50; refine (class_all n _ cn hcn.out).mono ?_; rintro e w' ⟨rfl, rfl⟩)
            | fail)
          go_roundw
          case rel =>
            refine ⟨k + 1, by omega, ?_, ?_, by go_num, by first | rfl | trivial⟩
            · rw [hst.out, need_app, hcn.out, hnd.out]; go_num
            · rw [hst.out, grN_app, hgb.out]; simp [n2]
          case measure => simp [intOf]; omega
        · go_wp2_with (first
            | (go_at_call 50; refine (class_all n _ cn hcn.out).mono ?_; rintro e w' ⟨rfl, rfl⟩)
            | fail)
          go_roundw
          case rel =>
            refine ⟨k + 1, by omega, ?_, ?_, by go_num, by first | rfl | trivial⟩
            · rw [hst.out, need_app, hcn.out, hnd.out]; go_num
            · rw [hst.out, grN_app, hgb.out]; simp [n2]
          case measure => simp [intOf]; omega
      · go_wp2_with (first
          | (go_at_call 50; refine (class_all n _ cn hcn.out).mono ?_; rintro e w' ⟨rfl, rfl⟩)
          | fail)
        go_roundw
        case rel =>
          refine ⟨k + 1, by omega, ?_, ?_, by go_num, by first | rfl | trivial⟩
          · rw [hst.out, need_app, hcn.out, hnd.out]; go_num
          · rw [hst.out, grN_app, hgb.out]; simp
        case measure => simp [intOf]; omega
    · omega
set_option maxHeartbeats 4000000 in
set_option maxRecDepth 100000 in
theorem allocs_mem {w : World} {p : Nat} {x : Loc} {lim : Nat} {ps : Parts} {L : List UInt8} (h : ArAt w p x lim ps L) (ns : List Int) (A : Option Addr) (cap : Nat) (hin : IntsIn w A ns) (hlen : ns.length ≤ 1099511627776) (hgood : ∀ n ∈ ns, 1 ≤ n) (hbig : grN ns = true ∨ lim < liveSum ps + need ns) (N : Nat) (hN : N = ns.length) :
    Calls Try.prog 21 #[.pointer (some ⟨p, 0, none⟩), .slice A N cap] w fun e w' => e = .returned (.tuple #[.slice none 0 0, .int .i64 22]) ∧ ∃ m, w' = w.drewN m := by
  subst hN
  have hlm := h.lm
  have hlv := h.lv
  obtain ⟨c0, c1, _⟩ := h.cells
  clear h
  replace hin := Lib.hid hin
  replace hgood := Lib.hid hgood
  replace hbig := Lib.hid hbig
  go_enter Try.func21, Try.ntmps21
  go_wp2_with fail
  go_loopw [6, 7, 17] (fun a6 a7 a17 wr => ∃ k : Nat, k ≤ ns.length ∧ a6 = .int .i64 (need (ns.take k) : Int) ∧ a7 = .bool (grN (ns.take k)) ∧ a17 = .int .i64 (k : Int) ∧ Hid (wr = w)) (fun _ _ i _ => (ns.length - (intOf i).toNat))
  case atStart => exact ⟨0, Nat.zero_le _, rfl, rfl, rfl, rfl⟩
  case round =>
    obtain ⟨k, hk, rfl, rfl, rfl, hw⟩ := hrel
    obtain rfl := hw.out
    clear hw
    by_cases hlt : k < ns.length
    · obtain ⟨n, hn⟩ : ∃ n, Hid (ns[k]? = some n) := ⟨_, List.getElem?_eq_getElem hlt⟩
      obtain ⟨g, o, rfl, hc⟩ := hin.out k n hn.out
      have k0 : (0 : Int) ≤ k := by omega
      have k1 : (k : Int) < ns.length := by omega
      obtain ⟨cn, hcn⟩ : ∃ cn : Nat, Hid (clsN n = cn) := ⟨_, rfl⟩
      have hcn1 : cn ≤ 1048576 := by rw [← hcn.out]; exact clsN_le n
      have hnl := need_le (ns.take k)
      rw [List.length_take, Nat.min_eq_left (by omega)] at hnl
      obtain ⟨nd, hnd⟩ : ∃ nd : Nat, Hid (need (ns.take k) = nd) := ⟨_, rfl⟩
      obtain ⟨gb, hgb⟩ : ∃ gb : Bool, Hid (grN (ns.take k) = gb) := ⟨_, rfl⟩
      rw [hnd.out] at hnl ⊢
      rw [hgb.out]
      have hst := Lib.hid (take_snoc ns k n hn.out)
      have hng := hgood.out n (List.mem_of_getElem? hn.out)
      have n1 : ¬ n < 1 := by omega
      rcases gb with _ | _
      · by_cases n2 : 1048576 < n
        · go_wp2_with (first
            | (go_at_call 50; refine (class_all n _ cn hcn.out).mono ?_; rintro e w' ⟨rfl, rfl⟩)
            | fail)
          go_roundw
          case rel =>
            refine ⟨k + 1, by omega, ?_, ?_, by go_num, by first | rfl | trivial⟩
            · rw [hst.out, need_app, hcn.out, hnd.out]; go_num
            · rw [hst.out, grN_app, hgb.out]; simp [n2]
          case measure => simp [intOf]; omega
        · go_wp2_with (first
            | (go_at_call 50; refine (class_all n _ cn hcn.out).mono ?_; rintro e w' ⟨rfl, rfl⟩)
            | fail)
          go_roundw
          case rel =>
            refine ⟨k + 1, by omega, ?_, ?_, by go_num, by first | rfl | trivial⟩
            · rw [hst.out, need_app, hcn.out, hnd.out]; go_num
            · rw [hst.out, grN_app, hgb.out]; simp [n2]
          case measure => simp [intOf]; omega
      · go_wp2_with (first
          | (go_at_call 50; refine (class_all n _ cn hcn.out).mono ?_; rintro e w' ⟨rfl, rfl⟩)
          | fail)
        go_roundw
        case rel =>
          refine ⟨k + 1, by omega, ?_, ?_, by go_num, by first | rfl | trivial⟩
          · rw [hst.out, need_app, hcn.out, hnd.out]; go_num
          · rw [hst.out, grN_app, hgb.out]; simp
        case measure => simp [intOf]; omega
    · obtain rfl : k = ns.length := by omega
      rw [List.take_length]
      have hnl := need_le ns
      obtain ⟨nd, hnd⟩ : ∃ nd : Nat, Hid (need ns = nd) := ⟨_, rfl⟩
      obtain ⟨gb, hgb⟩ : ∃ gb : Bool, Hid (grN ns = gb) := ⟨_, rfl⟩
      obtain ⟨wo, rfl⟩ : ∃ wo : World, wo = wr := ⟨_, rfl⟩
      have hb2 := hbig.out
      rw [hnd.out, hgb.out] at hb2
      rw [hnd.out] at hnl ⊢
      rw [hgb.out]
      rcases gb with _ | _
      · have g1 : ((lim : Int) - (liveSum ps : Int)) < (nd : Int) := by
          rcases hb2 with e | e
          · cases e
          · omega
        clear hb2
        go_upto_region 11 with (fail)
        go_quiet (fail)
        all_goals go_wp2_with fail
        all_goals go_ret2
        all_goals exact ⟨rfl, _, rfl⟩
      · clear hb2
        go_upto_region 11 with (fail)
        go_quiet (fail)
        all_goals go_wp2_with fail
        all_goals go_ret2
        all_goals exact ⟨rfl, _, rfl⟩
set_option maxHeartbeats 1000000 in
theorem alloc_ask {w : World} {p : Nat} {x : Loc} {lim : Nat} {ps : Parts} {L : List UInt8} (h : ArAt w p x lim ps L) (n : Int) (hn : n < 1) :
    Calls Try.prog 28 #[.pointer (some ⟨p, 0, none⟩), .int .i64 n] w fun e w' => e = .returned (.tuple #[.int .i64 0, .int .i64 21]) ∧ Below w.heap.size w w' := by
  have hA := Lib.hid (h.alloc (.cells #[.int .i64 n] 3))
  have hin : IntsIn (w.alloc (.cells #[.int .i64 n] 3)) (some ⟨w.heap.size, 0, none⟩) [n] := by
    intro i m hi
    match i with
    | 0 => simp at hi; subst hi; exact ⟨_, _, rfl, (Blk.new w #[.int .i64 n] 3).cell 0⟩
    | i + 1 => simp at hi
  go_enter Try.func28, Try.ntmps28
  go_wp2_with (first
    | (go_at_call 21; refine (allocs_ask hA.out [n] _ 1 hin (by simp) 0 (by simp) (by simpa using hn) (by intro i m hi; omega) 1 rfl).mono ?_; rintro e w1 ⟨rfl, rfl⟩)
    | fail)
  go_ret2
  exact ⟨rfl, (Below.refl _ _).alloc (Nat.le_refl _) _⟩
set_option maxHeartbeats 1000000 in
theorem alloc_mem {w : World} {p : Nat} {x : Loc} {lim : Nat} {ps : Parts} {L : List UInt8} (h : ArAt w p x lim ps L) (n : Int) (hn : 1 ≤ n) (hb : 1048576 < n ∨ lim < liveSum ps + clsN n) :
    Calls Try.prog 28 #[.pointer (some ⟨p, 0, none⟩), .int .i64 n] w fun e w' => e = .returned (.tuple #[.int .i64 0, .int .i64 22]) ∧ Below w.heap.size w w' := by
  have hA := Lib.hid (h.alloc (.cells #[.int .i64 n] 3))
  have hin : IntsIn (w.alloc (.cells #[.int .i64 n] 3)) (some ⟨w.heap.size, 0, none⟩) [n] := by
    intro i m hi
    match i with
    | 0 => simp at hi; subst hi; exact ⟨_, _, rfl, (Blk.new w #[.int .i64 n] 3).cell 0⟩
    | i + 1 => simp at hi
  go_enter Try.func28, Try.ntmps28
  go_wp2_with (first
    | (go_at_call 21; refine (allocs_mem hA.out [n] _ 1 hin (by simp) (by simpa using hn) (by simpa [grN, need] using hb) 1 rfl).mono ?_; rintro e w1 ⟨rfl, m, rfl⟩)
    | fail)
  go_ret2
  exact ⟨rfl, below_drewN ((Below.refl _ _).alloc (Nat.le_refl _) _) _⟩
end Go.Proofs.Ytpbalilnemjeeaa
