/- What is proved here: depthOf; Entry of a directory. No condition. -/
import Derived.Test.YtpbalilnemjeeaaDNo
namespace Go.Proofs.Ytpbalilnemjeeaa
set_option linter.unusedVariables false
set_option linter.unusedSimpArgs false
open Go.RowKit Pm Pa Pl Pd
theorem pow_ne {d k : Nat} (h : d ≠ k) : 2 ^ d ≠ 2 ^ k := by
  rcases Nat.lt_or_gt_of_ne h with h | h
  · exact Nat.ne_of_lt (Nat.pow_lt_pow_right (by decide) h)
  · exact Nat.ne_of_gt (Nat.pow_lt_pow_right (by decide) h)
set_option maxHeartbeats 1000000 in
theorem depthOf_yes (w : World) (N : Int) (n d : Nat) (hN : N = n) (hd6 : d ≤ 6) (hd : n = 2 ^ d) : Calls Try.prog 49 #[.int .i64 N] w fun e w' => e = .returned (.int .i64 (d : Int)) ∧ w = w' := by
  subst hN
  obtain ⟨N, hNN⟩ : ∃ N : Int, Hid (N = (n : Int)) := ⟨_, rfl⟩
  rw [← hNN.out]
  replace hd : N = ((2 ^ d : Nat) : Int) := by rw [hNN.out, hd]
  replace hd := Lib.hid hd
  clear hNN
  go_enter Try.func49, Try.ntmps49
  go_wp2_with fail
  go_loopw [3] (fun a3 wr => ∃ k : Nat, k ≤ d ∧ a3 = .int .i64 (k : Int) ∧ Hid (wr = w)) (fun i _ => (7 - (intOf i).toNat))
  case atStart => exact ⟨0, Nat.zero_le _, rfl, rfl⟩
  case round =>
    obtain ⟨k, hk, rfl, hw⟩ := hrel
    obtain rfl := hw.out
    clear hw
    have hk7 : k = 0 ∨ k = 1 ∨ k = 2 ∨ k = 3 ∨ k = 4 ∨ k = 5 ∨ k = 6 ∨ k = 7 := by omega
    rcases hk7 with rfl | rfl | rfl | rfl | rfl | rfl | rfl | rfl
    · rw [show (((0 : Nat) : Int)) = 0 from rfl]
      by_cases e : d = 0
      · subst e
        have hd2 : N = 1 := hd.out
        subst hd2
        clear hd
        go_wp2_with fail
        go_ret
        exact ⟨rfl, rfl⟩
      · have hne : (N == 1) = false := by
          rw [beq_eq_false_iff_ne]
          intro e2
          have h1 := hd.out
          have h2 : 2 ^ d ≠ 2 ^ 0 := pow_ne e
          have h3 : (2 : Nat) ^ 0 = 1 := by decide
          omega
        go_wp2_with fail
        exact ⟨⟨1, by omega, rfl, by first | rfl | trivial⟩, by simp [intOf]⟩
    · rw [show (((1 : Nat) : Int)) = 1 from rfl]
      by_cases e : d = 1
      · subst e
        have hd2 : N = 2 := hd.out
        subst hd2
        clear hd
        go_wp2_with fail
        go_ret
        exact ⟨rfl, rfl⟩
      · have hne : (N == 2) = false := by
          rw [beq_eq_false_iff_ne]
          intro e2
          have h1 := hd.out
          have h2 : 2 ^ d ≠ 2 ^ 1 := pow_ne e
          have h3 : (2 : Nat) ^ 1 = 2 := by decide
          omega
        go_wp2_with fail
        exact ⟨⟨2, by omega, rfl, by first | rfl | trivial⟩, by simp [intOf]⟩
    · rw [show (((2 : Nat) : Int)) = 2 from rfl]
      by_cases e : d = 2
      · subst e
        have hd2 : N = 4 := hd.out
        subst hd2
        clear hd
        go_wp2_with fail
        go_ret
        exact ⟨rfl, rfl⟩
      · have hne : (N == 4) = false := by
          rw [beq_eq_false_iff_ne]
          intro e2
          have h1 := hd.out
          have h2 : 2 ^ d ≠ 2 ^ 2 := pow_ne e
          have h3 : (2 : Nat) ^ 2 = 4 := by decide
          omega
        go_wp2_with fail
        exact ⟨⟨3, by omega, rfl, by first | rfl | trivial⟩, by simp [intOf]⟩
    · rw [show (((3 : Nat) : Int)) = 3 from rfl]
      by_cases e : d = 3
      · subst e
        have hd2 : N = 8 := hd.out
        subst hd2
        clear hd
        go_wp2_with fail
        go_ret
        exact ⟨rfl, rfl⟩
      · have hne : (N == 8) = false := by
          rw [beq_eq_false_iff_ne]
          intro e2
          have h1 := hd.out
          have h2 : 2 ^ d ≠ 2 ^ 3 := pow_ne e
          have h3 : (2 : Nat) ^ 3 = 8 := by decide
          omega
        go_wp2_with fail
        exact ⟨⟨4, by omega, rfl, by first | rfl | trivial⟩, by simp [intOf]⟩
    · rw [show (((4 : Nat) : Int)) = 4 from rfl]
      by_cases e : d = 4
      · subst e
        have hd2 : N = 16 := hd.out
        subst hd2
        clear hd
        go_wp2_with fail
        go_ret
        exact ⟨rfl, rfl⟩
      · have hne : (N == 16) = false := by
          rw [beq_eq_false_iff_ne]
          intro e2
          have h1 := hd.out
          have h2 : 2 ^ d ≠ 2 ^ 4 := pow_ne e
          have h3 : (2 : Nat) ^ 4 = 16 := by decide
          omega
        go_wp2_with fail
        exact ⟨⟨5, by omega, rfl, by first | rfl | trivial⟩, by simp [intOf]⟩
    · rw [show (((5 : Nat) : Int)) = 5 from rfl]
      by_cases e : d = 5
      · subst e
        have hd2 : N = 32 := hd.out
        subst hd2
        clear hd
        go_wp2_with fail
        go_ret
        exact ⟨rfl, rfl⟩
      · have hne : (N == 32) = false := by
          rw [beq_eq_false_iff_ne]
          intro e2
          have h1 := hd.out
          have h2 : 2 ^ d ≠ 2 ^ 5 := pow_ne e
          have h3 : (2 : Nat) ^ 5 = 32 := by decide
          omega
        go_wp2_with fail
        exact ⟨⟨6, by omega, rfl, by first | rfl | trivial⟩, by simp [intOf]⟩
    · rw [show (((6 : Nat) : Int)) = 6 from rfl]
      by_cases e : d = 6
      · subst e
        have hd2 : N = 64 := hd.out
        subst hd2
        clear hd
        go_wp2_with fail
        go_ret
        exact ⟨rfl, rfl⟩
      · have hne : (N == 64) = false := by
          rw [beq_eq_false_iff_ne]
          intro e2
          have h1 := hd.out
          have h2 : 2 ^ d ≠ 2 ^ 6 := pow_ne e
          have h3 : (2 : Nat) ^ 6 = 64 := by decide
          omega
        go_wp2_with fail
        exact ⟨⟨7, by omega, rfl, by first | rfl | trivial⟩, by simp [intOf]⟩
    · omega
set_option maxHeartbeats 1000000 in
theorem depthOf_no (w : World) (N : Int) (n : Nat) (hN : N = n) (hn : ¬ isPow n) : Calls Try.prog 49 #[.int .i64 N] w fun e w' => e = .returned (.int .i64 (-1)) ∧ w = w' := by
  replace hN := Lib.hid hN
  replace hn := Lib.hid hn
  go_enter Try.func49, Try.ntmps49
  go_wp2_with fail
  go_loopw [3] (fun a3 wr => ∃ k : Nat, k ≤ 7 ∧ a3 = .int .i64 (k : Int) ∧ Hid (wr = w)) (fun i _ => (7 - (intOf i).toNat))
  case atStart => exact ⟨0, Nat.zero_le _, rfl, rfl⟩
  case round =>
    obtain ⟨k, hk, rfl, hw⟩ := hrel
    obtain rfl := hw.out
    clear hw
    have hk7 : k = 0 ∨ k = 1 ∨ k = 2 ∨ k = 3 ∨ k = 4 ∨ k = 5 ∨ k = 6 ∨ k = 7 := by omega
    rcases hk7 with rfl | rfl | rfl | rfl | rfl | rfl | rfl | rfl
    · rw [show (((0 : Nat) : Int)) = 0 from rfl]
      have hne : (N == 1) = false := by
        rw [beq_eq_false_iff_ne]
        intro e2
        exact hn.out ⟨0, by decide, by have := hN.out; omega⟩
      go_wp2_with fail
      exact ⟨⟨1, by omega, rfl, by first | rfl | trivial⟩, by simp [intOf]⟩
    · rw [show (((1 : Nat) : Int)) = 1 from rfl]
      have hne : (N == 2) = false := by
        rw [beq_eq_false_iff_ne]
        intro e2
        exact hn.out ⟨1, by decide, by have := hN.out; omega⟩
      go_wp2_with fail
      exact ⟨⟨2, by omega, rfl, by first | rfl | trivial⟩, by simp [intOf]⟩
    · rw [show (((2 : Nat) : Int)) = 2 from rfl]
      have hne : (N == 4) = false := by
        rw [beq_eq_false_iff_ne]
        intro e2
        exact hn.out ⟨2, by decide, by have := hN.out; omega⟩
      go_wp2_with fail
      exact ⟨⟨3, by omega, rfl, by first | rfl | trivial⟩, by simp [intOf]⟩
    · rw [show (((3 : Nat) : Int)) = 3 from rfl]
      have hne : (N == 8) = false := by
        rw [beq_eq_false_iff_ne]
        intro e2
        exact hn.out ⟨3, by decide, by have := hN.out; omega⟩
      go_wp2_with fail
      exact ⟨⟨4, by omega, rfl, by first | rfl | trivial⟩, by simp [intOf]⟩
    · rw [show (((4 : Nat) : Int)) = 4 from rfl]
      have hne : (N == 16) = false := by
        rw [beq_eq_false_iff_ne]
        intro e2
        exact hn.out ⟨4, by decide, by have := hN.out; omega⟩
      go_wp2_with fail
      exact ⟨⟨5, by omega, rfl, by first | rfl | trivial⟩, by simp [intOf]⟩
    · rw [show (((5 : Nat) : Int)) = 5 from rfl]
      have hne : (N == 32) = false := by
        rw [beq_eq_false_iff_ne]
        intro e2
        exact hn.out ⟨5, by decide, by have := hN.out; omega⟩
      go_wp2_with fail
      exact ⟨⟨6, by omega, rfl, by first | rfl | trivial⟩, by simp [intOf]⟩
    · rw [show (((6 : Nat) : Int)) = 6 from rfl]
      have hne : (N == 64) = false := by
        rw [beq_eq_false_iff_ne]
        intro e2
        exact hn.out ⟨6, by decide, by have := hN.out; omega⟩
      go_wp2_with fail
      exact ⟨⟨7, by omega, rfl, by first | rfl | trivial⟩, by simp [intOf]⟩
    · rw [show (((7 : Nat) : Int)) = 7 from rfl]
      go_wp2_with fail
      go_ret
      exact ⟨rfl, rfl⟩
structure DirAt (ps : Parts) (L : List UInt8) (off d : Nat) (es : List Int) : Prop where
  len : es.length = 2 ^ d
  dl : d ≤ 6
  rng : ∀ e ∈ es, isI e
  ins : ∀ i, i < 2 ^ d → Inside ps (off + 8 * i) 8
  wd : ∀ i e, es[i]? = some e → (L.drop (off + 8 * i)).take 8 = leB 8 (uN e)
  ob : off ≤ 134217728
theorem pow64 {d : Nat} (h : d ≤ 6) : 2 ^ d ≤ 64 := Nat.pow_le_pow_right (by decide) h
set_option maxHeartbeats 2000000 in
theorem entry_in {w0 w : World} {p : Nat} {x : Loc} {lim : Nat} {ps : Parts} {L : List UInt8} (h : AS w0 p x lim ps L w) {off d : Nat} {es : List Int} (hD : DirAt ps L off d es) (i : Nat) (e : Int) (hi : es[i]? = some e) (I : Int) (hI : I = i) :
    Calls Try.prog 52 #[dirV p off d, .int .i64 I] w fun r w' => r = .returned (.tuple #[.int .i64 e, .int .i64 0]) ∧ AS w0 p x lim ps L w' := by
  have hdl := hD.dl
  have hlen := hD.len
  have hob := hD.ob
  subst hI
  have hlt : i < 2 ^ d := by rw [← hlen]; exact (List.getElem?_eq_some_iff.1 hi).1
  have he := Lib.hid hi
  clear hi
  have hle := pow64 hdl
  have hA := Lib.hid (h.alloc (.cells #[.pointer (some ⟨p, 0, none⟩), .int .i64 (off : Int), .int .i64 (d : Int)] 92))
  clear h
  unfold dirV
  replace hD := Lib.hid hD
  replace hlen := Lib.hid hlen
  have hd7 : d = 0 ∨ d = 1 ∨ d = 2 ∨ d = 3 ∨ d = 4 ∨ d = 5 ∨ d = 6 := by omega
  rcases hd7 with rfl | rfl | rfl | rfl | rfl | rfl | rfl
  · rw [show (((0 : Nat) : Int)) = 0 from rfl] at hA ⊢
    have i0 : (0 : Int) ≤ i := by omega
    have i1 : (i : Int) < 1 := by have : i < 1 := hlt; omega
    go_enter Try.func52, Try.ntmps52
    go_wp2_with (first
      | (go_at_call 87; refine (dir_deep off 0 hdl _ _ rfl _ _ ⟨_, rfl⟩ ⟨_, rfl⟩).mono ?_; rintro r w1 ⟨rfl, hb⟩; obtain ⟨hc, hf⟩ := bcell hb; have hA1 := hA.out.keep hb)
      | (go_at_call 88; refine (dir_word hA1 off 0 i e (hD.out.ins i hlt) (by omega) (hD.out.wd i e he.out) (hD.out.rng e (List.mem_of_getElem? he.out)) _ _ rfl rfl).mono ?_; rintro r w2 ⟨rfl, hA2⟩)
      | fail)
    go_ret2
    exact ⟨rfl, hA2⟩
  · rw [show (((1 : Nat) : Int)) = 1 from rfl] at hA ⊢
    have i0 : (0 : Int) ≤ i := by omega
    have i1 : (i : Int) < 2 := by have : i < 2 := hlt; omega
    go_enter Try.func52, Try.ntmps52
    go_wp2_with (first
      | (go_at_call 87; refine (dir_deep off 1 hdl _ _ rfl _ _ ⟨_, rfl⟩ ⟨_, rfl⟩).mono ?_; rintro r w1 ⟨rfl, hb⟩; obtain ⟨hc, hf⟩ := bcell hb; have hA1 := hA.out.keep hb)
      | (go_at_call 88; refine (dir_word hA1 off 1 i e (hD.out.ins i hlt) (by omega) (hD.out.wd i e he.out) (hD.out.rng e (List.mem_of_getElem? he.out)) _ _ rfl rfl).mono ?_; rintro r w2 ⟨rfl, hA2⟩)
      | fail)
    go_ret2
    exact ⟨rfl, hA2⟩
  · rw [show (((2 : Nat) : Int)) = 2 from rfl] at hA ⊢
    have i0 : (0 : Int) ≤ i := by omega
    have i1 : (i : Int) < 4 := by have : i < 4 := hlt; omega
    go_enter Try.func52, Try.ntmps52
    go_wp2_with (first
      | (go_at_call 87; refine (dir_deep off 2 hdl _ _ rfl _ _ ⟨_, rfl⟩ ⟨_, rfl⟩).mono ?_; rintro r w1 ⟨rfl, hb⟩; obtain ⟨hc, hf⟩ := bcell hb; have hA1 := hA.out.keep hb)
      | (go_at_call 88; refine (dir_word hA1 off 2 i e (hD.out.ins i hlt) (by omega) (hD.out.wd i e he.out) (hD.out.rng e (List.mem_of_getElem? he.out)) _ _ rfl rfl).mono ?_; rintro r w2 ⟨rfl, hA2⟩)
      | fail)
    go_ret2
    exact ⟨rfl, hA2⟩
  · rw [show (((3 : Nat) : Int)) = 3 from rfl] at hA ⊢
    have i0 : (0 : Int) ≤ i := by omega
    have i1 : (i : Int) < 8 := by have : i < 8 := hlt; omega
    go_enter Try.func52, Try.ntmps52
    go_wp2_with (first
      | (go_at_call 87; refine (dir_deep off 3 hdl _ _ rfl _ _ ⟨_, rfl⟩ ⟨_, rfl⟩).mono ?_; rintro r w1 ⟨rfl, hb⟩; obtain ⟨hc, hf⟩ := bcell hb; have hA1 := hA.out.keep hb)
      | (go_at_call 88; refine (dir_word hA1 off 3 i e (hD.out.ins i hlt) (by omega) (hD.out.wd i e he.out) (hD.out.rng e (List.mem_of_getElem? he.out)) _ _ rfl rfl).mono ?_; rintro r w2 ⟨rfl, hA2⟩)
      | fail)
    go_ret2
    exact ⟨rfl, hA2⟩
  · rw [show (((4 : Nat) : Int)) = 4 from rfl] at hA ⊢
    have i0 : (0 : Int) ≤ i := by omega
    have i1 : (i : Int) < 16 := by have : i < 16 := hlt; omega
    go_enter Try.func52, Try.ntmps52
    go_wp2_with (first
      | (go_at_call 87; refine (dir_deep off 4 hdl _ _ rfl _ _ ⟨_, rfl⟩ ⟨_, rfl⟩).mono ?_; rintro r w1 ⟨rfl, hb⟩; obtain ⟨hc, hf⟩ := bcell hb; have hA1 := hA.out.keep hb)
      | (go_at_call 88; refine (dir_word hA1 off 4 i e (hD.out.ins i hlt) (by omega) (hD.out.wd i e he.out) (hD.out.rng e (List.mem_of_getElem? he.out)) _ _ rfl rfl).mono ?_; rintro r w2 ⟨rfl, hA2⟩)
      | fail)
    go_ret2
    exact ⟨rfl, hA2⟩
  · rw [show (((5 : Nat) : Int)) = 5 from rfl] at hA ⊢
    have i0 : (0 : Int) ≤ i := by omega
    have i1 : (i : Int) < 32 := by have : i < 32 := hlt; omega
    go_enter Try.func52, Try.ntmps52
    go_wp2_with (first
      | (go_at_call 87; refine (dir_deep off 5 hdl _ _ rfl _ _ ⟨_, rfl⟩ ⟨_, rfl⟩).mono ?_; rintro r w1 ⟨rfl, hb⟩; obtain ⟨hc, hf⟩ := bcell hb; have hA1 := hA.out.keep hb)
      | (go_at_call 88; refine (dir_word hA1 off 5 i e (hD.out.ins i hlt) (by omega) (hD.out.wd i e he.out) (hD.out.rng e (List.mem_of_getElem? he.out)) _ _ rfl rfl).mono ?_; rintro r w2 ⟨rfl, hA2⟩)
      | fail)
    go_ret2
    exact ⟨rfl, hA2⟩
  · rw [show (((6 : Nat) : Int)) = 6 from rfl] at hA ⊢
    have i0 : (0 : Int) ≤ i := by omega
    have i1 : (i : Int) < 64 := by have : i < 64 := hlt; omega
    go_enter Try.func52, Try.ntmps52
    go_wp2_with (first
      | (go_at_call 87; refine (dir_deep off 6 hdl _ _ rfl _ _ ⟨_, rfl⟩ ⟨_, rfl⟩).mono ?_; rintro r w1 ⟨rfl, hb⟩; obtain ⟨hc, hf⟩ := bcell hb; have hA1 := hA.out.keep hb)
      | (go_at_call 88; refine (dir_word hA1 off 6 i e (hD.out.ins i hlt) (by omega) (hD.out.wd i e he.out) (hD.out.rng e (List.mem_of_getElem? he.out)) _ _ rfl rfl).mono ?_; rintro r w2 ⟨rfl, hA2⟩)
      | fail)
    go_ret2
    exact ⟨rfl, hA2⟩
set_option maxHeartbeats 2000000 in
theorem entry_out {w0 w : World} {p : Nat} {x : Loc} {lim : Nat} {ps : Parts} {L : List UInt8} (h : AS w0 p x lim ps L w) {off d : Nat} {es : List Int} (hD : DirAt ps L off d es) (I : Int) (hI : I < 0 ∨ ((2 ^ d : Nat) : Int) ≤ I) :
    Calls Try.prog 52 #[dirV p off d, .int .i64 I] w fun r w' => r = .returned (.tuple #[.int .i64 0, .int .i64 101]) ∧ AS w0 p x lim ps L w' := by
  have hdl := hD.dl
  have hlen := hD.len
  have hob := hD.ob
  replace hI := Lib.hid hI
  have hA := Lib.hid (h.alloc (.cells #[.pointer (some ⟨p, 0, none⟩), .int .i64 (off : Int), .int .i64 (d : Int)] 92))
  clear h
  unfold dirV
  replace hD := Lib.hid hD
  replace hlen := Lib.hid hlen
  have hd7 : d = 0 ∨ d = 1 ∨ d = 2 ∨ d = 3 ∨ d = 4 ∨ d = 5 ∨ d = 6 := by omega
  rcases hd7 with rfl | rfl | rfl | rfl | rfl | rfl | rfl
  · rw [show (((0 : Nat) : Int)) = 0 from rfl] at hA ⊢
    have hway : I < 0 ∨ (¬ I < 0 ∧ (1 : Int) ≤ I) := by
      have h2 : (((2 ^ 0 : Nat)) : Int) = 1 := rfl
      have h3 := hI.out
      rw [h2] at h3
      omega
    rcases hway with i1 | ⟨i0, i1⟩
    iterate 2
      · go_enter Try.func52, Try.ntmps52
        go_wp2_with (first
          | (go_at_call 87; refine (dir_deep off 0 hdl _ _ rfl _ _ ⟨_, rfl⟩ ⟨_, rfl⟩).mono ?_; rintro r w1 ⟨rfl, hb⟩; obtain ⟨hc, hf⟩ := bcell hb; have hA1 := hA.out.keep hb)
          | fail)
        go_ret2
        exact ⟨rfl, hA1⟩
  · rw [show (((1 : Nat) : Int)) = 1 from rfl] at hA ⊢
    have hway : I < 0 ∨ (¬ I < 0 ∧ (2 : Int) ≤ I) := by
      have h2 : (((2 ^ 1 : Nat)) : Int) = 2 := rfl
      have h3 := hI.out
      rw [h2] at h3
      omega
    rcases hway with i1 | ⟨i0, i1⟩
    iterate 2
      · go_enter Try.func52, Try.ntmps52
        go_wp2_with (first
          | (go_at_call 87; refine (dir_deep off 1 hdl _ _ rfl _ _ ⟨_, rfl⟩ ⟨_, rfl⟩).mono ?_; rintro r w1 ⟨rfl, hb⟩; obtain ⟨hc, hf⟩ := bcell hb; have hA1 := hA.out.keep hb)
          | fail)
        go_ret2
        exact ⟨rfl, hA1⟩
  · rw [show (((2 : Nat) : Int)) = 2 from rfl] at hA ⊢
    have hway : I < 0 ∨ (¬ I < 0 ∧ (4 : Int) ≤ I) := by
      have h2 : (((2 ^ 2 : Nat)) : Int) = 4 := rfl
      have h3 := hI.out
      rw [h2] at h3
      omega
    rcases hway with i1 | ⟨i0, i1⟩
    iterate 2
      · go_enter Try.func52, Try.ntmps52
        go_wp2_with (first
          | (go_at_call 87; refine (dir_deep off 2 hdl _ _ rfl _ _ ⟨_, rfl⟩ ⟨_, rfl⟩).mono ?_; rintro r w1 ⟨rfl, hb⟩; obtain ⟨hc, hf⟩ := bcell hb; have hA1 := hA.out.keep hb)
          | fail)
        go_ret2
        exact ⟨rfl, hA1⟩
  · rw [show (((3 : Nat) : Int)) = 3 from rfl] at hA ⊢
    have hway : I < 0 ∨ (¬ I < 0 ∧ (8 : Int) ≤ I) := by
      have h2 : (((2 ^ 3 : Nat)) : Int) = 8 := rfl
      have h3 := hI.out
      rw [h2] at h3
      omega
    rcases hway with i1 | ⟨i0, i1⟩
    iterate 2
      · go_enter Try.func52, Try.ntmps52
        go_wp2_with (first
          | (go_at_call 87; refine (dir_deep off 3 hdl _ _ rfl _ _ ⟨_, rfl⟩ ⟨_, rfl⟩).mono ?_; rintro r w1 ⟨rfl, hb⟩; obtain ⟨hc, hf⟩ := bcell hb; have hA1 := hA.out.keep hb)
          | fail)
        go_ret2
        exact ⟨rfl, hA1⟩
  · rw [show (((4 : Nat) : Int)) = 4 from rfl] at hA ⊢
    have hway : I < 0 ∨ (¬ I < 0 ∧ (16 : Int) ≤ I) := by
      have h2 : (((2 ^ 4 : Nat)) : Int) = 16 := rfl
      have h3 := hI.out
      rw [h2] at h3
      omega
    rcases hway with i1 | ⟨i0, i1⟩
    iterate 2
      · go_enter Try.func52, Try.ntmps52
        go_wp2_with (first
          | (go_at_call 87; refine (dir_deep off 4 hdl _ _ rfl _ _ ⟨_, rfl⟩ ⟨_, rfl⟩).mono ?_; rintro r w1 ⟨rfl, hb⟩; obtain ⟨hc, hf⟩ := bcell hb; have hA1 := hA.out.keep hb)
          | fail)
        go_ret2
        exact ⟨rfl, hA1⟩
  · rw [show (((5 : Nat) : Int)) = 5 from rfl] at hA ⊢
    have hway : I < 0 ∨ (¬ I < 0 ∧ (32 : Int) ≤ I) := by
      have h2 : (((2 ^ 5 : Nat)) : Int) = 32 := rfl
      have h3 := hI.out
      rw [h2] at h3
      omega
    rcases hway with i1 | ⟨i0, i1⟩
    iterate 2
      · go_enter Try.func52, Try.ntmps52
        go_wp2_with (first
          | (go_at_call 87; refine (dir_deep off 5 hdl _ _ rfl _ _ ⟨_, rfl⟩ ⟨_, rfl⟩).mono ?_; rintro r w1 ⟨rfl, hb⟩; obtain ⟨hc, hf⟩ := bcell hb; have hA1 := hA.out.keep hb)
          | fail)
        go_ret2
        exact ⟨rfl, hA1⟩
  · rw [show (((6 : Nat) : Int)) = 6 from rfl] at hA ⊢
    have hway : I < 0 ∨ (¬ I < 0 ∧ (64 : Int) ≤ I) := by
      have h2 : (((2 ^ 6 : Nat)) : Int) = 64 := rfl
      have h3 := hI.out
      rw [h2] at h3
      omega
    rcases hway with i1 | ⟨i0, i1⟩
    iterate 2
      · go_enter Try.func52, Try.ntmps52
        go_wp2_with (first
          | (go_at_call 87; refine (dir_deep off 6 hdl _ _ rfl _ _ ⟨_, rfl⟩ ⟨_, rfl⟩).mono ?_; rintro r w1 ⟨rfl, hb⟩; obtain ⟨hc, hf⟩ := bcell hb; have hA1 := hA.out.keep hb)
          | fail)
        go_ret2
        exact ⟨rfl, hA1⟩
end Go.Proofs.Ytpbalilnemjeeaa
