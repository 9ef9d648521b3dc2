/- What is proved here: Entry of a directory, told by the blocks that it leaves. Conditions: the directory is there. -/
import Derived.Test.YtpbalilnemjeeaaDEntry
namespace Go.Proofs.Ytpbalilnemjeeaa
set_option linter.unusedVariables false
set_option linter.unusedSimpArgs false
open Go.RowKit Pm Pa Pl Pd
set_option maxHeartbeats 2000000 in
theorem entry_in2 {w : World} {p : Nat} {x : Loc} {lim : Nat} {ps : Parts} {L : List UInt8} (h : ArAt w p x lim ps L) {off d : Nat} {es : List Int} (hD : DirAt ps L off d es) (i : Nat) (e : Int) (hi : es[i]? = some e) (I : Int) (hI : I = i) :
    Calls Try.prog 52 #[dirV p off d, .int .i64 I] w fun r w' => r = .returned (.tuple #[.int .i64 e, .int .i64 0]) ∧ Below w.heap.size w w' := by
  have hdl := hD.dl
  have hlen := hD.len
  have hob := hD.ob
  subst hI
  have hlt : i < 2 ^ d := by rw [← hlen]; exact (List.getElem?_eq_some_iff.1 hi).1
  have he := Lib.hid hi
  clear hi
  have hle := pow64 hdl
  have hA := Lib.hid (h.alloc (.cells #[.pointer (some ⟨p, 0, none⟩), .int .i64 (off : Int), .int .i64 (d : Int)] 92))
  have hB := (Below.refl w.heap.size w).alloc (Nat.le_refl _) (.cells #[.pointer (some ⟨p, 0, none⟩), .int .i64 (off : Int), .int .i64 (d : Int)] 92)
  clear h
  unfold dirV
  replace hD := Lib.hid hD
  replace hlen := Lib.hid hlen
  have hd7 : d = 0 ∨ d = 1 ∨ d = 2 ∨ d = 3 ∨ d = 4 ∨ d = 5 ∨ d = 6 := by omega
  rcases hd7 with rfl | rfl | rfl | rfl | rfl | rfl | rfl
  · rw [show (((0 : Nat) : Int)) = 0 from rfl] at hA hB ⊢
    have i0 : (0 : Int) ≤ i := by omega
    have i1 : (i : Int) < 1 := by have : i < 1 := hlt; omega
    go_enter Try.func52, Try.ntmps52
    go_wp2_with (first
      | (go_at_call 87; refine (dir_deep off 0 hdl _ _ rfl _ _ ⟨_, rfl⟩ ⟨_, rfl⟩).mono ?_; rintro r w1 ⟨rfl, hb⟩; obtain ⟨hc, hf⟩ := bcell hb; have hA1 := hA.out.keep hb; have hB1 := Below.then hB hb)
      | (go_at_call 88; refine (dir_word' hA1 off 0 i e (hD.out.ins i hlt) (by omega) (hD.out.wd i e he.out) (hD.out.rng e (List.mem_of_getElem? he.out)) _ _ rfl rfl).mono ?_; rintro r w2 ⟨rfl, hb2⟩)
      | fail)
    go_ret2
    exact ⟨rfl, Below.then hB1 hb2⟩
  · rw [show (((1 : Nat) : Int)) = 1 from rfl] at hA hB ⊢
    have i0 : (0 : Int) ≤ i := by omega
    have i1 : (i : Int) < 2 := by have : i < 2 := hlt; omega
    go_enter Try.func52, Try.ntmps52
    go_wp2_with (first
      | (go_at_call 87; refine (dir_deep off 1 hdl _ _ rfl _ _ ⟨_, rfl⟩ ⟨_, rfl⟩).mono ?_; rintro r w1 ⟨rfl, hb⟩; obtain ⟨hc, hf⟩ := bcell hb; have hA1 := hA.out.keep hb; have hB1 := Below.then hB hb)
      | (go_at_call 88; refine (dir_word' hA1 off 1 i e (hD.out.ins i hlt) (by omega) (hD.out.wd i e he.out) (hD.out.rng e (List.mem_of_getElem? he.out)) _ _ rfl rfl).mono ?_; rintro r w2 ⟨rfl, hb2⟩)
      | fail)
    go_ret2
    exact ⟨rfl, Below.then hB1 hb2⟩
  · rw [show (((2 : Nat) : Int)) = 2 from rfl] at hA hB ⊢
    have i0 : (0 : Int) ≤ i := by omega
    have i1 : (i : Int) < 4 := by have : i < 4 := hlt; omega
    go_enter Try.func52, Try.ntmps52
    go_wp2_with (first
      | (go_at_call 87; refine (dir_deep off 2 hdl _ _ rfl _ _ ⟨_, rfl⟩ ⟨_, rfl⟩).mono ?_; rintro r w1 ⟨rfl, hb⟩; obtain ⟨hc, hf⟩ := bcell hb; have hA1 := hA.out.keep hb; have hB1 := Below.then hB hb)
      | (go_at_call 88; refine (dir_word' hA1 off 2 i e (hD.out.ins i hlt) (by omega) (hD.out.wd i e he.out) (hD.out.rng e (List.mem_of_getElem? he.out)) _ _ rfl rfl).mono ?_; rintro r w2 ⟨rfl, hb2⟩)
      | fail)
    go_ret2
    exact ⟨rfl, Below.then hB1 hb2⟩
  · rw [show (((3 : Nat) : Int)) = 3 from rfl] at hA hB ⊢
    have i0 : (0 : Int) ≤ i := by omega
    have i1 : (i : Int) < 8 := by have : i < 8 := hlt; omega
    go_enter Try.func52, Try.ntmps52
    go_wp2_with (first
      | (go_at_call 87; refine (dir_deep off 3 hdl _ _ rfl _ _ ⟨_, rfl⟩ ⟨_, rfl⟩).mono ?_; rintro r w1 ⟨rfl, hb⟩; obtain ⟨hc, hf⟩ := bcell hb; have hA1 := hA.out.keep hb; have hB1 := Below.then hB hb)
      | (go_at_call 88; refine (dir_word' hA1 off 3 i e (hD.out.ins i hlt) (by omega) (hD.out.wd i e he.out) (hD.out.rng e (List.mem_of_getElem? he.out)) _ _ rfl rfl).mono ?_; rintro r w2 ⟨rfl, hb2⟩)
      | fail)
    go_ret2
    exact ⟨rfl, Below.then hB1 hb2⟩
  · rw [show (((4 : Nat) : Int)) = 4 from rfl] at hA hB ⊢
    have i0 : (0 : Int) ≤ i := by omega
    have i1 : (i : Int) < 16 := by have : i < 16 := hlt; omega
    go_enter Try.func52, Try.ntmps52
    go_wp2_with (first
      | (go_at_call 87; refine (dir_deep off 4 hdl _ _ rfl _ _ ⟨_, rfl⟩ ⟨_, rfl⟩).mono ?_; rintro r w1 ⟨rfl, hb⟩; obtain ⟨hc, hf⟩ := bcell hb; have hA1 := hA.out.keep hb; have hB1 := Below.then hB hb)
      | (go_at_call 88; refine (dir_word' hA1 off 4 i e (hD.out.ins i hlt) (by omega) (hD.out.wd i e he.out) (hD.out.rng e (List.mem_of_getElem? he.out)) _ _ rfl rfl).mono ?_; rintro r w2 ⟨rfl, hb2⟩)
      | fail)
    go_ret2
    exact ⟨rfl, Below.then hB1 hb2⟩
  · rw [show (((5 : Nat) : Int)) = 5 from rfl] at hA hB ⊢
    have i0 : (0 : Int) ≤ i := by omega
    have i1 : (i : Int) < 32 := by have : i < 32 := hlt; omega
    go_enter Try.func52, Try.ntmps52
    go_wp2_with (first
      | (go_at_call 87; refine (dir_deep off 5 hdl _ _ rfl _ _ ⟨_, rfl⟩ ⟨_, rfl⟩).mono ?_; rintro r w1 ⟨rfl, hb⟩; obtain ⟨hc, hf⟩ := bcell hb; have hA1 := hA.out.keep hb; have hB1 := Below.then hB hb)
      | (go_at_call 88; refine (dir_word' hA1 off 5 i e (hD.out.ins i hlt) (by omega) (hD.out.wd i e he.out) (hD.out.rng e (List.mem_of_getElem? he.out)) _ _ rfl rfl).mono ?_; rintro r w2 ⟨rfl, hb2⟩)
      | fail)
    go_ret2
    exact ⟨rfl, Below.then hB1 hb2⟩
  · rw [show (((6 : Nat) : Int)) = 6 from rfl] at hA hB ⊢
    have i0 : (0 : Int) ≤ i := by omega
    have i1 : (i : Int) < 64 := by have : i < 64 := hlt; omega
    go_enter Try.func52, Try.ntmps52
    go_wp2_with (first
      | (go_at_call 87; refine (dir_deep off 6 hdl _ _ rfl _ _ ⟨_, rfl⟩ ⟨_, rfl⟩).mono ?_; rintro r w1 ⟨rfl, hb⟩; obtain ⟨hc, hf⟩ := bcell hb; have hA1 := hA.out.keep hb; have hB1 := Below.then hB hb)
      | (go_at_call 88; refine (dir_word' hA1 off 6 i e (hD.out.ins i hlt) (by omega) (hD.out.wd i e he.out) (hD.out.rng e (List.mem_of_getElem? he.out)) _ _ rfl rfl).mono ?_; rintro r w2 ⟨rfl, hb2⟩)
      | fail)
    go_ret2
    exact ⟨rfl, Below.then hB1 hb2⟩
set_option maxHeartbeats 2000000 in
theorem entry_out2 {w : World} {p : Nat} {x : Loc} {lim : Nat} {ps : Parts} {L : List UInt8} (h : ArAt w p x lim ps L) {off d : Nat} {es : List Int} (hD : DirAt ps L off d es) (I : Int) (hI : I < 0 ∨ ((2 ^ d : Nat) : Int) ≤ I) :
    Calls Try.prog 52 #[dirV p off d, .int .i64 I] w fun r w' => r = .returned (.tuple #[.int .i64 0, .int .i64 101]) ∧ Below w.heap.size w w' := by
  have hdl := hD.dl
  have hlen := hD.len
  have hob := hD.ob
  replace hI := Lib.hid hI
  have hA := Lib.hid (h.alloc (.cells #[.pointer (some ⟨p, 0, none⟩), .int .i64 (off : Int), .int .i64 (d : Int)] 92))
  have hB := (Below.refl w.heap.size w).alloc (Nat.le_refl _) (.cells #[.pointer (some ⟨p, 0, none⟩), .int .i64 (off : Int), .int .i64 (d : Int)] 92)
  clear h
  unfold dirV
  replace hD := Lib.hid hD
  replace hlen := Lib.hid hlen
  have hd7 : d = 0 ∨ d = 1 ∨ d = 2 ∨ d = 3 ∨ d = 4 ∨ d = 5 ∨ d = 6 := by omega
  rcases hd7 with rfl | rfl | rfl | rfl | rfl | rfl | rfl
  · rw [show (((0 : Nat) : Int)) = 0 from rfl] at hA hB ⊢
    have hway : I < 0 ∨ (¬ I < 0 ∧ (1 : Int) ≤ I) := by
      have h2 : (((2 ^ 0 : Nat)) : Int) = 1 := rfl
      have h3 := hI.out
      rw [h2] at h3
      omega
    rcases hway with i1 | ⟨i0, i1⟩
    iterate 2
      · go_enter Try.func52, Try.ntmps52
        go_wp2_with (first
          | (go_at_call 87; refine (dir_deep off 0 hdl _ _ rfl _ _ ⟨_, rfl⟩ ⟨_, rfl⟩).mono ?_; rintro r w1 ⟨rfl, hb⟩; obtain ⟨hc, hf⟩ := bcell hb; have hA1 := hA.out.keep hb; have hB1 := Below.then hB hb)
          | fail)
        go_ret2
        exact ⟨rfl, hB1⟩
  · rw [show (((1 : Nat) : Int)) = 1 from rfl] at hA hB ⊢
    have hway : I < 0 ∨ (¬ I < 0 ∧ (2 : Int) ≤ I) := by
      have h2 : (((2 ^ 1 : Nat)) : Int) = 2 := rfl
      have h3 := hI.out
      rw [h2] at h3
      omega
    rcases hway with i1 | ⟨i0, i1⟩
    iterate 2
      · go_enter Try.func52, Try.ntmps52
        go_wp2_with (first
          | (go_at_call 87; refine (dir_deep off 1 hdl _ _ rfl _ _ ⟨_, rfl⟩ ⟨_, rfl⟩).mono ?_; rintro r w1 ⟨rfl, hb⟩; obtain ⟨hc, hf⟩ := bcell hb; have hA1 := hA.out.keep hb; have hB1 := Below.then hB hb)
          | fail)
        go_ret2
        exact ⟨rfl, hB1⟩
  · rw [show (((2 : Nat) : Int)) = 2 from rfl] at hA hB ⊢
    have hway : I < 0 ∨ (¬ I < 0 ∧ (4 : Int) ≤ I) := by
      have h2 : (((2 ^ 2 : Nat)) : Int) = 4 := rfl
      have h3 := hI.out
      rw [h2] at h3
      omega
    rcases hway with i1 | ⟨i0, i1⟩
    iterate 2
      · go_enter Try.func52, Try.ntmps52
        go_wp2_with (first
          | (go_at_call 87; refine (dir_deep off 2 hdl _ _ rfl _ _ ⟨_, rfl⟩ ⟨_, rfl⟩).mono ?_; rintro r w1 ⟨rfl, hb⟩; obtain ⟨hc, hf⟩ := bcell hb; have hA1 := hA.out.keep hb; have hB1 := Below.then hB hb)
          | fail)
        go_ret2
        exact ⟨rfl, hB1⟩
  · rw [show (((3 : Nat) : Int)) = 3 from rfl] at hA hB ⊢
    have hway : I < 0 ∨ (¬ I < 0 ∧ (8 : Int) ≤ I) := by
      have h2 : (((2 ^ 3 : Nat)) : Int) = 8 := rfl
      have h3 := hI.out
      rw [h2] at h3
      omega
    rcases hway with i1 | ⟨i0, i1⟩
    iterate 2
      · go_enter Try.func52, Try.ntmps52
        go_wp2_with (first
          | (go_at_call 87; refine (dir_deep off 3 hdl _ _ rfl _ _ ⟨_, rfl⟩ ⟨_, rfl⟩).mono ?_; rintro r w1 ⟨rfl, hb⟩; obtain ⟨hc, hf⟩ := bcell hb; have hA1 := hA.out.keep hb; have hB1 := Below.then hB hb)
          | fail)
        go_ret2
        exact ⟨rfl, hB1⟩
  · rw [show (((4 : Nat) : Int)) = 4 from rfl] at hA hB ⊢
    have hway : I < 0 ∨ (¬ I < 0 ∧ (16 : Int) ≤ I) := by
      have h2 : (((2 ^ 4 : Nat)) : Int) = 16 := rfl
      have h3 := hI.out
      rw [h2] at h3
      omega
    rcases hway with i1 | ⟨i0, i1⟩
    iterate 2
      · go_enter Try.func52, Try.ntmps52
        go_wp2_with (first
          | (go_at_call 87; refine (dir_deep off 4 hdl _ _ rfl _ _ ⟨_, rfl⟩ ⟨_, rfl⟩).mono ?_; rintro r w1 ⟨rfl, hb⟩; obtain ⟨hc, hf⟩ := bcell hb; have hA1 := hA.out.keep hb; have hB1 := Below.then hB hb)
          | fail)
        go_ret2
        exact ⟨rfl, hB1⟩
  · rw [show (((5 : Nat) : Int)) = 5 from rfl] at hA hB ⊢
    have hway : I < 0 ∨ (¬ I < 0 ∧ (32 : Int) ≤ I) := by
      have h2 : (((2 ^ 5 : Nat)) : Int) = 32 := rfl
      have h3 := hI.out
      rw [h2] at h3
      omega
    rcases hway with i1 | ⟨i0, i1⟩
    iterate 2
      · go_enter Try.func52, Try.ntmps52
        go_wp2_with (first
          | (go_at_call 87; refine (dir_deep off 5 hdl _ _ rfl _ _ ⟨_, rfl⟩ ⟨_, rfl⟩).mono ?_; rintro r w1 ⟨rfl, hb⟩; obtain ⟨hc, hf⟩ := bcell hb; have hA1 := hA.out.keep hb; have hB1 := Below.then hB hb)
          | fail)
        go_ret2
        exact ⟨rfl, hB1⟩
  · rw [show (((6 : Nat) : Int)) = 6 from rfl] at hA hB ⊢
    have hway : I < 0 ∨ (¬ I < 0 ∧ (64 : Int) ≤ I) := by
      have h2 : (((2 ^ 6 : Nat)) : Int) = 64 := rfl
      have h3 := hI.out
      rw [h2] at h3
      omega
    rcases hway with i1 | ⟨i0, i1⟩
    iterate 2
      · go_enter Try.func52, Try.ntmps52
        go_wp2_with (first
          | (go_at_call 87; refine (dir_deep off 6 hdl _ _ rfl _ _ ⟨_, rfl⟩ ⟨_, rfl⟩).mono ?_; rintro r w1 ⟨rfl, hb⟩; obtain ⟨hc, hf⟩ := bcell hb; have hA1 := hA.out.keep hb; have hB1 := Below.then hB hb)
          | fail)
        go_ret2
        exact ⟨rfl, hB1⟩
end Go.Proofs.Ytpbalilnemjeeaa
