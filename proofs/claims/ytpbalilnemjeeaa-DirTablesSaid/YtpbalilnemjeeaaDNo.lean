/- What is proved here: the refusals of dir.New; Entry; depthOf. No condition. -/
import Derived.Test.YtpbalilnemjeeaaDNew
namespace Go.Proofs.Ytpbalilnemjeeaa
set_option linter.unusedVariables false
set_option linter.unusedSimpArgs false
open Go.RowKit Pm Pa Pl Pd
def noDir : Value := .agg #[.pointer none, .int .i64 0, .int .i64 0]
def isPow (n : Nat) : Prop := ∃ d, d ≤ 6 ∧ n = 2 ^ d
theorem isPow_le {n : Nat} (h : isPow n) : 1 ≤ n ∧ n ≤ 64 := by
  obtain ⟨d, h1, rfl⟩ := h
  exact ⟨Nat.one_le_two_pow, Nat.pow_le_pow_right (by decide) h1⟩
theorem no_end0 {w wf : World} {g4 : Nat} {E : Int} {a : Act} (hB : Blk wf g4 #[.pointer none, .int .i64 0, .int .i64 0] 92) (hT : Below w.heap.size w wf)
    (ha4 : a.tmps[4]? = some (.pointer (some ⟨g4, 0, none⟩))) (ha5 : a.tmps[5]? = some (.int .i64 E)) (had : a.defers = []) :
    bodyPost Try.prog Try.f48 (fun e w' => e = .returned (.tuple #[noDir, .int .i64 E]) ∧ Below w.heap.size w w') .ret a wf := by
  have e0 := hB.cell 0
  have e1 := hB.cell 1
  have e2 := hB.cell 2
  simp at e0 e1 e2
  refine bodyPost_ret (v := .tuple #[noDir, .int .i64 E]) ?_ had ⟨rfl, hT⟩
  simp [results, Try.results48, go_sem, noDir, ha4, ha5, e0, e1, e2]
theorem no_end {w wr : World} {g4 : Nat} {E : Int} {a : Act} (h : Blk wr g4 #[.pointer none, .int .i64 0, .int .i64 0] 92) (hT : Below w.heap.size w wr) (hg : w.heap.size ≤ g4)
    (ha4 : a.tmps[4]? = some (.pointer (some ⟨g4, 0, none⟩))) (ha5 : a.tmps[5]? = some (.int .i64 E)) (had : a.defers = []) :
    bodyPost Try.prog Try.f48 (fun e w' => e = .returned (.tuple #[noDir, .int .i64 E]) ∧ Below w.heap.size w w') .ret a
      (((wr.setCell ⟨g4, 0, none⟩ (.pointer none)).setCell ⟨g4, 1, none⟩ (.int .i64 0)).setCell ⟨g4, 2, none⟩ (.int .i64 0)) := by
  have hB := ((h.set 0 (.pointer none)).set 1 (.int .i64 0)).set 2 (.int .i64 0)
  simp at hB
  exact no_end0 hB (((hT.setCell hg _).setCell hg _).setCell hg _) ha4 ha5 had
set_option maxHeartbeats 1000000 in
theorem dir_new_bad (w : World) (P : Option Addr) (A : Option Addr) (cap n : Nat) (hn : ¬ isPow n) (hbig : n ≤ 9223372036854775807) :
    Calls Try.prog 48 #[.pointer P, .slice A n cap] w fun e w' => e = .returned (.tuple #[noDir, .int .i64 100]) ∧ Below w.heap.size w w' := by
  have hb := Blk.new w #[.pointer none, .int .i64 0, .int .i64 0] 92
  have hw := (Below.refl w.heap.size w).alloc (Nat.le_refl _) (.cells #[.pointer none, .int .i64 0, .int .i64 0] 92)
  have hway : (n : Int) < 1 ∨ (¬ (n : Int) < 1 ∧ (64 : Int) < n) ∨ (¬ (n : Int) < 1 ∧ ¬ (64 : Int) < n ∧ ¬ bits .and .i64 (n : Int) ((n : Int) - 1) = 0) := by
    by_cases h1 : (n : Int) < 1
    · exact .inl h1
    · by_cases h2 : (64 : Int) < n
      · exact .inr (.inl ⟨h1, h2⟩)
      · exact .inr (.inr ⟨h1, h2, fun h3 => hn ((and_two n (by omega) (by omega)).1 h3)⟩)
  rcases hway with h1 | ⟨h1, h2⟩ | ⟨h1, h2, h3⟩
  iterate 3
    · go_enter Try.func48, Try.ntmps48
      go_wp2_with fail
      refine no_end0 hb hw ?_ ?_ ?_
      all_goals rfl
set_option maxHeartbeats 1000000 in
theorem dir_new_full {w : World} {p : Nat} {x : Loc} {lim : Nat} {ps : Parts} {L : List UInt8} (h : ArAt w p x lim ps L) (A : Option Addr) (cap n : Nat) (hn : isPow n) (hl : lim < liveSum ps + clsN (8 * (n : Int))) :
    Calls Try.prog 48 #[.pointer (some ⟨p, 0, none⟩), .slice A n cap] w fun e w' => e = .returned (.tuple #[noDir, .int .i64 22]) ∧ Below w.heap.size w w' := by
  have hb := Blk.new w #[.pointer none, .int .i64 0, .int .i64 0] 92
  have hw := (Below.refl w.heap.size w).alloc (Nat.le_refl _) (.cells #[.pointer none, .int .i64 0, .int .i64 0] 92)
  obtain ⟨hn1, hn64⟩ := isPow_le hn
  have hand := (and_two n hn64 hn1).2 hn
  have g1 : ¬ (n : Int) < 1 := by omega
  have g2 : ¬ (64 : Int) < n := by omega
  have hA := Lib.hid h
  clear h
  go_enter Try.func48, Try.ntmps48
  go_upto_region 6 with (first
    | (go_at_call 28; refine (alloc_mem (hA.out.alloc _) (8 * (n : Int)) (by omega) (.inr hl)).mono ?_; rintro e w2 ⟨rfl, hb2⟩)
    | fail)
  have hB2 := hb.keep hb2
  have hW2 := Below.then hw hb2
  have q0 := hB2.cell 0
  have q1 := hB2.cell 1
  have q2 := hB2.cell 2
  have r0 := hB2.free 0
  have r1 := hB2.free 1
  have r2 := hB2.free 2
  go_wp2_with fail
  refine no_end hB2 hW2 (Nat.le_refl _) ?_ ?_ ?_
  all_goals rfl
end Go.Proofs.Ytpbalilnemjeeaa
