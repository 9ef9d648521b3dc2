/- What is proved here: what Parse says of a right descriptor with one number turned. Plain law. -/
import Derived.Test.YtlfppmdehkhjiaaLPlain2
namespace Go.Proofs.Ytlfppmdehkhjiaa.Pl
set_option linter.unusedVariables false
set_option linter.unusedSimpArgs false
open Go
theorem alF_no {w a : Int} (ha : a = 1 ∨ a = 2 ∨ a = 4 ∨ a = 8) (h : alF w a = false) : Int.tmod w a ≠ 0 := by
  intro h0
  unfold alF at h
  rw [pw18' ha, h0] at h
  simp at h
theorem alF_yes {w a : Int} (ha : a = 1 ∨ a = 2 ∨ a = 4 ∨ a = 8) (h : Int.tmod w a = 0) : alF w a = true := by
  unfold alF
  rw [pw18' ha, h]; rfl
theorem parsed_zero {k e ka ea c er : Int} (h : perr k e ka ea c = er) (h0 : er ≠ 0) : parsed k e ka ea c = LV.zero := by
  unfold parsed
  rw [h, if_neg h0]
theorem turn0 {k e ka ea c : Int} (g : Good k e ka ea c) (X : Int) : Good X e ka ea c ∨ (perr X e ka ea c = 31 ∧ (X < 1 ∨ 128 < X)) ∨ (perr X e ka ea c = 33 ∧ 1 ≤ X ∧ X ≤ 128 ∧ Int.tmod X ka ≠ 0) := by
  by_cases h : perr X e ka ea c = 0
  · exact .inl (perr_zero.1 h)
  by_cases h1 : X < 1 ∨ 128 < X
  · exact .inr (.inl ⟨by unfold perr; rw [if_pos h1], h1⟩)
  cases h2 : alF X ka with
  | true =>
    exfalso
    have a2 := alF_yes g.eav g.ed
    have k1 := g.e1; have k2 := g.e2
    exact h (by unfold perr; rw [if_neg h1, if_neg (by omega), if_neg (by simp [h2, a2]), if_neg (by simp [g.c])])
  | false =>
    have k1 := g.e1; have k2 := g.e2
    exact .inr (.inr ⟨by unfold perr; rw [if_neg h1, if_neg (by omega), if_pos (.inl h2)], by omega, by omega, alF_no g.kav h2⟩)
theorem turn1 {k e ka ea c : Int} (g : Good k e ka ea c) (X : Int) : Good k X ka ea c ∨ (perr k X ka ea c = 32 ∧ (X < 0 ∨ 128 < X)) ∨ (perr k X ka ea c = 33 ∧ 0 ≤ X ∧ X ≤ 128 ∧ Int.tmod X ea ≠ 0) := by
  have k1 := g.k1; have k2 := g.k2
  by_cases h : perr k X ka ea c = 0
  · exact .inl (perr_zero.1 h)
  by_cases h1 : X < 0 ∨ 128 < X
  · exact .inr (.inl ⟨by unfold perr; rw [if_neg (by omega), if_pos h1], h1⟩)
  have a2 := alF_yes g.kav g.kd
  cases h2 : alF X ea with
  | true =>
    exfalso
    exact h (by unfold perr; rw [if_neg (by omega), if_neg h1, if_neg (by simp [h2, a2]), if_neg (by simp [g.c])])
  | false =>
    exact .inr (.inr ⟨by unfold perr; rw [if_neg (by omega), if_neg h1, if_pos (.inr h2)], by omega, by omega, alF_no g.eav h2⟩)
theorem turn2 {k e ka ea c : Int} (g : Good k e ka ea c) (X : Int) : Good k e X ea c ∨ perr k e X ea c = 33 := by
  have k1 := g.k1; have k2 := g.k2; have e1 := g.e1; have e2 := g.e2
  by_cases h : perr k e X ea c = 0
  · exact .inl (perr_zero.1 h)
  have a2 := alF_yes g.eav g.ed
  cases h2 : alF k X with
  | true => exact absurd (by unfold perr; rw [if_neg (by omega), if_neg (by omega), if_neg (by simp [h2, a2]), if_neg (by simp [g.c])]) h
  | false => exact .inr (by unfold perr; rw [if_neg (by omega), if_neg (by omega), if_pos (.inl h2)])
theorem turn3 {k e ka ea c : Int} (g : Good k e ka ea c) (X : Int) : Good k e ka X c ∨ perr k e ka X c = 33 := by
  have k1 := g.k1; have k2 := g.k2; have e1 := g.e1; have e2 := g.e2
  by_cases h : perr k e ka X c = 0
  · exact .inl (perr_zero.1 h)
  have a2 := alF_yes g.kav g.kd
  cases h2 : alF e X with
  | true => exact absurd (by unfold perr; rw [if_neg (by omega), if_neg (by omega), if_neg (by simp [h2, a2]), if_neg (by simp [g.c])]) h
  | false => exact .inr (by unfold perr; rw [if_neg (by omega), if_neg (by omega), if_pos (.inr h2)])
theorem turn4 {k e ka ea c : Int} (g : Good k e ka ea c) (X : Int) : Good k e ka ea X ∨ perr k e ka ea X = 34 := by
  have k1 := g.k1; have k2 := g.k2; have e1 := g.e1; have e2 := g.e2
  by_cases h : perr k e ka ea X = 0
  · exact .inl (perr_zero.1 h)
  have a1 := alF_yes g.kav g.kd
  have a2 := alF_yes g.eav g.ed
  cases h2 : pwF X 16 1024 with
  | true => exact absurd (by unfold perr; rw [if_neg (by omega), if_neg (by omega), if_neg (by simp [a1, a2]), if_neg (by simp [h2])]) h
  | false => exact .inr (by unfold perr; rw [if_neg (by omega), if_neg (by omega), if_neg (by simp [a1, a2]), if_pos h2])
end Go.Proofs.Ytlfppmdehkhjiaa.Pl
