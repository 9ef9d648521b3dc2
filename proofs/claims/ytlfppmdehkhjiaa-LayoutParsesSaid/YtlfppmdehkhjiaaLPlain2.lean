/- What is proved here: plain facts on layouts: what is right of a descriptor that is not refused; where a thing lies. No condition. -/
import Derived.Test.YtlfppmdehkhjiaaLPlain
namespace Go.Proofs.Ytlfppmdehkhjiaa.Pl
set_option linter.unusedVariables false
set_option linter.unusedSimpArgs false
open Go
theorem alF_of {w a : Int} (h : alF w a = true) : (a = 1 ∨ a = 2 ∨ a = 4 ∨ a = 8) ∧ Int.tmod w a = 0 := by
  unfold alF at h; simp only [Bool.and_eq_true, beq_iff_eq] at h; exact ⟨pw18 h.1, h.2⟩
/-- what is right of a descriptor that is not refused -/
structure Good (k e ka ea c : Int) : Prop where
  k1 : 1 ≤ k
  k2 : k ≤ 128
  e1 : 0 ≤ e
  e2 : e ≤ 128
  kav : ka = 1 ∨ ka = 2 ∨ ka = 4 ∨ ka = 8
  eav : ea = 1 ∨ ea = 2 ∨ ea = 4 ∨ ea = 8
  kd : Int.tmod k ka = 0
  ed : Int.tmod e ea = 0
  c : pwF c 16 1024 = true
theorem perr_zero {k e ka ea c : Int} : perr k e ka ea c = 0 ↔ Good k e ka ea c := by
  unfold perr
  constructor
  · intro h
    split at h
    · cases h
    split at h
    · cases h
    split at h
    · cases h
    split at h
    · cases h
    rename_i h1 h2 h3 h4
    have a1 : alF k ka = true := by cases x : alF k ka <;> simp [x] at h3 ⊢
    have a2 : alF e ea = true := by cases x : alF e ea <;> simp [x] at h3 ⊢
    have a3 : pwF c 16 1024 = true := by cases x : pwF c 16 1024 <;> simp [x] at h4 ⊢
    obtain ⟨b1, b2⟩ := alF_of a1
    obtain ⟨b3, b4⟩ := alF_of a2
    exact ⟨by omega, by omega, by omega, by omega, b1, b3, b2, b4, a3⟩
  · intro g
    have a1 : alF k ka = true := by unfold alF; rw [pw18' g.kav, g.kd]; rfl
    have a2 : alF e ea = true := by unfold alF; rw [pw18' g.eav, g.ed]; rfl
    have k1 := g.k1; have k2 := g.k2; have e1 := g.e1; have e2 := g.e2
    rw [if_neg (by omega), if_neg (by omega), if_neg (by simp [a1, a2]), if_neg (by simp [g.c])]
/-- the last four numbers' bounds -/
theorem lay_bounds {k e ka ea c : Int} (g : Good k e ka ea c) : k ≤ up k ea ∧ up k ea ≤ 135 ∧ up k ea + e ≤ up (up k ea + e) 8 ∧ up (up k ea + e) 8 ≤ 270 := by
  have k1 := g.k1; have k2 := g.k2; have e1 := g.e1; have e2 := g.e2
  have u1 := up_bound k ea (by omega) g.eav
  have u2 := up_bound (up k ea + e) 8 (by omega) (by omega)
  have := g.eav
  omega
theorem valid_bounds {l : LV} (h : l.validB = true) : Good l.k l.e l.ka l.ea l.c ∧ l.eo = up l.k l.ea ∧ l.bo = up (l.eo + l.e) 8 ∧ l.sl = l.bo + 8 ∧ l.gr = 8 + 8 * l.sl ∧ 1 ≤ l.eo ∧ l.eo ≤ 135 ∧ l.eo + l.e ≤ l.bo ∧ l.bo ≤ 270 := by
  obtain ⟨h1, h2⟩ := (LV.validB_iff l).1 h
  have g := perr_zero.1 h1
  have b := lay_bounds g
  have k1 := g.k1
  have q1 := congrArg LV.eo h2; have q2 := congrArg LV.bo h2; have q3 := congrArg LV.sl h2; have q4 := congrArg LV.gr h2
  simp only [lay] at q1 q2 q3 q4
  refine ⟨g, q1.symm, ?_, ?_, ?_, by omega, by omega, by omega, by omega⟩
  · rw [← q1]; exact q2.symm
  · rw [← q2]; exact q3.symm
  · rw [← q3]; exact q4.symm
/-- where a thing of slot i lies that has that offset -/
def placeF (l : LV) (i off : Int) : Int := if 0 ≤ i ∧ i ≤ 7 ∧ l.validB = true then 8 + i * l.sl + off else -1
def groupsF (l : LV) (n : Int) : Int := if pwF n 8 65536 = true ∧ l.validB = true then n / 8 * l.gr else -1
end Go.Proofs.Ytlfppmdehkhjiaa.Pl
namespace Go.Proofs.Ytlfppmdehkhjiaa.Pl
open Go Go.RowKit
theorem shl_small (a : Nat) (h : a ≤ 6) : wrap64 (2 ^ a) = 2 ^ a ∧ wrap64 (16 * 2 ^ a) = 16 * 2 ^ a ∧ (1 : Int) ≤ 2 ^ a ∧ (2 : Int) ^ a ≤ 64 := by
  rcases (by omega : a = 0 ∨ a = 1 ∨ a = 2 ∨ a = 3 ∨ a = 4 ∨ a = 5 ∨ a = 6) with rfl | rfl | rfl | rfl | rfl | rfl | rfl <;> decide
theorem shl_cap (c : Nat) (h : c ≤ 6) : IntKind.i64.wrap (16 * 2 ^ min c 64) = 16 * 2 ^ c := by
  rcases (by omega : c = 0 ∨ c = 1 ∨ c = 2 ∨ c = 3 ∨ c = 4 ∨ c = 5 ∨ c = 6) with rfl | rfl | rfl | rfl | rfl | rfl | rfl <;> decide
theorem cap_small (a : Nat) (h : a ≤ 6) : pwF (16 * 2 ^ a) 16 1024 = true := by
  rcases (by omega : a = 0 ∨ a = 1 ∨ a = 2 ∨ a = 3 ∨ a = 4 ∨ a = 5 ∨ a = 6) with rfl | rfl | rfl | rfl | rfl | rfl | rfl <;> decide
theorem good_of (ka ea k e c kq eq : Int) (h1 : ka = 1 ∨ ka = 2 ∨ ka = 4 ∨ ka = 8) (h2 : ea = 1 ∨ ea = 2 ∨ ea = 4 ∨ ea = 8) (h3 : k = ka * (1 + kq)) (h4 : 0 ≤ kq) (h5 : kq < 128 / ka) (h6 : e = ea * eq) (h7 : 0 ≤ eq) (h8 : eq < 128 / ea + 1) (hc : pwF c 16 1024 = true) : Good k e ka ea c := by
  refine ⟨?_, ?_, ?_, ?_, h1, h2, ?_, ?_, hc⟩
  · rcases h1 with rfl | rfl | rfl | rfl <;> omega
  · rcases h1 with rfl | rfl | rfl | rfl <;> omega
  · rcases h2 with rfl | rfl | rfl | rfl <;> omega
  · rcases h2 with rfl | rfl | rfl | rfl <;> omega
  · rw [h3]; exact Int.mul_tmod_right ka _
  · rw [h6]; exact Int.mul_tmod_right ea _
end Go.Proofs.Ytlfppmdehkhjiaa.Pl
namespace Go.Proofs.Ytlfppmdehkhjiaa.Pl
open Go
/-- the last four numbers of a right descriptor's layout, and what is true of them -/
structure Last (k e ka ea c eo bo sl gr : Int) : Prop where
  parsed : parsed k e ka ea c = ⟨k, e, ka, ea, c, eo, bo, sl, gr⟩
  eo1 : k ≤ eo
  eo2 : eo - k < ea
  eo3 : Int.tmod eo ea = 0
  bo1 : eo + e ≤ bo
  bo2 : bo - eo - e ≤ 7
  bo3 : bo % 8 = 0
  slv : sl = bo + 8
  grv : gr = 8 * sl + 8
  ea0 : 1 ≤ ea
  ea8 : ea ≤ 8
  eoT : eo ≤ 135
  boT : bo ≤ 270
theorem last_of {k e ka ea c : Int} (g : Good k e ka ea c) : ∃ eo bo sl gr, Last k e ka ea c eo bo sl gr := by
  have b := lay_bounds g
  have k1 := g.k1; have k2 := g.k2; have e1 := g.e1; have e2 := g.e2
  have u1 := up_bound k ea (by omega) g.eav
  have u2 := up_bound (up k ea + e) 8 (by omega) (by omega)
  have hea := g.eav
  refine ⟨up k ea, up (up k ea + e) 8, up (up k ea + e) 8 + 8, 8 + 8 * (up (up k ea + e) 8 + 8), ?_, by omega, by omega, ?_, by omega, by omega, ?_, rfl, by omega, by omega, by omega, by omega, by omega⟩
  · unfold Pl.parsed; rw [if_pos (perr_zero.2 g)]; rfl
  · unfold up; exact Int.mul_tmod_left _ _
  · unfold up; omega
end Go.Proofs.Ytlfppmdehkhjiaa.Pl
namespace Go.Proofs.Ytlfppmdehkhjiaa.Pl
open Go
theorem Last.valid {k e ka ea c eo bo sl gr : Int} (L : Last k e ka ea c eo bo sl gr) (g : Good k e ka ea c) : LV.validB ⟨k, e, ka, ea, c, eo, bo, sl, gr⟩ = true := by
  rw [LV.validB_iff]
  refine ⟨perr_zero.2 g, ?_⟩
  have := L.parsed
  unfold Pl.parsed at this
  rw [if_pos (perr_zero.2 g)] at this
  exact this
theorem place_in {l : LV} (h : l.validB = true) (i off : Int) (h0 : 0 ≤ i) (h1 : i ≤ 7) : placeF l i off = 8 + i * l.sl + off := by
  unfold placeF; rw [if_pos ⟨h0, h1, h⟩]
theorem place_no {l : LV} (i off : Int) (h : i < 0 ∨ 7 < i ∨ l.validB = false) : placeF l i off = -1 := by
  unfold placeF; rw [if_neg]; rintro ⟨a, b, c⟩; rcases h with h | h | h
  · omega
  · omega
  · rw [c] at h; cases h
theorem groups_in {l : LV} (h : l.validB = true) (n : Int) (hp : isP n = true) (h0 : 8 ≤ n) (h1 : n ≤ 65536) : groupsF l n = n / 8 * l.gr := by
  unfold groupsF; rw [if_pos ⟨by unfold pwF; simp [hp, h0, h1], h⟩]
theorem groups_no {l : LV} (n : Int) (h : isP n = false ∨ n < 8 ∨ 65536 < n ∨ l.validB = false) : groupsF l n = -1 := by
  unfold groupsF; rw [if_neg]; rintro ⟨a, b⟩
  unfold pwF at a
  simp only [Bool.and_eq_true, decide_eq_true_eq] at a
  rcases h with h | h | h | h
  · rw [a.2] at h; cases h
  · omega
  · omega
  · rw [b] at h; cases h
/-- of each power from 8 to 32768 -/
theorem isP_next {t : Int} (h : isP t = true) (h0 : 8 ≤ t) (h1 : t < 65536) : isP (2 * t) = true ∧ isP (t + 1) = false ∧ isP (2 * t - 1) = false ∧ 2 * t ≤ 65536 ∧ 2 * t / 8 = 2 * (t / 8) := by
  simp only [isP, Bool.or_eq_true, beq_iff_eq] at h
  rcases (by omega : t = 8 ∨ t = 16 ∨ t = 32 ∨ t = 64 ∨ t = 128 ∨ t = 256 ∨ t = 512 ∨ t = 1024 ∨ t = 2048 ∨ t = 4096 ∨ t = 8192 ∨ t = 16384 ∨ t = 32768) with rfl | rfl | rfl | rfl | rfl | rfl | rfl | rfl | rfl | rfl | rfl | rfl | rfl <;> decide
end Go.Proofs.Ytlfppmdehkhjiaa.Pl
