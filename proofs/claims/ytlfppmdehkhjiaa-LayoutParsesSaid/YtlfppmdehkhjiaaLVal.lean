/- What is proved here: the contracts of layout.Valid and of the places. -/
import Derived.Test.YtlfppmdehkhjiaaLLay
import Derived.Test.YtlfppmdehkhjiaaLEq
namespace Go.Proofs.Ytlfppmdehkhjiaa
set_option linter.unusedVariables false
set_option linter.unusedSimpArgs false
open Go.RowKit Pl
/-- Parse of five numbers, what it answers under names -/
theorem parse_to (b o c : Nat) (k e ka ea cp : Int) (r : LV) (er : Int) (w : World) (hr : parsed k e ka ea cp = r) (he : perr k e ka ea cp = er) (hb : b < w.heap.size) (h0 : w.cell? ⟨b, o, none⟩ = some (.int .i64 k)) (h1 : w.cell? ⟨b, o + 1, none⟩ = some (.int .i64 e)) (h2 : w.cell? ⟨b, o + 2, none⟩ = some (.int .i64 ka)) (h3 : w.cell? ⟨b, o + 3, none⟩ = some (.int .i64 ea)) (h4 : w.cell? ⟨b, o + 4, none⟩ = some (.int .i64 cp)) :
    Calls Try.prog 14 #[.slice (some ⟨b, o, none⟩) 5 c] w fun e' w' => e' = .returned (.tuple #[.agg #[.int .i64 r.k, .int .i64 r.e, .int .i64 r.ka, .int .i64 r.ea, .int .i64 r.c, .int .i64 r.eo, .int .i64 r.bo, .int .i64 r.sl, .int .i64 r.gr], .int .i64 er]) ∧ Below w.heap.size w w' := by
  subst hr; subst he
  exact parse_five b o c k e ka ea cp w hb h0 h1 h2 h3 h4
theorem valid_any (l : LV) (w : World) : Calls Try.prog 18 #[l.val] w fun e w' => e = .returned (.bool l.validB) ∧ Below w.heap.size w w' := by
  obtain ⟨k, e, ka, ea, c, eo, bo, sl, gr⟩ := l
  have hv : Hid (LV.validB ⟨k, e, ka, ea, c, eo, bo, sl, gr⟩ = ((perr k e ka ea c == 0) && LV.beq (parsed k e ka ea c) ⟨k, e, ka, ea, c, eo, bo, sl, gr⟩)) := rfl
  obtain ⟨er, her⟩ : ∃ er, Hid (perr k e ka ea c = er) := ⟨_, rfl⟩
  obtain ⟨⟨p1, p2, p3, p4, p5, p6, p7, p8, p9⟩, hp⟩ : ∃ p, Hid (parsed k e ka ea c = p) := ⟨_, rfl⟩
  have hq := fun w => eql_lay ⟨p1, p2, p3, p4, p5, p6, p7, p8, p9⟩ ⟨k, e, ka, ea, c, eo, bo, sl, gr⟩ w
  have hg := layGuard
  rw [hp.out, her.out] at hv
  replace hv := Lib.hid hv.out
  simp only [LV.val]
  cases hz : (er == 0)
  · go_enter Try.func18, Try.ntmps18
    go_wp2_with fail
    refine (parse_to _ _ _ k e ka ea c _ _ _ hp.out her.out (by simp) (by go_simp) (by go_simp) (by go_simp) (by go_simp) (by go_simp)).mono ?_
    rintro e' w1 ⟨rfl, hb⟩
    obtain ⟨hc, hf⟩ := bcell hb
    have hsz : w.heap.size + 1 < w1.heap.size := by have := hb.size; simp at this; omega
    go_wp2_with fail
    go_ret
    exact ⟨ret_bool (by rw [hv.out, hz]; rfl), (((((Below.refl _ _).alloc (Nat.le_refl _) _).alloc (by simp) _).trans (hb.mono (by simp; omega))).alloc (by omega) _)⟩
  · go_enter Try.func18, Try.ntmps18
    go_wp2_with fail
    refine (parse_to _ _ _ k e ka ea c _ _ _ hp.out her.out (by simp) (by go_simp) (by go_simp) (by go_simp) (by go_simp) (by go_simp)).mono ?_
    rintro e' w1 ⟨rfl, hb⟩
    obtain ⟨hc, hf⟩ := bcell hb
    have hsz : w.heap.size + 1 < w1.heap.size := by have := hb.size; simp at this; omega
    have hsz2 : w.heap.size < w1.heap.size := by omega
    go_wp2_with fail
    go_ret
    exact ⟨ret_bool (by rw [hv.out, hz]; rfl), (((((Below.refl _ _).alloc (Nat.le_refl _) _).alloc (by simp) _).trans (hb.mono (by simp; omega))).alloc (by omega) _)⟩
end Go.Proofs.Ytlfppmdehkhjiaa
