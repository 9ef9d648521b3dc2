/- What is proved here: the walk of the law CtrlLives. -/
import Derived.Test.YtakmaedimelaaaaDoorCCells
import Derived.Deep.CutBlock
namespace Go.Proofs.YtakmaedimelaaaaDoor
set_option linter.unusedVariables false
set_option linter.unusedSimpArgs false
open Go.RowKit Pl
/-- a script of steps in memory -/
def TurnsAt (w : World) (A : Option Addr) (ts : List (Int × Int × Int)) : Prop := ∀ (i : Nat) (t : Int × Int × Int), ts[i]? = some t →
  ∃ g o : Nat, A = some ⟨g, o, none⟩ ∧ w.cell? ⟨g, o + i * 3, none⟩ = some (.int .i64 t.1) ∧ w.cell? ⟨g, o + i * 3 + 1, none⟩ = some (.int .i64 t.2.1) ∧ w.cell? ⟨g, o + i * 3 + 2, none⟩ = some (.int .i64 t.2.2)
structure Lv (w0 : World) (b : Nat) (cs : List Int) (w : World) : Prop where
  below : Below w0.heap.size w0 w
  blk : Blk w b (ci cs) 41
  hb : w0.heap.size ≤ b
section
variable {w0 w w' : World} {b : Nat} {cs : List Int}
theorem Lv.keep (h : Lv w0 b cs w) (hb : Below w.heap.size w w') : Lv w0 b cs w' := ⟨Below.then h.below hb, h.blk.keep hb, h.hb⟩
theorem Lv.drew (h : Lv w0 b cs w) : Lv w0 b cs w.drew := ⟨h.below.drew, h.blk.drew, h.hb⟩
theorem Lv.drewN (h : Lv w0 b cs w) (n : Nat) : Lv w0 b cs (w.drewN n) := ⟨below_drewN h.below n, h.blk.drewN n, h.hb⟩
theorem Lv.set (h : Lv w0 b cs w) (i : Nat) (c : Int) : Lv w0 b (cs.set i c) (w.setCell ⟨b, i, none⟩ (.int .i64 c)) :=
  ⟨h.below.setCell h.hb _, by have := h.blk.set i (.int .i64 c); rwa [ci_set] at this, h.hb⟩
theorem Lv.cell (h : Lv w0 b cs w) (i : Nat) (c : Int) (hc : cs[i]? = some c) : w.cell? ⟨b, i, none⟩ = some (.int .i64 c) := by
  rw [h.blk.cell, ci_get?, hc]; rfl
theorem Lv.free (h : Lv w0 b cs w) (i : Nat) : w.frozen? ⟨b, i, none⟩ = false := h.blk.free i
end
/-- the same, and the step at hand in a block of its own -/
structure Lo (w0 : World) (b : Nat) (cs : List Int) (g : Nat) (k t i : Int) (w : World) : Prop where
  lv : Lv w0 b cs w
  o : Blk w g #[.int .i64 k, .int .i64 t, .int .i64 i] 43
  hg : w0.heap.size ≤ g
  ne : b ≠ g
section
variable {w0 w w' : World} {b g : Nat} {cs : List Int} {k t i : Int}
theorem Lo.keep (h : Lo w0 b cs g k t i w) (hb : Below w.heap.size w w') : Lo w0 b cs g k t i w' := ⟨h.lv.keep hb, h.o.keep hb, h.hg, h.ne⟩
theorem Lo.drew (h : Lo w0 b cs g k t i w) : Lo w0 b cs g k t i w.drew := ⟨h.lv.drew, h.o.drew, h.hg, h.ne⟩
theorem Lo.drewN (h : Lo w0 b cs g k t i w) (n : Nat) : Lo w0 b cs g k t i (w.drewN n) := ⟨h.lv.drewN n, h.o.drewN n, h.hg, h.ne⟩
theorem Lo.set (h : Lo w0 b cs g k t i w) (j : Nat) (c : Int) : Lo w0 b (cs.set j c) g k t i (w.setCell ⟨b, j, none⟩ (.int .i64 c)) := ⟨h.lv.set j c, h.o.other b j _ h.ne, h.hg, h.ne⟩
end
set_option maxRecDepth 100000 in
set_option maxHeartbeats 2000000 in
theorem lives_any (A : Option Addr) (cc : Nat) (ts : List (Int × Int × Int)) (n : Nat) (w : World) (hn : ts.length = n) (ha : TurnsAt w A ts) (hT : Tab w) (hl : n ≤ 9223372036854775807) : Calls Tryd.prog 4 #[.slice A n cc] w fun e w' => e = .returned (.bool true) ∧ Below w.heap.size w w' := by
  go_enter Tryd.func4, Tryd.ntmps4
  go_wp2_with fail
  refine (empty_any _).mono ?_
  rintro e w1 ⟨rfl, hB⟩
  go_wp2_with fail
  have hS : Lv w w1.heap.size (List.replicate 0 (-1) ++ List.replicate 8 0) (w1.alloc (.cells #[.int .i64 0, .int .i64 0, .int .i64 0, .int .i64 0, .int .i64 0, .int .i64 0, .int .i64 0, .int .i64 0] 41)) :=
    ⟨hB.alloc hB.size _, Blk.new _ _ _, hB.size⟩
  obtain ⟨b, hbe⟩ : ∃ b, Hid (b = w1.heap.size) := ⟨_, rfl⟩
  rw [← hbe.out] at hS
  rw [← hbe.out]
  go_loopw [5] (fun i wr => ∃ k : Nat, k ≤ 8 ∧ i = .int .i64 k ∧ Lv w b (List.replicate k (-1) ++ List.replicate (8 - k) 0) wr) (fun i _ => (8 - intOf i).toNat)
  case atStart => exact ⟨0, by decide, rfl, hS⟩
  case round =>
    obtain ⟨k, hk, rfl, hL⟩ := hrel
    by_cases hlt : k < 8
    · have q1 := hL.free k
      have q2 := hL.cell k 0 (by rw [List.getElem?_append_right (by simp)]; simp [List.getElem?_replicate]; omega)
      go_wp2_with fail
      go_roundw
      case rel =>
        refine ⟨k + 1, by omega, by go_num, ?_⟩
        have := hL.set k (-1)
        have e : (List.replicate k (-1 : Int) ++ List.replicate (8 - k) 0).set k (-1) = List.replicate (k + 1) (-1) ++ List.replicate (8 - (k + 1)) 0 := by
          match k, hlt with
          | 0, _ | 1, _ | 2, _ | 3, _ | 4, _ | 5, _ | 6, _ | 7, _ => rfl
        rwa [e] at this
      case measure => simp [intOf]; omega
    · obtain rfl : k = 8 := by omega
      replace hL : Lv w b (List.replicate 8 (-1)) wr := hL
      rw [show (((8 : Nat) : Int)) = 8 from rfl]
      go_wp2_with fail
      go_loopw [3, 23] (fun xv i wr => ∃ (j x : Nat) (cs : List Int), j ≤ n ∧ i = .int .i64 j ∧ xv = .int .u64 x ∧ Hid (OkC cs x) ∧ Lv w b cs wr) (fun _ i _ => (n - intOf i).toNat)
      case atStart => exact ⟨0, _, _, by omega, rfl, rfl, OkC.start, hL⟩
      case round =>
        clear hL hS
        obtain ⟨wo, rfl⟩ : ∃ wo : World, wo = wr := ⟨_, rfl⟩
        obtain ⟨j, x, cs, hj, rfl, rfl, hO, hL⟩ := hrel
        have hx := hO.out.lt
        by_cases hlt : j < n
        · obtain ⟨⟨kd, tg, ix⟩, hsj⟩ : ∃ t, Hid (ts[j]? = some t) := ⟨_, List.getElem?_eq_getElem (by rw [hn]; exact hlt)⟩
          obtain ⟨g, o, rfl, h1, h2, h3⟩ := ha j _ hsj.out
          replace h1 : wo.cell? ⟨g, o + j * 3, none⟩ = _ := (hL.below.cell (p := ⟨g, o + j * 3, none⟩) (World.block_lt_of_cell? w _ h1)).trans h1
          replace h2 : wo.cell? ⟨g, o + j * 3 + 1, none⟩ = _ := (hL.below.cell (p := ⟨g, o + j * 3 + 1, none⟩) (World.block_lt_of_cell? w _ h2)).trans h2
          replace h3 : wo.cell? ⟨g, o + j * 3 + 2, none⟩ = _ := (hL.below.cell (p := ⟨g, o + j * 3 + 2, none⟩) (World.block_lt_of_cell? w _ h3)).trans h3
          go_upto_block 4 with (fail)
          have hO1 : Lo w b cs wo.heap.size kd tg ix (wo.alloc (.cells #[.int .i64 kd, .int .i64 tg, .int .i64 ix] 43)) :=
            ⟨hL.keep ((Below.refl _ _).alloc (Nat.le_refl _) _), Blk.new _ _ _, hL.below.size, by have := hL.blk.lt; omega⟩
          obtain ⟨ob, hob⟩ : ∃ ob, Hid (ob = wo.heap.size) := ⟨_, rfl⟩
          rw [← hob.out] at hO1
          rw [← hob.out]
          generalize wo.alloc (.cells #[.int .i64 kd, .int .i64 tg, .int .i64 ix] 43) = wz at hO1 ⊢
          clear h1 h2 h3 hL hob
          go_cut [3] (fun xv wx => ∃ (x' : Nat) (cs' : List Int), xv = .int .u64 x' ∧ Hid (OkC cs' x') ∧ Lo w b cs' ob kd tg ix wx)
          case first =>
            have o0 := hO1.o.cell 0
            have o1 := hO1.o.cell 1
            have o2 := hO1.o.cell 2
            by_cases c1 : kd = 1 ∧ 0 ≤ tg ∧ tg ≤ 127
            · as_aux_lemma =>
                obtain ⟨rfl, c2, c3⟩ := c1
                go_wp2_with fail
                clear o0 o1 o2
                go_loopw [8] (fun i wr => ∃ k : Nat, k ≤ 8 ∧ i = .int .i64 k ∧ Hid (∀ (i : Nat) (c : Int), i < k → cs[i]? = some c → 0 ≤ c) ∧ Lo w b cs ob 1 tg ix wr) (fun i _ => (8 - intOf i).toNat)
                case atStart => exact ⟨0, by decide, rfl, fun i c hi => by omega, hO1⟩
                case round =>
                  obtain ⟨k, hk, rfl, hall, hO2⟩ := hrel
                  have hgap := fun h2 => Lib.hid (hO.out.gap k hk hall.out h2)
                  by_cases hlt8 : k < 8
                  · obtain ⟨c, hc⟩ : ∃ c : Int, Hid (cs[k]? = some c) := ⟨_, List.getElem?_eq_getElem (by rw [hO.out.len]; exact hlt8)⟩
                    have q1 := hO2.lv.cell k c hc.out
                    have k0 : (0 : Int) ≤ k := by omega
                    have k1 : (k : Int) < 8 := by omega
                    by_cases h0 : 0 ≤ c
                    · clear hgap
                      go_wp2_with fail
                      go_roundw
                      case rel =>
                        refine ⟨k + 1, by omega, by go_num, fun i d hi hd => ?_, hO2⟩
                        by_cases e : i = k
                        · subst e; rw [hc.out] at hd; obtain rfl := Option.some.inj hd; exact h0
                        · exact hall.out i d (by omega) hd
                      case measure => simp [intOf]; omega
                    · replace hgap := hgap (fun d hd => by rw [hc.out] at hd; obtain rfl := Option.some.inj hd; omega)
                      have h0' : ¬ 0 ≤ c := h0
                      go_wp2_with fail
                      clear q1 hO1
                      refine (keeps (matchVacant_any x _ hx) (fun w' hb => hO2.keep hb)).mono ?_
                      rintro e w3 ⟨rfl, hO3⟩
                      go_wp2_with fail
                      refine (keeps (first_to (vac x) k _ (hT.since hO3.lv.below) hgap.out) (fun w' hb => hO3.keep hb)).mono ?_
                      rintro e w4 ⟨rfl, hO4⟩
                      have o1 := hO4.o.cell 1
                      have q1 := hO4.lv.cell k c hc.out
                      have q2 := hO4.lv.free k
                      go_upto_region 18 with (fail)
                      have hO5 := hO4.set k tg
                      clear o1 q1 q2
                      generalize w4.setCell ⟨b, k, none⟩ (.int .i64 tg) = w5 at hO5 ⊢
                      have o1 := hO5.o.cell 1
                      have hs := Lib.hid (hO.out.set hlt8 tg tg.toNat (by omega) c3 (by unfold cwd; rw [if_neg (by omega), if_neg (by omega)]))
                      have hsf : Hid (setF x k tg = setN x k tg.toNat) := by
                        unfold Hid setF; rw [if_pos (by omega), Int.toNat_natCast]
                      go_wp2_with fail
                      refine (set_to x k tg _ _ hx hsf.out).mono ?_
                      rintro e w6 ⟨rfl, m, rfl⟩
                      go_wp2_with fail
                      go_meet
                      case rel => exact ⟨_, _, rfl, hs.out, hO5.drewN m⟩
                  · obtain rfl : k = 8 := by omega
                    replace hgap := hgap (fun d hd => by rw [List.getElem?_eq_none (by rw [hO.out.len]; omega)] at hd; cases hd)
                    go_wp2_with fail
                    clear hO1
                    refine (keeps (matchVacant_any x _ hx) (fun w' hb => hO2.keep hb)).mono ?_
                    rintro e w3 ⟨rfl, hO3⟩
                    go_wp2_with fail
                    refine (keeps (first_to (vac x) 8 _ (hT.since hO3.lv.below) hgap.out) (fun w' hb => hO3.keep hb)).mono ?_
                    rintro e w4 ⟨rfl, hO4⟩
                    go_wp2_with fail
                    go_meet
                    case rel => exact ⟨_, _, rfl, hO.out, hO4⟩
            by_cases c2 : kd = 2
            · as_aux_lemma =>
                subst c2
                by_cases i0 : ix < 0
                · go_wp2_with fail
                  go_meet
                  case rel => exact ⟨_, _, rfl, hO.out, hO1⟩
                by_cases i1 : 7 < ix
                · have i2 : ¬ ix ≤ 7 := by omega
                  go_wp2_with fail
                  go_meet
                  case rel => exact ⟨_, _, rfl, hO.out, hO1⟩
                obtain ⟨i, rfl⟩ := Int.eq_ofNat_of_zero_le (show 0 ≤ ix by omega)
                have hi8 : i < 8 := by omega
                obtain ⟨c, hc⟩ : ∃ c : Int, Hid (cs[i]? = some c) := ⟨_, List.getElem?_eq_getElem (by rw [hO.out.len]; exact hi8)⟩
                have q1 := hO1.lv.cell i c hc.out
                have q2 := hO1.lv.free i
                have i3 : (0 : Int) ≤ i := by omega
                have i4 : (i : Int) ≤ 7 := by omega
                have i5 : (i : Int) < 8 := by omega
                by_cases h0 : 0 ≤ c
                · go_wp2_with fail
                  clear q1 q2 o0 o1 o2
                  refine (keeps (matchEmpty_any x _ hx) (fun w' hb => hO1.keep hb)).mono ?_
                  rintro e w3 ⟨rfl, hO3⟩
                  go_wp2_with fail
                  refine (keeps (count_mask (mat x 128) _) (fun w' hb => hO3.keep hb)).mono ?_
                  rintro e w4 ⟨rfl, hO4⟩
                  have o2 := hO4.o.cell 2
                  have q1 := hO4.lv.cell i c hc.out
                  have q2 := hO4.lv.free i
                  by_cases hp : (0 : Int) < ((cnt (mat x 128) : Nat) : Int)
                  · go_upto_region 24 with (fail)
                    have hO5 := hO4.set i (-1)
                    clear o2 q1 q2
                    generalize w4.setCell ⟨b, i, none⟩ (.int .i64 (-1)) = w5 at hO5 ⊢
                    have o2 := hO5.o.cell 2
                    have hs := Lib.hid (hO.out.set hi8 (-1) 128 (by decide) (by decide) (by decide))
                    have hsf : Hid (setF x i 128 = setN x i 128) := by unfold Hid setF; rw [if_pos (by omega), Int.toNat_natCast]; rfl
                    go_wp2_with fail
                    refine (set_to x i 128 _ _ hx hsf.out).mono ?_
                    rintro e w6 ⟨rfl, m, rfl⟩
                    go_wp2_with fail
                    go_meet
                    case rel => exact ⟨_, _, rfl, hs.out, hO5.drewN m⟩
                  · go_upto_region 24 with (fail)
                    have hO5 := hO4.set i (-2)
                    clear o2 q1 q2
                    generalize w4.setCell ⟨b, i, none⟩ (.int .i64 (-2)) = w5 at hO5 ⊢
                    have o2 := hO5.o.cell 2
                    have hs := Lib.hid (hO.out.set hi8 (-2) 254 (by decide) (by decide) (by decide))
                    have hsf : Hid (setF x i 254 = setN x i 254) := by unfold Hid setF; rw [if_pos (by omega), Int.toNat_natCast]; rfl
                    go_wp2_with fail
                    refine (set_to x i 254 _ _ hx hsf.out).mono ?_
                    rintro e w6 ⟨rfl, m, rfl⟩
                    go_wp2_with fail
                    go_meet
                    case rel => exact ⟨_, _, rfl, hs.out, hO5.drewN m⟩
                · go_wp2_with fail
                  go_meet
                  case rel => exact ⟨_, _, rfl, hO.out, hO1⟩
            by_cases c3 : kd = 3
            · as_aux_lemma =>
                subst c3
                go_wp2_with fail
                clear o0 o1 o2
                refine (keeps (clear_any x _ hx) (fun w' hb => hO1.keep hb)).mono ?_
                rintro e w3 ⟨rfl, hO3⟩
                go_wp2_with fail
                have hcl := Lib.hid hO.out.clr
                go_loopw [11] (fun i wr => ∃ k : Nat, k ≤ 8 ∧ i = .int .i64 k ∧ Lo w b ((cs.take k).map (fun c => if c = -2 then -1 else c) ++ cs.drop k) ob 3 tg ix wr) (fun i _ => (8 - intOf i).toNat)
                case atStart => exact ⟨0, by decide, rfl, hO3⟩
                case round =>
                  clear hO1 hO3
                  obtain ⟨k, hk, rfl, hO2⟩ := hrel
                  by_cases hlt8 : k < 8
                  · obtain ⟨c, hc⟩ : ∃ c : Int, Hid (cs[k]? = some c) := ⟨_, List.getElem?_eq_getElem (by rw [hO.out.len]; exact hlt8)⟩
                    have q1 := hO2.lv.cell k c (map_mid _ cs k c hc.out)
                    have q2 := hO2.lv.free k
                    have hst := Lib.hid (map_step (fun c => if c = -2 then -1 else c) cs k c hc.out)
                    have k0 : (0 : Int) ≤ k := by omega
                    have k1 : (k : Int) < 8 := by omega
                    by_cases h0 : c = -2
                    · subst h0
                      go_wp2_with fail
                      go_roundw
                      case rel => exact ⟨k + 1, by omega, by go_num, by rw [hst.out]; exact hO2.set k (-1)⟩
                      case measure => simp [intOf]; omega
                    · have h0' : (c == -2) = false := by simp [h0]
                      go_wp2_with fail
                      go_roundw
                      case rel =>
                        refine ⟨k + 1, by omega, by go_num, ?_⟩
                        rw [hst.out, set_same _ k _ (by rw [map_mid _ cs k c hc.out, if_neg h0])]
                        exact hO2
                      case measure => simp [intOf]; omega
                  · obtain rfl : k = 8 := by omega
                    have e8 : (cs.take 8).map (fun c => if c = -2 then -1 else c) ++ cs.drop 8 = cs.map (fun c => if c = -2 then -1 else c) := by
                      rw [List.take_of_length_le (by rw [hO.out.len]; omega), List.drop_eq_nil_of_le (by rw [hO.out.len]; omega), List.append_nil]
                    rw [e8] at hO2
                    clear e8
                    go_wp2_with fail
                    go_meet
                    case rel => exact ⟨_, _, rfl, hcl.out, hO2⟩
            by_cases c4 : kd = 1
            · as_aux_lemma =>
                subst c4
                by_cases t0 : 0 ≤ tg
                · have t1 : ¬ tg ≤ 127 := by omega
                  go_wp2_with fail
                  go_meet
                  case rel => exact ⟨_, _, rfl, hO.out, hO1⟩
                · go_wp2_with fail
                  go_meet
                  case rel => exact ⟨_, _, rfl, hO.out, hO1⟩
            · as_aux_lemma =>
                have d1 : (kd == 1) = false := by simp [c4]
                have d2 : (kd == 2) = false := by simp [c2]
                have d3 : (kd == 3) = false := by simp [c3]
                go_wp2_with fail
                go_meet
                case rel => exact ⟨_, _, rfl, hO.out, hO1⟩
          case rest =>
            as_aux_lemma =>
              obtain ⟨x', cs', rfl, hP, hQ⟩ := hcut
              clear hO hO1 hx
              have hx := hP.out.lt
              go_wp2_with fail
              go_loopw [12] (fun i wr => ∃ k : Nat, k ≤ 8 ∧ i = .int .i64 k ∧ Lo w b cs' ob kd tg ix wr) (fun i _ => (8 - intOf i).toNat)
              case atStart => exact ⟨0, by decide, rfl, hQ⟩
              case round =>
                clear hQ
                obtain ⟨k, hk, rfl, hM⟩ := hrel
                by_cases hlt8 : k < 8
                · obtain ⟨c, hc⟩ : ∃ c : Int, Hid (cs'[k]? = some c) := ⟨_, List.getElem?_eq_getElem (by rw [hP.out.len]; exact hlt8)⟩
                  have q1 := hM.lv.cell k c hc.out
                  have o1 := hM.o.cell 1
                  have k0 : (0 : Int) ≤ k := by omega
                  have k1 : (k : Int) < 8 := by omega
                  have hf := Lib.hid (hP.out.ful hc.out)
                  have hv := Lib.hid (hP.out.vac hc.out)
                  have he := Lib.hid (hP.out.emp hc.out)
                  have ht := Lib.hid (hP.out.mat hc.out tg)
                  have hs := Lib.hid (hP.out.mat hc.out c)
                  by_cases h0 : 0 ≤ c
                  · have hg := Lib.hid (hP.out.get hlt8 hc.out h0)
                    replace hf : Hid (ful x' k = true) := by unfold Hid; rw [hf.out]; simp [h0]
                    replace hv : Hid (vac x' k = false) := by unfold Hid; rw [hv.out]; simp; omega
                    replace he : Hid (mat x' 128 k = false) := by unfold Hid; rw [he.out]; simp; omega
                    replace hs : Hid (matF x' c k = true) := by unfold Hid; rw [hs.out]; simp [h0]
                    have n1 : ¬ c < 0 := by omega
                    have n2 : (c == -1) = false := by simp; omega
                    by_cases hct : c = tg
                    · as_aux_lemma =>
                        subst hct
                        have n3 : (c == c) = true := by simp
                        go_wp2_with (first
                          | (go_at_call 8; (with_reducible refine (keeps (matchFull_any x' _ hx) (fun w' hb => Lo.keep (by first | exact hM | exact hM.drewN _) hb)).mono ?_); rintro e w' ⟨rfl, hM⟩; have o1 := hM.o.cell 1)
                          | (go_at_call 10; (with_reducible refine (keeps (matchVacant_any x' _ hx) (fun w' hb => Lo.keep (by first | exact hM | exact hM.drewN _) hb)).mono ?_); rintro e w' ⟨rfl, hM⟩; have o1 := hM.o.cell 1)
                          | (go_at_call 12; (with_reducible refine (keeps (matchEmpty_any x' _ hx) (fun w' hb => Lo.keep (by first | exact hM | exact hM.drewN _) hb)).mono ?_); rintro e w' ⟨rfl, hM⟩; have o1 := hM.o.cell 1)
                          | (go_at_call 6; (first | with_reducible refine (keeps (match_any x' tg _ hx) (fun w' hb => Lo.keep (by first | exact hM | exact hM.drewN _) hb)).mono ?_ | with_reducible refine (keeps (match_any x' c _ hx) (fun w' hb => Lo.keep (by first | exact hM | exact hM.drewN _) hb)).mono ?_); rintro e w' ⟨rfl, hM⟩; have o1 := hM.o.cell 1)
                          | (go_at_call 21; (first | with_reducible refine (keeps (has_is (ful x') k _ _ hlt8 hf.out) (fun w' hb => Lo.keep (by first | exact hM | exact hM.drewN _) hb)).mono ?_ | with_reducible refine (keeps (has_is (vac x') k _ _ hlt8 hv.out) (fun w' hb => Lo.keep (by first | exact hM | exact hM.drewN _) hb)).mono ?_ | with_reducible refine (keeps (has_is (mat x' 128) k _ _ hlt8 he.out) (fun w' hb => Lo.keep (by first | exact hM | exact hM.drewN _) hb)).mono ?_ | with_reducible refine (keeps (has_is (matF x' tg) k _ _ hlt8 ht.out) (fun w' hb => Lo.keep (by first | exact hM | exact hM.drewN _) hb)).mono ?_ | with_reducible refine (keeps (has_is (matF x' c) k _ _ hlt8 hs.out) (fun w' hb => Lo.keep (by first | exact hM | exact hM.drewN _) hb)).mono ?_); rintro e w' ⟨rfl, hM⟩; have o1 := hM.o.cell 1)
                          | (go_at_call 22; (with_reducible refine (get_to x' k c _ hx hg.out).mono ?_); rintro e w' ⟨rfl, m, rfl⟩; replace hM := hM.drewN m; have o1 := hM.o.cell 1))
                        go_roundw
                        case rel => exact ⟨k + 1, by omega, by go_num, by first | exact hM | exact hM.drewN _⟩
                        case measure => simp [intOf]; omega
                    · as_aux_lemma =>
                        have n3 : (c == tg) = false := by simp [hct]
                        replace ht : Hid (matF x' tg k = false) := by unfold Hid; rw [ht.out]; simp [hct]
                        go_wp2_with (first
                          | (go_at_call 8; (with_reducible refine (keeps (matchFull_any x' _ hx) (fun w' hb => Lo.keep (by first | exact hM | exact hM.drewN _) hb)).mono ?_); rintro e w' ⟨rfl, hM⟩; have o1 := hM.o.cell 1)
                          | (go_at_call 10; (with_reducible refine (keeps (matchVacant_any x' _ hx) (fun w' hb => Lo.keep (by first | exact hM | exact hM.drewN _) hb)).mono ?_); rintro e w' ⟨rfl, hM⟩; have o1 := hM.o.cell 1)
                          | (go_at_call 12; (with_reducible refine (keeps (matchEmpty_any x' _ hx) (fun w' hb => Lo.keep (by first | exact hM | exact hM.drewN _) hb)).mono ?_); rintro e w' ⟨rfl, hM⟩; have o1 := hM.o.cell 1)
                          | (go_at_call 6; (first | with_reducible refine (keeps (match_any x' tg _ hx) (fun w' hb => Lo.keep (by first | exact hM | exact hM.drewN _) hb)).mono ?_ | with_reducible refine (keeps (match_any x' c _ hx) (fun w' hb => Lo.keep (by first | exact hM | exact hM.drewN _) hb)).mono ?_); rintro e w' ⟨rfl, hM⟩; have o1 := hM.o.cell 1)
                          | (go_at_call 21; (first | with_reducible refine (keeps (has_is (ful x') k _ _ hlt8 hf.out) (fun w' hb => Lo.keep (by first | exact hM | exact hM.drewN _) hb)).mono ?_ | with_reducible refine (keeps (has_is (vac x') k _ _ hlt8 hv.out) (fun w' hb => Lo.keep (by first | exact hM | exact hM.drewN _) hb)).mono ?_ | with_reducible refine (keeps (has_is (mat x' 128) k _ _ hlt8 he.out) (fun w' hb => Lo.keep (by first | exact hM | exact hM.drewN _) hb)).mono ?_ | with_reducible refine (keeps (has_is (matF x' tg) k _ _ hlt8 ht.out) (fun w' hb => Lo.keep (by first | exact hM | exact hM.drewN _) hb)).mono ?_ | with_reducible refine (keeps (has_is (matF x' c) k _ _ hlt8 hs.out) (fun w' hb => Lo.keep (by first | exact hM | exact hM.drewN _) hb)).mono ?_); rintro e w' ⟨rfl, hM⟩; have o1 := hM.o.cell 1)
                          | (go_at_call 22; (with_reducible refine (get_to x' k c _ hx hg.out).mono ?_); rintro e w' ⟨rfl, m, rfl⟩; replace hM := hM.drewN m; have o1 := hM.o.cell 1))
                        go_roundw
                        case rel => exact ⟨k + 1, by omega, by go_num, by first | exact hM | exact hM.drewN _⟩
                        case measure => simp [intOf]; omega
                  · replace hf : Hid (ful x' k = false) := by unfold Hid; rw [hf.out]; simp; omega
                    replace hv : Hid (vac x' k = true) := by unfold Hid; rw [hv.out]; simp; omega
                    replace ht : Hid (matF x' tg k = false) := by unfold Hid; rw [ht.out]; simp; omega
                    have n1 : c < 0 := by omega
                    by_cases hc1 : c = -1
                    · as_aux_lemma =>
                        subst hc1
                        replace he : Hid (mat x' 128 k = true) := by unfold Hid; rw [he.out]; rfl
                        go_wp2_with (first
                          | (go_at_call 8; (with_reducible refine (keeps (matchFull_any x' _ hx) (fun w' hb => Lo.keep (by first | exact hM | exact hM.drewN _) hb)).mono ?_); rintro e w' ⟨rfl, hM⟩; have o1 := hM.o.cell 1)
                          | (go_at_call 10; (with_reducible refine (keeps (matchVacant_any x' _ hx) (fun w' hb => Lo.keep (by first | exact hM | exact hM.drewN _) hb)).mono ?_); rintro e w' ⟨rfl, hM⟩; have o1 := hM.o.cell 1)
                          | (go_at_call 12; (with_reducible refine (keeps (matchEmpty_any x' _ hx) (fun w' hb => Lo.keep (by first | exact hM | exact hM.drewN _) hb)).mono ?_); rintro e w' ⟨rfl, hM⟩; have o1 := hM.o.cell 1)
                          | (go_at_call 6; (first | with_reducible refine (keeps (match_any x' tg _ hx) (fun w' hb => Lo.keep (by first | exact hM | exact hM.drewN _) hb)).mono ?_ | with_reducible refine (keeps (match_any x' c _ hx) (fun w' hb => Lo.keep (by first | exact hM | exact hM.drewN _) hb)).mono ?_); rintro e w' ⟨rfl, hM⟩; have o1 := hM.o.cell 1)
                          | (go_at_call 21; (first | with_reducible refine (keeps (has_is (ful x') k _ _ hlt8 hf.out) (fun w' hb => Lo.keep (by first | exact hM | exact hM.drewN _) hb)).mono ?_ | with_reducible refine (keeps (has_is (vac x') k _ _ hlt8 hv.out) (fun w' hb => Lo.keep (by first | exact hM | exact hM.drewN _) hb)).mono ?_ | with_reducible refine (keeps (has_is (mat x' 128) k _ _ hlt8 he.out) (fun w' hb => Lo.keep (by first | exact hM | exact hM.drewN _) hb)).mono ?_ | with_reducible refine (keeps (has_is (matF x' tg) k _ _ hlt8 ht.out) (fun w' hb => Lo.keep (by first | exact hM | exact hM.drewN _) hb)).mono ?_ | with_reducible refine (keeps (has_is (matF x' c) k _ _ hlt8 hs.out) (fun w' hb => Lo.keep (by first | exact hM | exact hM.drewN _) hb)).mono ?_); rintro e w' ⟨rfl, hM⟩; have o1 := hM.o.cell 1))
                        go_roundw
                        case rel => exact ⟨k + 1, by omega, by go_num, by first | exact hM | exact hM.drewN _⟩
                        case measure => simp [intOf]; omega
                    · as_aux_lemma =>
                        replace he : Hid (mat x' 128 k = false) := by unfold Hid; rw [he.out]; simp [hc1]
                        have n2 : (c == -1) = false := by simp [hc1]
                        go_wp2_with (first
                          | (go_at_call 8; (with_reducible refine (keeps (matchFull_any x' _ hx) (fun w' hb => Lo.keep (by first | exact hM | exact hM.drewN _) hb)).mono ?_); rintro e w' ⟨rfl, hM⟩; have o1 := hM.o.cell 1)
                          | (go_at_call 10; (with_reducible refine (keeps (matchVacant_any x' _ hx) (fun w' hb => Lo.keep (by first | exact hM | exact hM.drewN _) hb)).mono ?_); rintro e w' ⟨rfl, hM⟩; have o1 := hM.o.cell 1)
                          | (go_at_call 12; (with_reducible refine (keeps (matchEmpty_any x' _ hx) (fun w' hb => Lo.keep (by first | exact hM | exact hM.drewN _) hb)).mono ?_); rintro e w' ⟨rfl, hM⟩; have o1 := hM.o.cell 1)
                          | (go_at_call 6; (first | with_reducible refine (keeps (match_any x' tg _ hx) (fun w' hb => Lo.keep (by first | exact hM | exact hM.drewN _) hb)).mono ?_ | with_reducible refine (keeps (match_any x' c _ hx) (fun w' hb => Lo.keep (by first | exact hM | exact hM.drewN _) hb)).mono ?_); rintro e w' ⟨rfl, hM⟩; have o1 := hM.o.cell 1)
                          | (go_at_call 21; (first | with_reducible refine (keeps (has_is (ful x') k _ _ hlt8 hf.out) (fun w' hb => Lo.keep (by first | exact hM | exact hM.drewN _) hb)).mono ?_ | with_reducible refine (keeps (has_is (vac x') k _ _ hlt8 hv.out) (fun w' hb => Lo.keep (by first | exact hM | exact hM.drewN _) hb)).mono ?_ | with_reducible refine (keeps (has_is (mat x' 128) k _ _ hlt8 he.out) (fun w' hb => Lo.keep (by first | exact hM | exact hM.drewN _) hb)).mono ?_ | with_reducible refine (keeps (has_is (matF x' tg) k _ _ hlt8 ht.out) (fun w' hb => Lo.keep (by first | exact hM | exact hM.drewN _) hb)).mono ?_ | with_reducible refine (keeps (has_is (matF x' c) k _ _ hlt8 hs.out) (fun w' hb => Lo.keep (by first | exact hM | exact hM.drewN _) hb)).mono ?_); rintro e w' ⟨rfl, hM⟩; have o1 := hM.o.cell 1))
                        go_roundw
                        case rel => exact ⟨k + 1, by omega, by go_num, by first | exact hM | exact hM.drewN _⟩
                        case measure => simp [intOf]; omega
                · go_wp2_with fail
                  go_roundw
                  case rel => exact ⟨j + 1, _, _, by omega, by go_num, rfl, hP.out, hM.lv⟩
                  case measure => simp [intOf]; omega
        · as_aux_lemma =>
            have hcn := Lib.hid hO.out.cnt
            have hcn1 := cnt_le (ful x)
            have hcn2 := cnt_le (vac x)
            go_wp2_with fail
            refine (keeps (matchFull_any x _ hx) (fun w' hb => hL.keep hb)).mono ?_
            rintro e w3 ⟨rfl, hM⟩
            go_wp2_with fail
            refine (keeps (count_mask (ful x) _) (fun w' hb => hM.keep hb)).mono ?_
            rintro e w4 ⟨rfl, hM⟩
            go_wp2_with fail
            refine (keeps (matchVacant_any x _ hx) (fun w' hb => hM.keep hb)).mono ?_
            rintro e w5 ⟨rfl, hM⟩
            go_wp2_with fail
            refine (keeps (count_mask (vac x) _) (fun w' hb => hM.keep hb)).mono ?_
            rintro e w6 ⟨rfl, hM⟩
            go_wp2_with fail
            go_ret
            exact ⟨ret_bool (by have := hcn.out; simp; omega), hM.below⟩
end Go.Proofs.YtakmaedimelaaaaDoor
