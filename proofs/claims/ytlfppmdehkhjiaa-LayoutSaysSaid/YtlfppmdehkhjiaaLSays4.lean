/- What is proved here: the walk of the law LayoutSays. The numbers are ints. -/
import Derived.Test.YtlfppmdehkhjiaaLSaysKit
namespace Go.Proofs.Ytlfppmdehkhjiaa
set_option linter.unusedVariables false
set_option linter.unusedSimpArgs false
open Go.RowKit Pl
set_option maxRecDepth 100000 in
set_option maxHeartbeats 2000000 in
theorem says_4 (K E A B C D X : Int) (w : World) (hK : -9223372036854775808 ≤ K ∧ K ≤ 9223372036854775807) (hE : -9223372036854775808 ≤ E ∧ E ≤ 9223372036854775807) (hA : -9223372036854775808 ≤ A ∧ A ≤ 9223372036854775807) (hB : -9223372036854775808 ≤ B ∧ B ≤ 9223372036854775807) (hC : -9223372036854775808 ≤ C ∧ C ≤ 9223372036854775807) (hqD : Hid (D % 5 = 4)) (hD : -9223372036854775808 ≤ D ∧ D ≤ 9223372036854775807) (hXb : -9223372036854775808 ≤ X ∧ X ≤ 9223372036854775807) :
    Calls Try.prog 5 #[.agg #[.int .i64 K, .int .i64 E, .int .i64 A, .int .i64 B, .int .i64 C, .int .i64 D, .int .i64 X]] w fun e' w' => e' = .returned (.bool true) ∧ Below w.heap.size w w' := by
  go_enter Try.func5, Try.ntmps5
  go_wp2_with fail
  refine (right_any K E A B C D X _ hK hE hA hB hC).mono ?_
  rintro e' w1 ⟨g, k, e, ka, ea, c, hgood, rfl, hg1, hg2, hb1, hblk⟩
  obtain ⟨q0, q1, q2, q3, q4, hfz⟩ := five_cells hblk
  obtain ⟨eo, bo, sl, gr, L⟩ := last_of hgood
  have hpe := Lib.hid (perr_zero.2 hgood)
  have hpd := Lib.hid L.parsed
  have hv := Lib.hid (L.valid hgood)
  have L' := Lib.hid L
  have hF1 : Blk w1 g #[.int .i64 k, .int .i64 e, .int .i64 ka, .int .i64 ea, .int .i64 c] 3 := hblk
  replace hblk := Lib.hid hblk
  have hR1 : Blk w1 w.heap.size #[.int .i64 K, .int .i64 E, .int .i64 A, .int .i64 B, .int .i64 C, .int .i64 D, .int .i64 X] 36 := (Blk.new w _ _).keep hb1
  have gk2 := hgood.k2
  have ge1 := hgood.e1
  have gk1 := hgood.k1
  have hG := Lib.hid hgood
  clear L hgood
  go_wp2_with fail
  refine (parse_to g 0 5 k e ka ea c _ _ _ hpd.out hpe.out hg2 q0 q1 q2 q3 q4).mono ?_
  rintro e' w2 ⟨rfl, hb2⟩
  obtain ⟨hc2, hf2⟩ := bcell hb2
  have hB := Below.then ((Below.refl w.heap.size w).alloc (Nat.le_refl _) _) (Below.then hb1 hb2)
  have hg3 : g < w2.heap.size := by have := hb2.size; omega
  have z2 : sl ≤ 278 := by have := L'.out.slv; have := L'.out.boT; omega
  have z3 : 16 ≤ sl := by have := L'.out.slv; have := L'.out.bo1; have := L'.out.eo1; have := L'.out.bo3; omega
  have z5 : 0 ≤ eo := by have := L'.out.eo1; omega
  have z6 : eo ≤ 135 := L'.out.eoT
  have z7 : 0 ≤ bo := by have := L'.out.bo1; omega
  have z8 : bo ≤ 270 := L'.out.boT
  have hgr : Hid (gr = 8 * sl + 8) := L'.out.grv
  have hgw : w.heap.size < g := by simp at hg1; omega
  have hw2 : w.heap.size < w2.heap.size := by omega
  have hT : St w w.heap.size g w2.heap.size #[.int .i64 K, .int .i64 E, .int .i64 A, .int .i64 B, .int .i64 C, .int .i64 D, .int .i64 X] #[.int .i64 k, .int .i64 e, .int .i64 ka, .int .i64 ea, .int .i64 c] #[.int .i64 k, .int .i64 e, .int .i64 ka, .int .i64 ea, .int .i64 c, .int .i64 eo, .int .i64 bo, .int .i64 sl, .int .i64 gr] (w2.alloc (.cells #[.int .i64 k, .int .i64 e, .int .i64 ka, .int .i64 ea, .int .i64 c, .int .i64 eo, .int .i64 bo, .int .i64 sl, .int .i64 gr] 24)) :=
    ⟨hB.alloc hB.size _, (hR1.keep hb2).alloc _, (hF1.keep hb2).alloc _, Blk.new w2 _ _⟩
  have cr := hT.r.cell
  have cf := hT.f.cell
  have cl := hT.l.cell
  have ff := hT.f.free
  have fl := hT.l.free
  go_wp2_with (first | (go_at_call 18; (first | with_reducible refine (keeps (valid_is k e ka ea c eo bo sl gr _ true hv.out) (fun w' hb => St.keep (by with_reducible (first | exact hT | exact hT.drew | exact hT.drewN _ | exact (hT.drewN _).drew | exact hT.alloc _ | exact (hT.alloc _).drew | exact hT.drew.alloc _ | exact (hT.drewN _).alloc _ | exact (hT.alloc _).drew.alloc _ | exact (hT.alloc _).alloc _ | exact ((hT.alloc _).alloc _).drew | exact St.set9 hT hT0 _ _ _ _ _ _ _ _ _ | exact (St.set9 hT hT0 _ _ _ _ _ _ _ _ _).drew | exact (St.set9 hT (hT0.alloc _) _ _ _ _ _ _ _ _ _))) w' hb)).mono ?_); rintro e' w' ⟨rfl, hT⟩; have cr := hT.r.cell; have cf := hT.f.cell; have cl := hT.l.cell; have ff := hT.f.free; have fl := hT.l.free) | (go_at_call 14; (first | with_reducible refine (keeps (parse_other _ 4 _ _ (by decide)) (fun w' hb => St.keep (by with_reducible (first | exact hT | exact hT.drew | exact hT.drewN _ | exact (hT.drewN _).drew | exact hT.alloc _ | exact (hT.alloc _).drew | exact hT.drew.alloc _ | exact (hT.drewN _).alloc _ | exact (hT.alloc _).drew.alloc _ | exact (hT.alloc _).alloc _ | exact ((hT.alloc _).alloc _).drew | exact St.set9 hT hT0 _ _ _ _ _ _ _ _ _ | exact (St.set9 hT hT0 _ _ _ _ _ _ _ _ _).drew | exact (St.set9 hT (hT0.alloc _) _ _ _ _ _ _ _ _ _))) w' hb)).mono ?_); rintro e' w' ⟨rfl, hT⟩; have cr := hT.r.cell; have cf := hT.f.cell; have cl := hT.l.cell; have ff := hT.f.free; have fl := hT.l.free))
  have hTA := hT.alloc (.cells #[.int .i64 0] 3)
  clear hTA
  go_upto_region 7 with (fail)
  go_cut [10] (fun v wc => v = .int .i64 30 ∧ St w w.heap.size g w2.heap.size #[.int .i64 K, .int .i64 E, .int .i64 A, .int .i64 B, .int .i64 C, .int .i64 D, .int .i64 X] #[.int .i64 k, .int .i64 e, .int .i64 ka, .int .i64 ea, .int .i64 c] #[.int .i64 k, .int .i64 e, .int .i64 ka, .int .i64 ea, .int .i64 c, .int .i64 eo, .int .i64 bo, .int .i64 sl, .int .i64 gr] wc)
  case first =>
    go_region_held3 (fun w' => Below w.heap.size w w' ∧ Blk w' w.heap.size #[.int .i64 K, .int .i64 E, .int .i64 A, .int .i64 B, .int .i64 C, .int .i64 D, .int .i64 X] 36 ∧ Blk w' g #[.int .i64 k, .int .i64 e, .int .i64 ka, .int .i64 ea, .int .i64 c] 3 ∧ Blk w' w2.heap.size #[.int .i64 k, .int .i64 e, .int .i64 ka, .int .i64 ea, .int .i64 c, .int .i64 eo, .int .i64 bo, .int .i64 sl, .int .i64 gr] 24 ∧ w'.cell? ⟨g, 0, none⟩ = some (.int .i64 k) ∧ w'.cell? ⟨g, 1, none⟩ = some (.int .i64 e) ∧ w'.cell? ⟨g, 2, none⟩ = some (.int .i64 ka) ∧ w'.cell? ⟨g, 3, none⟩ = some (.int .i64 ea) ∧ w'.cell? ⟨g, 4, none⟩ = some (.int .i64 c)) (first | ((refine says_conj ?_); with_reducible (repeat (first | exact hT | refine St.drew ?_ | refine St.alloc ?_ _ | refine St.drewN ?_ _ | refine St.set9q hT hT0 _ (by omega) _ _ _ _ _ _ _ _ _ | exact St.set9 hT hT0 _ _ _ _ _ _ _ _ _ | exact St.set9 hT hT0.drew _ _ _ _ _ _ _ _ _ | exact St.set9 hT (hT0.alloc _) _ _ _ _ _ _ _ _ _ | exact St.set9 hT (hT0.alloc _).drew _ _ _ _ _ _ _ _ _ | exact St.set9 hT (hT0.drew.alloc _) _ _ _ _ _ _ _ _ _ | exact St.set9 hT (hT0.alloc _).drew _ _ _ _ _ _ _ _ _)); done) | go_keep) ((first | (go_at_call 14; (with_reducible refine (parse_other _ 6 _ _ (by decide)).mono ?_); rintro e' w' ⟨rfl, hbw⟩; obtain ⟨hcw, hfw⟩ := bcell hbw; have hT0 := hT; replace hT : St w w.heap.size g w2.heap.size #[.int .i64 K, .int .i64 E, .int .i64 A, .int .i64 B, .int .i64 C, .int .i64 D, .int .i64 X] #[.int .i64 k, .int .i64 e, .int .i64 ka, .int .i64 ea, .int .i64 c] #[.int .i64 k, .int .i64 e, .int .i64 ka, .int .i64 ea, .int .i64 c, .int .i64 eo, .int .i64 bo, .int .i64 sl, .int .i64 gr] w' := St.keep (by with_reducible (repeat (first | exact hT | refine St.drew ?_ | refine St.alloc ?_ _ | refine St.drewN ?_ _ | refine St.set9q hT hT0 _ (by omega) _ _ _ _ _ _ _ _ _ | exact St.set9 hT hT0 _ _ _ _ _ _ _ _ _ | exact St.set9 hT hT0.drew _ _ _ _ _ _ _ _ _ | exact St.set9 hT (hT0.alloc _) _ _ _ _ _ _ _ _ _ | exact St.set9 hT (hT0.alloc _).drew _ _ _ _ _ _ _ _ _ | exact St.set9 hT (hT0.drew.alloc _) _ _ _ _ _ _ _ _ _ | exact St.set9 hT (hT0.alloc _).drew _ _ _ _ _ _ _ _ _))) w' hbw; have cr := hT.r.cell; have cf := hT.f.cell; have cl := hT.l.cell; have ff := hT.f.free; have fl := hT.l.free)))
    all_goals
      go_wp2_with fail
      go_meet
      case rel => exact ⟨rfl, by with_reducible (repeat (first | exact hT | refine St.drew ?_ | refine St.alloc ?_ _ | refine St.drewN ?_ _ | refine St.set9q hT hT0 _ (by omega) _ _ _ _ _ _ _ _ _ | exact St.set9 hT hT0 _ _ _ _ _ _ _ _ _ | exact St.set9 hT hT0.drew _ _ _ _ _ _ _ _ _ | exact St.set9 hT (hT0.alloc _) _ _ _ _ _ _ _ _ _ | exact St.set9 hT (hT0.alloc _).drew _ _ _ _ _ _ _ _ _ | exact St.set9 hT (hT0.drew.alloc _) _ _ _ _ _ _ _ _ _ | exact St.set9 hT (hT0.alloc _).drew _ _ _ _ _ _ _ _ _))⟩
  case rest =>
    obtain ⟨rfl, hT⟩ := hcut
    have cr := hT.r.cell
    have cf := hT.f.cell
    have cl := hT.l.cell
    have ff := hT.f.free
    have fl := hT.l.free
    · go_wp2_with (go_at_call 19; (with_reducible refine (mod_to D 5 4 _ (by decide) (by decide) hD.1 hD.2 hqD.out).mono ?_); rintro e w' ⟨rfl, rfl⟩)
      rcases turn4 hG.out X with hg2 | he2
      · obtain ⟨eo2, bo2, sl2, gr2, L2⟩ := last_of hg2
        have hpe2 := Lib.hid (perr_zero.2 hg2)
        have hpd2 := Lib.hid L2.parsed
        have hv2 := Lib.hid (L2.valid hg2)
        clear L2 hg2
        have hgr : w.heap.size ≠ g := by omega
        have hT2 := hT.setF5 (F2 := #[.int .i64 k, .int .i64 e, .int .i64 ka, .int .i64 ea, .int .i64 X]) 4 (.int .i64 X) rfl (by omega) (by omega) (by omega)
        have cf2 := hT2.f.cell
        refine (parse_to g 0 5 k e ka ea X _ _ _ hpd2.out hpe2.out hT2.f.lt (cf2 0) (cf2 1) (cf2 2) (cf2 3) (cf2 4)).mono ?_
        rintro e' w' ⟨rfl, hbw⟩
        have hT3 := hT2.keep _ hbw
        clear hT hT2 cr cf cl ff fl cf2
        have cr := hT3.r.cell
        have cf := hT3.f.cell
        have cl := hT3.l.cell
        have ff := hT3.f.free
        have fl := hT3.l.free
        go_wp2_with fail
        have hT : St w w.heap.size g w2.heap.size #[.int .i64 K, .int .i64 E, .int .i64 A, .int .i64 B, .int .i64 C, .int .i64 D, .int .i64 X] #[.int .i64 k, .int .i64 e, .int .i64 ka, .int .i64 ea, .int .i64 X] #[.int .i64 k, .int .i64 e, .int .i64 ka, .int .i64 ea, .int .i64 X, .int .i64 eo2, .int .i64 bo2, .int .i64 sl2, .int .i64 gr2] (((((((((w'.setCell ⟨w2.heap.size, 0, none⟩ (.int .i64 k)).setCell ⟨w2.heap.size, 1, none⟩ (.int .i64 e)).setCell ⟨w2.heap.size, 2, none⟩ (.int .i64 ka)).setCell ⟨w2.heap.size, 3, none⟩ (.int .i64 ea)).setCell ⟨w2.heap.size, 4, none⟩ (.int .i64 X)).setCell ⟨w2.heap.size, 5, none⟩ (.int .i64 eo2)).setCell ⟨w2.heap.size, 6, none⟩ (.int .i64 bo2)).setCell ⟨w2.heap.size, 7, none⟩ (.int .i64 sl2)).setCell ⟨w2.heap.size, 8, none⟩ (.int .i64 gr2)) := (hT3.setL9 (.int .i64 k) (.int .i64 e) (.int .i64 ka) (.int .i64 ea) (.int .i64 X) (.int .i64 eo2) (.int .i64 bo2) (.int .i64 sl2) (.int .i64 gr2) (by omega) (by omega) (by omega))
        generalize (((((((((w'.setCell ⟨w2.heap.size, 0, none⟩ (.int .i64 k)).setCell ⟨w2.heap.size, 1, none⟩ (.int .i64 e)).setCell ⟨w2.heap.size, 2, none⟩ (.int .i64 ka)).setCell ⟨w2.heap.size, 3, none⟩ (.int .i64 ea)).setCell ⟨w2.heap.size, 4, none⟩ (.int .i64 X)).setCell ⟨w2.heap.size, 5, none⟩ (.int .i64 eo2)).setCell ⟨w2.heap.size, 6, none⟩ (.int .i64 bo2)).setCell ⟨w2.heap.size, 7, none⟩ (.int .i64 sl2)).setCell ⟨w2.heap.size, 8, none⟩ (.int .i64 gr2)) = W at hT ⊢
        clear hT3 cr cf cl ff fl
        have cr := hT.r.cell
        have cf := hT.f.cell
        have cl := hT.l.cell
        have ff := hT.f.free
        have fl := hT.l.free
        go_region_held3 (fun w' => Below w.heap.size w w' ∧ Blk w' w.heap.size #[.int .i64 K, .int .i64 E, .int .i64 A, .int .i64 B, .int .i64 C, .int .i64 D, .int .i64 X] 36 ∧ Blk w' g #[.int .i64 k, .int .i64 e, .int .i64 ka, .int .i64 ea, .int .i64 X] 3 ∧ Blk w' w2.heap.size #[.int .i64 k, .int .i64 e, .int .i64 ka, .int .i64 ea, .int .i64 X, .int .i64 eo2, .int .i64 bo2, .int .i64 sl2, .int .i64 gr2] 24 ∧ w'.cell? ⟨g, 0, none⟩ = some (.int .i64 k) ∧ w'.cell? ⟨g, 1, none⟩ = some (.int .i64 e) ∧ w'.cell? ⟨g, 2, none⟩ = some (.int .i64 ka) ∧ w'.cell? ⟨g, 3, none⟩ = some (.int .i64 ea) ∧ w'.cell? ⟨g, 4, none⟩ = some (.int .i64 X) ∧ w'.cell? ⟨w2.heap.size, 0, none⟩ = some (.int .i64 k) ∧ w'.cell? ⟨w2.heap.size, 1, none⟩ = some (.int .i64 e) ∧ w'.cell? ⟨w2.heap.size, 2, none⟩ = some (.int .i64 ka) ∧ w'.cell? ⟨w2.heap.size, 3, none⟩ = some (.int .i64 ea) ∧ w'.cell? ⟨w2.heap.size, 4, none⟩ = some (.int .i64 X) ∧ w'.cell? ⟨w2.heap.size, 5, none⟩ = some (.int .i64 eo2) ∧ w'.cell? ⟨w2.heap.size, 6, none⟩ = some (.int .i64 bo2) ∧ w'.cell? ⟨w2.heap.size, 7, none⟩ = some (.int .i64 sl2) ∧ w'.cell? ⟨w2.heap.size, 8, none⟩ = some (.int .i64 gr2)) (first | ((refine says_conj2 ?_); with_reducible (repeat (first | exact hT | refine St.drew ?_ | refine St.alloc ?_ _ | refine St.drewN ?_ _)); done) | go_keep) ((first | (go_at_call 18; (with_reducible refine (valid_is k e ka ea X eo2 bo2 sl2 gr2 _ true hv2.out).mono ?_); rintro e' w' ⟨rfl, hbw⟩; obtain ⟨hcw, hfw⟩ := bcell hbw; have hT0 := hT; replace hT : St w w.heap.size g w2.heap.size #[.int .i64 K, .int .i64 E, .int .i64 A, .int .i64 B, .int .i64 C, .int .i64 D, .int .i64 X] #[.int .i64 k, .int .i64 e, .int .i64 ka, .int .i64 ea, .int .i64 X] #[.int .i64 k, .int .i64 e, .int .i64 ka, .int .i64 ea, .int .i64 X, .int .i64 eo2, .int .i64 bo2, .int .i64 sl2, .int .i64 gr2] w' := St.keep (by with_reducible (repeat (first | exact hT | refine St.drew ?_ | refine St.alloc ?_ _ | refine St.drewN ?_ _))) w' hbw; have cr := hT.r.cell; have cf := hT.f.cell; have cl := hT.l.cell; have ff := hT.f.free; have fl := hT.l.free)))
        all_goals
          go_wp2_with fail
          exact bodyPost_ret (v := .bool true) (by simp [results, Try.results5, go_sem]) rfl ⟨rfl, St.below (by with_reducible (repeat (first | exact hT | refine St.drew ?_ | refine St.alloc ?_ _ | refine St.drewN ?_ _)))⟩
      · have hpe2 : Hid (perr k e ka ea X = 34) := Lib.hid he2
        have hpd2 : Hid (parsed k e ka ea X = LV.mk 0 0 0 0 0 0 0 0 0) := Lib.hid (parsed_zero he2 (by decide))
        clear he2
        have hgr : w.heap.size ≠ g := by omega
        have hT2 := hT.setF5 (F2 := #[.int .i64 k, .int .i64 e, .int .i64 ka, .int .i64 ea, .int .i64 X]) 4 (.int .i64 X) rfl (by omega) (by omega) (by omega)
        have cf2 := hT2.f.cell
        refine (parse_to g 0 5 k e ka ea X _ _ _ hpd2.out hpe2.out hT2.f.lt (cf2 0) (cf2 1) (cf2 2) (cf2 3) (cf2 4)).mono ?_
        rintro e' w' ⟨rfl, hbw⟩
        have hT3 := hT2.keep _ hbw
        clear hT hT2 cr cf cl ff fl cf2
        have cr := hT3.r.cell
        have cf := hT3.f.cell
        have cl := hT3.l.cell
        have ff := hT3.f.free
        have fl := hT3.l.free
        go_wp2_with fail
        all_goals exact bodyPost_ret (v := .bool true) (by simp [results, Try.results5, go_sem]) rfl ⟨rfl, (hT3.setL9 (.int .i64 0) (.int .i64 0) (.int .i64 0) (.int .i64 0) (.int .i64 0) (.int .i64 0) (.int .i64 0) (.int .i64 0) (.int .i64 0) (by omega) (by omega) (by omega)).below⟩
end Go.Proofs.Ytlfppmdehkhjiaa
