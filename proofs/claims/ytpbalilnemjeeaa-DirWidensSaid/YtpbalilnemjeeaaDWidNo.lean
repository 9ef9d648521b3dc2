/- What is proved here: Widen of a directory where there is no room. Conditions: the directory is there. -/
import Derived.Test.YtpbalilnemjeeaaDWiden
namespace Go.Proofs.Ytpbalilnemjeeaa
set_option linter.unusedVariables false
set_option linter.unusedSimpArgs false
open Go.RowKit Pm Pa Pl Pd
set_option maxHeartbeats 4000000 in
set_option maxRecDepth 100000 in
theorem dir_widen_no {w : World} {p : Nat} {x : Loc} {lim : Nat} {ps : Parts} {L : List UInt8} (h : ArAt w p x lim ps L) (hF : Held lim ps) {off d : Nat} {es : List Int} (hD : DirAt ps L off d es) (hd5 : d ≤ 5) (c0 : Nat) (hs : sizeFrom 16 ps (off : Int) = some c0)
    (c : Nat) (hc : clsN (8 * ((2 ^ (d + 1) : Nat) : Int)) = c) (hl : lim < liveSum ps + c) :
    Calls Try.prog 58 #[dirV p off d] w fun r w' => r = .returned (.tuple #[.agg #[.pointer none, .int .i64 0, .int .i64 0], .int .i64 22]) ∧ ArAt w' p x lim ps L ∧ Turns (x.all p) w w' := by
  have hob := hD.ob
  have hlen := hD.len
  obtain ⟨M, hM⟩ : ∃ M : Nat, Hid (M = 2 ^ d) := ⟨_, rfl⟩
  have hM32 : M ≤ 32 := by rw [hM.out]; exact Nat.pow_le_pow_right (by decide) hd5
  rw [← hM.out] at hlen
  have hM2 : 2 ^ (d + 1) = 2 * M := by rw [hM.out, Nat.pow_succ]; omega
  rw [hM2] at hc
  obtain ⟨N, hN⟩ : ∃ N : Nat, Hid (N = 2 * M) := ⟨_, rfl⟩
  rw [← hN.out] at hc hM2
  have hN64 : N ≤ 64 := by rw [hN.out]; omega
  obtain ⟨D, hDd⟩ : ∃ D : Int, Hid (D = d) := ⟨_, rfl⟩
  have hne : (D == 6) = false := by rw [beq_eq_false_iff_ne, hDd.out]; omega
  have hsh2 : ∀ w, (Op.shift .shl .i64 2 .i64 D).run Try.prog w = .ok (.int .i64 (N : Int)) w := fun w => by rw [hDd.out, shl_two d hd5 w, hN.out, hM.out]
  have hsh1 : ∀ w, (Op.shift .shl .i64 1 .i64 D).run Try.prog w = .ok (.int .i64 (M : Int)) w := fun w => by rw [hDd.out, shl_one d hd5 w, hM.out]
  have hdeep := Lib.hid (fun w P O (hO : ∃ o : Int, O = .int .i64 o) (hP : ∃ a, P = .pointer a) => dir_deep off d (by omega) w D hDd.out P O hO hP)
  obtain ⟨TA, hTA⟩ : ∃ TA, Hid (TA = takeAt ps c) := ⟨_, rfl⟩
  obtain ⟨d1, hd1⟩ : ∃ d1, Hid (d1 = d + 1) := ⟨_, rfl⟩
  rw [← hd1.out] at hM2
  unfold dirV
  rw [show ((d : Nat) : Int) = D from hDd.out.symm]
  have hg1 : ¬ w.heap.size ∈ x.all p := fun hk => Nat.lt_irrefl _ (h.lt _ hk)
  have hg2 : ¬ w.heap.size + 1 ∈ x.all p := fun hk => by have := h.lt _ hk; omega
  have o1 : Out ((w.alloc (.cells #[.pointer (some ⟨p, 0, none⟩), .int .i64 (off : Int), .int .i64 D] 92)).alloc (.cells #[.pointer none, .int .i64 0, .int .i64 0] 92)) p x w.heap.size #[.pointer (some ⟨p, 0, none⟩), .int .i64 (off : Int), .int .i64 D] 92 := ⟨(Blk.new w _ _).alloc _, hg1⟩
  have o2 : Out ((w.alloc (.cells #[.pointer (some ⟨p, 0, none⟩), .int .i64 (off : Int), .int .i64 D] 92)).alloc (.cells #[.pointer none, .int .i64 0, .int .i64 0] 92)) p x (w.heap.size + 1) #[.pointer none, .int .i64 0, .int .i64 0] 92 := ⟨by
      have := Blk.new (w.alloc (.cells #[.pointer (some ⟨p, 0, none⟩), .int .i64 (off : Int), .int .i64 D] 92)) #[.pointer none, .int .i64 0, .int .i64 0] 92
      simpa using this, hg2⟩
  have hA := (h.alloc (.cells #[.pointer (some ⟨p, 0, none⟩), .int .i64 (off : Int), .int .i64 D] 92)).alloc (.cells #[.pointer none, .int .i64 0, .int .i64 0] 92)
  have hT := ((Turns.refl (x.all p) w).alloc (.cells #[.pointer (some ⟨p, 0, none⟩), .int .i64 (off : Int), .int .i64 D] 92)).alloc (.cells #[.pointer none, .int .i64 0, .int .i64 0] 92)
  go_enter Try.func58, Try.ntmps58
  go_upto_region 1 with (fail)
  generalize World.alloc (World.alloc w _) _ = wa at o1 o2 hA hT ⊢
  have hws1 : w.heap.size < wa.heap.size := o1.b.lt
  have hws2 : w.heap.size + 1 < wa.heap.size := o2.b.lt
  obtain ⟨g2, hg2e⟩ : ∃ g, Hid (g = w.heap.size + 1) := ⟨_, rfl⟩
  rw [← hg2e.out] at o2 hg2 hws2 ⊢
  obtain ⟨g1, hg1e⟩ : ∃ g, Hid (g = w.heap.size) := ⟨_, rfl⟩
  rw [← hg1e.out] at o1 hg1 hws1 ⊢
  have hg21 : Hid (w.heap.size ≤ g2 ∧ g1 ≠ g2) := by rw [hg1e.out, hg2e.out]; exact ⟨Nat.le_succ _, by omega⟩
  have k0 := o1.b.cell 0
  have k1 := o1.b.cell 1
  have k2 := o1.b.cell 2
  have hD' := Lib.hid hD
  replace hM2 := Lib.hid hM2
  replace hc := Lib.hid hc
  replace hs := Lib.hid hs
  replace hlen := Lib.hid hlen
  replace hF := Lib.hid hF
  replace o1 := Lib.hid o1
  replace o2 := Lib.hid o2
  replace hA := Lib.hid hA
  replace hT := Lib.hid hT
  clear hD h hg1 hg2
  go_upto_region 3 with (first
    | (go_at_call 87; refine (hdeep.out _ _ _ ⟨_, rfl⟩ ⟨_, rfl⟩).mono ?_; rintro r w1 ⟨rfl, hb⟩; replace o1 := Lib.hid (o1.out.keep hb); replace o2 := Lib.hid (o2.out.keep hb); replace hA := Lib.hid (hA.out.keep hb); replace hT := Lib.hid (hT.out.thenB hb); have hsz := hb.size; clear k0 k1 k2 hb; have k0 := o1.out.b.cell 0; have k1 := o1.out.b.cell 1; have k2 := o1.out.b.cell 2)
    | fail)
  go_upto_region 5 with (first
    | (refine wpList_make_ints rfl (.tmp 23) (.tmp 23) rfl N N rfl rfl (Nat.le_refl _) (by omega) ?_; have hb4 := (Below.refl w1.heap.size w1).alloc (Nat.le_refl _) (.cells (iv (List.replicate N 0)) 3); have b3 := Blk.new w1 (iv (List.replicate N 0)) 3; generalize World.alloc w1 _ = w4 at hb4 b3 ⊢; replace o1 := Lib.hid (o1.out.keep hb4); replace o2 := Lib.hid (o2.out.keep hb4); have n3 := Lib.hid (fun hk => Nat.lt_irrefl _ (hA.out.lt _ hk) : ¬ w1.heap.size ∈ x.all p); replace hA := Lib.hid (hA.out.keep hb4); replace hT := Lib.hid (hT.out.thenB hb4); clear k0 k1 k2 hb4; have k0 := o1.out.b.cell 0; have k1 := o1.out.b.cell 1; have k2 := o1.out.b.cell 2)
    | fail)
  have hW : Wi w p x lim ps L g1 g2 w1.heap.size off D (widC es N 0) w4 := ⟨hA.out, hT.out, o1.out, o2.out, ⟨by rw [widC_zero]; exact b3, n3.out⟩, by omega, by omega, ⟨hg21.out.1, by have := hg1e.out; omega⟩⟩
  obtain ⟨g3, hg3e⟩ : ∃ g, Hid (g = w1.heap.size) := ⟨_, rfl⟩
  rw [← hg3e.out] at hW ⊢
  have hg12 := Lib.hid hg21.out.2
  replace hW := Lib.hid hW
  clear k0 k1 k2 o1 o2 hA hT n3 b3 hws1 hws2 hsz hg21 hg1e hg2e hg3e hsh1 hsh2 hdeep hne
  go_loopw [28] (fun a28 ws => ∃ k : Nat, k ≤ M ∧ a28 = .int .i64 (k : Int) ∧ Hid (Wi w p x lim ps L g1 g2 g3 off D (widC es N k) ws)) (fun i _ => (M - (intOf i).toNat))
  case atStart => exact ⟨0, Nat.zero_le _, rfl, hW⟩
  case round =>
    obtain ⟨k, hk, rfl, hW⟩ := hrel
    obtain ⟨k0, k1, k2⟩ := hW.out.cells
    by_cases hlt : k < M
    · have j0 : (k : Int) < M := by omega
      obtain ⟨e, he⟩ : ∃ e, Hid (es[k]? = some e) := ⟨_, List.getElem?_eq_getElem (by rw [hlen.out]; exact hlt)⟩
      have hkd : k < 2 ^ d := by rw [← hM.out]; exact hlt
      obtain ⟨J, hJ⟩ : ∃ J : Nat, Hid (J = 2 * k) := ⟨_, rfl⟩
      have hJ1 : (2 : Int) * k = J := by rw [hJ.out]; push_cast; rfl
      have hJ2 : (J : Int) + 1 < N := by rw [hJ.out, hN.out]; push_cast; omega
      have hJ3 : (J : Int) < N := by omega
      have hJ0 : (0 : Int) ≤ J := by omega
      have hst := Lib.hid (widC_step es N k (by rw [hlen.out]; exact hlt) (by rw [hN.out]; omega) e he.out)
      have hz : ∀ W, Wi w p x lim ps L g1 g2 g3 off D (widC es N k) W → W.cell? ⟨g3, J, none⟩ = some (.int .i64 0) ∧ W.cell? ⟨g3, J + 1, none⟩ = some (.int .i64 0) := fun W hWW => by
        have hle : k ≤ es.length := by rw [hlen.out]; omega
        refine ⟨?_, ?_⟩
        · rw [hWW.o3.b.cell J, iv_get, widC_get es N k hle, if_neg (by rw [hJ.out]; omega), if_pos (by omega)]; rfl
        · rw [hWW.o3.b.cell (J + 1), iv_get, widC_get es N k hle, if_neg (by rw [hJ.out]; omega), if_pos (by omega)]; rfl
      replace hz := Lib.hid hz
      go_upto_region 10 with (first
        | (go_at_call 88; refine (dir_word' hW.out.ar off d k e (hD'.out.ins k hkd) (by omega) (hD'.out.wd k e he.out) (hD'.out.rng e (List.mem_of_getElem? he.out)) D _ hDd.out rfl).mono ?_; rintro r w5 ⟨rfl, hb⟩; replace hW := Lib.hid (hW.out.keep hb); clear k0 k1 k2 hb)
        | fail)
      obtain ⟨z0, z1⟩ := hz.out _ hW.out
      have f0 := hW.out.o3.b.free J
      have f1 := hW.out.o3.b.free (J + 1)
      go_wp2_with fail
      go_roundw
      case rel => exact ⟨k + 1, by omega, by go_num, hW.out.two J (J + 1) _ _ (by rw [hJ.out]; exact hst.out)⟩
      case measure => simp [intOf]; omega
    · obtain rfl : k = M := by omega
      have hall : widC es N k = dbl es := by rw [hN.out, ← hlen.out]; exact widC_all es
      rw [hall] at hW
      have hin : IntsIn wr (some ⟨g3, 0, none⟩) (dbl es) := fun i e hi => ⟨g3, 0, rfl, by rw [hW.out.o3.b.cell (0 + i), Nat.zero_add, iv_get, hi]; rfl⟩
      have hl2 : (dbl es).length = N := by rw [dbl_len, hlen.out, hN.out]
      have hk1 : 1 ≤ k := by rw [hM.out]; exact Nat.one_le_two_pow
      have hN1 : 1 ≤ N := by rw [hN.out]; omega
      have hc8 : 8 * N ≤ c := by
        have h8 := clsN_ge' (8 * N) (by omega) (by omega)
        push_cast at h8
        rw [hc.out] at h8
        exact h8
      have hrg := dbl_rng hD'.out.rng
      have hel := hW.out.ar.endle
      replace hin := Lib.hid hin
      replace hl2 := Lib.hid hl2
      clear hall
      go_upto_region 15 with (first
        | (go_at_call 41; refine (ar_size hW.out.ar (off : Int) c0 hs.out).mono ?_; rintro r w5 ⟨rfl, rfl⟩)
        | fail)
      go_upto_region 17 with (first
        | (go_at_call 48; go_loud (refine (dir_new_full hW.out.ar (some ⟨g3, 0, none⟩) N N ⟨d1, by rw [hd1.out]; omega, hM2.out.symm⟩ (by rw [hc.out]; exact hl)).mono ?_; rintro r w6 ⟨rfl, hb6⟩; unfold noDir))
        | fail)
      have hWf := (hW.out.keep hb6).keep ((Below.refl w6.heap.size w6).alloc (Nat.le_refl _) (.cells #[.pointer none, .int .i64 0, .int .i64 0] 92))
      generalize World.alloc w6 _ = w7 at hWf ⊢
      have z0 := hWf.o2.b.cell 0
      have z1 := hWf.o2.b.cell 1
      have z2 := hWf.o2.b.cell 2
      have f0 := hWf.o2.b.free 0
      have f1 := hWf.o2.b.free 1
      have f2 := hWf.o2.b.free 2
      replace hWf := Lib.hid hWf
      clear hW hin k0 k1 k2 hb6
      go_wp2_with fail
      have bf := ((hWf.out.o2.b.set 0 (.pointer none)).set 1 (.int .i64 0)).set 2 (.int .i64 0)
      have tf : Turns [g2] w7 (((w7.setCell ⟨g2, 0, none⟩ (.pointer none)).setCell ⟨g2, 1, none⟩ (.int .i64 0)).setCell ⟨g2, 2, none⟩ (.int .i64 0)) := (((Turns.refl _ w7).set g2 0 _ (.inl (by simp))).set g2 1 _ (.inl (by simp))).set g2 2 _ (.inl (by simp))
      have nf : ∀ j, j ∈ x.all p → ¬ j ∈ [g2] := fun j hj q => by simp only [List.mem_singleton] at q; exact hWf.out.o2.n (q ▸ hj)
      simp at bf
      refine widen_end bf ⟨rfl, hWf.out.ar.turn tf nf, hWf.out.t.next tf (fun j hj => by simp only [List.mem_singleton] at hj; rw [hj]; exact .inr hWf.out.ge.1)⟩ ?_ ?_ ?_
      all_goals rfl
end Go.Proofs.Ytpbalilnemjeeaa
