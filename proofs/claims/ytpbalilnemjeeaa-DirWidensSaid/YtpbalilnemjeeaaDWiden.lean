/- What is proved here: Widen of a directory where there is room. Conditions: the directory is there. -/
import Derived.Test.YtpbalilnemjeeaaDWidM
import Derived.Test.YtpbalilnemjeeaaDNewAS
namespace Go.Proofs.Ytpbalilnemjeeaa
set_option linter.unusedVariables false
set_option linter.unusedSimpArgs false
open Go.RowKit Pm Pa Pl Pd
/-- a block that is none of the arena's -/
structure Out (w : World) (p : Nat) (x : Loc) (g : Nat) (cs : Array Value) (t : TypeId) : Prop where
  b : Blk w g cs t
  n : ¬ g ∈ x.all p
section
variable {w w' : World} {p g : Nat} {x x' : Loc} {cs : Array Value} {t : TypeId}
theorem Out.move (h : Out w p x g cs t) (ht : Turns (x.all p) w w') (hf : ∀ k, k ∈ x'.all p → k ∈ x.all p ∨ w.heap.size ≤ k) : Out w' p x' g cs t :=
  ⟨h.b.turn ht h.n, fun hk => by
    rcases hf g hk with e | e
    · exact h.n e
    · exact absurd h.b.lt (Nat.not_lt.2 e)⟩
theorem Out.keep (h : Out w p x g cs t) (hb : Below w.heap.size w w') : Out w' p x g cs t := ⟨h.b.keep hb, h.n⟩
end
structure Wi (w0 : World) (p : Nat) (x : Loc) (lim : Nat) (ps : Parts) (L : List UInt8) (g1 g2 g3 off : Nat) (D : Int) (cs : List Int) (wr : World) : Prop where
  ar : ArAt wr p x lim ps L
  t : Turns (x.all p) w0 wr
  o1 : Out wr p x g1 #[.pointer (some ⟨p, 0, none⟩), .int .i64 (off : Int), .int .i64 D] 92
  o2 : Out wr p x g2 #[.pointer none, .int .i64 0, .int .i64 0] 92
  o3 : Out wr p x g3 (iv cs) 3
  n13 : g1 ≠ g3
  n23 : g2 ≠ g3
  ge : w0.heap.size ≤ g2 ∧ w0.heap.size ≤ g3
section
variable {w0 wr w' : World} {p g1 g2 g3 off lim : Nat} {x : Loc} {ps : Parts} {L : List UInt8} {D : Int} {cs cs' : List Int}
theorem Wi.keep (h : Wi w0 p x lim ps L g1 g2 g3 off D cs wr) (hb : Below wr.heap.size wr w') : Wi w0 p x lim ps L g1 g2 g3 off D cs w' :=
  ⟨h.ar.keep hb, h.t.thenB hb, h.o1.keep hb, h.o2.keep hb, h.o3.keep hb, h.n13, h.n23, h.ge⟩
theorem Wi.two (h : Wi w0 p x lim ps L g1 g2 g3 off D cs wr) (i j : Nat) (u v : Value) (hc : ((iv cs).setIfInBounds i u).setIfInBounds j v = iv cs') : Wi w0 p x lim ps L g1 g2 g3 off D cs' ((wr.setCell ⟨g3, i, none⟩ u).setCell ⟨g3, j, none⟩ v) := by
  have t1 : Turns [g3] wr ((wr.setCell ⟨g3, i, none⟩ u).setCell ⟨g3, j, none⟩ v) := ((Turns.refl _ wr).set g3 i u (.inl (by simp))).set g3 j v (.inl (by simp))
  have nin : ∀ k, k ∈ x.all p → ¬ k ∈ [g3] := fun k hk e => by simp only [List.mem_singleton] at e; exact h.o3.n (e ▸ hk)
  refine ⟨h.ar.turn t1 nin, h.t.next t1 (fun k hk => by simp only [List.mem_singleton] at hk; rw [hk]; exact .inr h.ge.2), ⟨h.o1.b.turn t1 (by simp [h.n13]), h.o1.n⟩, ⟨h.o2.b.turn t1 (by simp [h.n23]), h.o2.n⟩, ⟨?_, h.o3.n⟩, h.n13, h.n23, h.ge⟩
  have := (h.o3.b.set i u).set j v
  rw [hc] at this
  exact this
theorem Wi.cells (h : Wi w0 p x lim ps L g1 g2 g3 off D cs wr) : wr.cell? ⟨g1, 0, none⟩ = some (.pointer (some ⟨p, 0, none⟩)) ∧ wr.cell? ⟨g1, 1, none⟩ = some (.int .i64 (off : Int)) ∧ wr.cell? ⟨g1, 2, none⟩ = some (.int .i64 D) := ⟨h.o1.b.cell 0, h.o1.b.cell 1, h.o1.b.cell 2⟩
end
theorem one_ints (w : World) (E : Int) : IntsIn (w.alloc (.cells #[.int .i64 E] 3)) (some ⟨w.heap.size, 0, none⟩) [E] := by
  intro i n hi
  cases i with
  | zero => simp at hi; subst hi; exact ⟨_, _, rfl, (Blk.new w #[.int .i64 E] 3).cell 0⟩
  | succ i => simp at hi
theorem widen_end {wf : World} {g2 : Nat} {c0 c1 c2 : Value} {E : Int} {a : Act} {R : Ending → World → Prop} (hB : Blk wf g2 #[c0, c1, c2] 92) (hR : R (.returned (.tuple #[.agg #[c0, c1, c2], .int .i64 E])) wf)
    (ha2 : a.tmps[2]? = some (.pointer (some ⟨g2, 0, none⟩))) (ha3 : a.tmps[3]? = some (.int .i64 E)) (had : a.defers = []) : bodyPost Try.prog Try.f58 R .ret a wf := by
  have e0 := hB.cell 0
  have e1 := hB.cell 1
  have e2 := hB.cell 2
  simp at e0 e1 e2
  refine bodyPost_ret (v := .tuple #[.agg #[c0, c1, c2], .int .i64 E]) ?_ had hR
  simp [results, Try.results58, go_sem, ha2, ha3, e0, e1, e2]
set_option maxHeartbeats 4000000 in
set_option maxRecDepth 100000 in
theorem dir_widen {w : World} {p : Nat} {x : Loc} {lim : Nat} {ps : Parts} {L : List UInt8} (h : ArAt w p x lim ps L) (hF : Held lim ps) {off d : Nat} {es : List Int} (hD : DirAt ps L off d es) (hd5 : d ≤ 5) (c0 : Nat) (hs : sizeFrom 16 ps (off : Int) = some c0)
    (c : Nat) (hc : clsN (8 * ((2 ^ (d + 1) : Nat) : Int)) = c) (hl : liveSum ps + c ≤ lim) :
    Calls Try.prog 58 #[dirV p off d] w fun r w' => r = .returned (.tuple #[dirV p (takeAt ps c) (d + 1), .int .i64 0]) ∧ ∃ x' L', ArAt w' p x' lim (freeP (takeP ps c) (off : Int)) L' ∧
      DirAt (freeP (takeP ps c) (off : Int)) L' (takeAt ps c) (d + 1) (dbl es) ∧ Turns (x.all p) w w' ∧ ∀ k, k ∈ x'.all p → k ∈ x.all p ∨ w.heap.size ≤ k := by
  have hob := hD.ob
  have hlen := hD.len
  obtain ⟨M, hM⟩ : ∃ M : Nat, Hid (M = 2 ^ d) := ⟨_, rfl⟩
  have hM32 : M ≤ 32 := by rw [hM.out]; exact Nat.pow_le_pow_right (by decide) hd5
  rw [← hM.out] at hlen
  have hM2 : 2 ^ (d + 1) = 2 * M := by rw [hM.out, Nat.pow_succ]; omega
  rw [hM2] at hc
  obtain ⟨N, hN⟩ : ∃ N : Nat, Hid (N = 2 * M) := ⟨_, rfl⟩
  rw [← hN.out] at hc hM2
  have hN64 : N ≤ 64 := by rw [hN.out]; omega
  obtain ⟨D, hDd⟩ : ∃ D : Int, Hid (D = d) := ⟨_, rfl⟩
  have hne : (D == 6) = false := by rw [beq_eq_false_iff_ne, hDd.out]; omega
  have hsh2 : ∀ w, (Op.shift .shl .i64 2 .i64 D).run Try.prog w = .ok (.int .i64 (N : Int)) w := fun w => by rw [hDd.out, shl_two d hd5 w, hN.out, hM.out]
  have hsh1 : ∀ w, (Op.shift .shl .i64 1 .i64 D).run Try.prog w = .ok (.int .i64 (M : Int)) w := fun w => by rw [hDd.out, shl_one d hd5 w, hM.out]
  have hdeep := Lib.hid (fun w P O (hO : ∃ o : Int, O = .int .i64 o) (hP : ∃ a, P = .pointer a) => dir_deep off d (by omega) w D hDd.out P O hO hP)
  obtain ⟨TA, hTA⟩ : ∃ TA, Hid (TA = takeAt ps c) := ⟨_, rfl⟩
  obtain ⟨d1, hd1⟩ : ∃ d1, Hid (d1 = d + 1) := ⟨_, rfl⟩
  rw [← hTA.out, ← hd1.out]
  rw [← hd1.out] at hM2
  unfold dirV
  rw [show ((d : Nat) : Int) = D from hDd.out.symm]
  have hg1 : ¬ w.heap.size ∈ x.all p := fun hk => Nat.lt_irrefl _ (h.lt _ hk)
  have hg2 : ¬ w.heap.size + 1 ∈ x.all p := fun hk => by have := h.lt _ hk; omega
  have o1 : Out ((w.alloc (.cells #[.pointer (some ⟨p, 0, none⟩), .int .i64 (off : Int), .int .i64 D] 92)).alloc (.cells #[.pointer none, .int .i64 0, .int .i64 0] 92)) p x w.heap.size #[.pointer (some ⟨p, 0, none⟩), .int .i64 (off : Int), .int .i64 D] 92 := ⟨(Blk.new w _ _).alloc _, hg1⟩
  have o2 : Out ((w.alloc (.cells #[.pointer (some ⟨p, 0, none⟩), .int .i64 (off : Int), .int .i64 D] 92)).alloc (.cells #[.pointer none, .int .i64 0, .int .i64 0] 92)) p x (w.heap.size + 1) #[.pointer none, .int .i64 0, .int .i64 0] 92 := ⟨by
      have := Blk.new (w.alloc (.cells #[.pointer (some ⟨p, 0, none⟩), .int .i64 (off : Int), .int .i64 D] 92)) #[.pointer none, .int .i64 0, .int .i64 0] 92
      simpa using this, hg2⟩
  have hA := (h.alloc (.cells #[.pointer (some ⟨p, 0, none⟩), .int .i64 (off : Int), .int .i64 D] 92)).alloc (.cells #[.pointer none, .int .i64 0, .int .i64 0] 92)
  have hT := ((Turns.refl (x.all p) w).alloc (.cells #[.pointer (some ⟨p, 0, none⟩), .int .i64 (off : Int), .int .i64 D] 92)).alloc (.cells #[.pointer none, .int .i64 0, .int .i64 0] 92)
  go_enter Try.func58, Try.ntmps58
  go_upto_region 1 with (fail)
  generalize World.alloc (World.alloc w _) _ = wa at o1 o2 hA hT ⊢
  have hws1 : w.heap.size < wa.heap.size := o1.b.lt
  have hws2 : w.heap.size + 1 < wa.heap.size := o2.b.lt
  obtain ⟨g2, hg2e⟩ : ∃ g, Hid (g = w.heap.size + 1) := ⟨_, rfl⟩
  rw [← hg2e.out] at o2 hg2 hws2 ⊢
  obtain ⟨g1, hg1e⟩ : ∃ g, Hid (g = w.heap.size) := ⟨_, rfl⟩
  rw [← hg1e.out] at o1 hg1 hws1 ⊢
  have hg21 : Hid (w.heap.size ≤ g2 ∧ g1 ≠ g2) := by rw [hg1e.out, hg2e.out]; exact ⟨Nat.le_succ _, by omega⟩
  have k0 := o1.b.cell 0
  have k1 := o1.b.cell 1
  have k2 := o1.b.cell 2
  have hD' := Lib.hid hD
  replace hM2 := Lib.hid hM2
  replace hc := Lib.hid hc
  replace hs := Lib.hid hs
  replace hlen := Lib.hid hlen
  replace hF := Lib.hid hF
  replace o1 := Lib.hid o1
  replace o2 := Lib.hid o2
  replace hA := Lib.hid hA
  replace hT := Lib.hid hT
  clear hD h hg1 hg2
  go_upto_region 3 with (first
    | (go_at_call 87; refine (hdeep.out _ _ _ ⟨_, rfl⟩ ⟨_, rfl⟩).mono ?_; rintro r w1 ⟨rfl, hb⟩; replace o1 := Lib.hid (o1.out.keep hb); replace o2 := Lib.hid (o2.out.keep hb); replace hA := Lib.hid (hA.out.keep hb); replace hT := Lib.hid (hT.out.thenB hb); have hsz := hb.size; clear k0 k1 k2 hb; have k0 := o1.out.b.cell 0; have k1 := o1.out.b.cell 1; have k2 := o1.out.b.cell 2)
    | fail)
  go_upto_region 5 with (first
    | (refine wpList_make_ints rfl (.tmp 23) (.tmp 23) rfl N N rfl rfl (Nat.le_refl _) (by omega) ?_; have hb4 := (Below.refl w1.heap.size w1).alloc (Nat.le_refl _) (.cells (iv (List.replicate N 0)) 3); have b3 := Blk.new w1 (iv (List.replicate N 0)) 3; generalize World.alloc w1 _ = w4 at hb4 b3 ⊢; replace o1 := Lib.hid (o1.out.keep hb4); replace o2 := Lib.hid (o2.out.keep hb4); have n3 := Lib.hid (fun hk => Nat.lt_irrefl _ (hA.out.lt _ hk) : ¬ w1.heap.size ∈ x.all p); replace hA := Lib.hid (hA.out.keep hb4); replace hT := Lib.hid (hT.out.thenB hb4); clear k0 k1 k2 hb4; have k0 := o1.out.b.cell 0; have k1 := o1.out.b.cell 1; have k2 := o1.out.b.cell 2)
    | fail)
  have hW : Wi w p x lim ps L g1 g2 w1.heap.size off D (widC es N 0) w4 := ⟨hA.out, hT.out, o1.out, o2.out, ⟨by rw [widC_zero]; exact b3, n3.out⟩, by omega, by omega, ⟨hg21.out.1, by have := hg1e.out; omega⟩⟩
  obtain ⟨g3, hg3e⟩ : ∃ g, Hid (g = w1.heap.size) := ⟨_, rfl⟩
  rw [← hg3e.out] at hW ⊢
  have hg12 := Lib.hid hg21.out.2
  replace hW := Lib.hid hW
  clear k0 k1 k2 o1 o2 hA hT n3 b3 hws1 hws2 hsz hg21 hg1e hg2e hg3e hsh1 hsh2 hdeep hne
  go_loopw [28] (fun a28 ws => ∃ k : Nat, k ≤ M ∧ a28 = .int .i64 (k : Int) ∧ Hid (Wi w p x lim ps L g1 g2 g3 off D (widC es N k) ws)) (fun i _ => (M - (intOf i).toNat))
  case atStart => exact ⟨0, Nat.zero_le _, rfl, hW⟩
  case round =>
    obtain ⟨k, hk, rfl, hW⟩ := hrel
    obtain ⟨k0, k1, k2⟩ := hW.out.cells
    by_cases hlt : k < M
    · have j0 : (k : Int) < M := by omega
      obtain ⟨e, he⟩ : ∃ e, Hid (es[k]? = some e) := ⟨_, List.getElem?_eq_getElem (by rw [hlen.out]; exact hlt)⟩
      have hkd : k < 2 ^ d := by rw [← hM.out]; exact hlt
      obtain ⟨J, hJ⟩ : ∃ J : Nat, Hid (J = 2 * k) := ⟨_, rfl⟩
      have hJ1 : (2 : Int) * k = J := by rw [hJ.out]; push_cast; rfl
      have hJ2 : (J : Int) + 1 < N := by rw [hJ.out, hN.out]; push_cast; omega
      have hJ3 : (J : Int) < N := by omega
      have hJ0 : (0 : Int) ≤ J := by omega
      have hst := Lib.hid (widC_step es N k (by rw [hlen.out]; exact hlt) (by rw [hN.out]; omega) e he.out)
      have hz : ∀ W, Wi w p x lim ps L g1 g2 g3 off D (widC es N k) W → W.cell? ⟨g3, J, none⟩ = some (.int .i64 0) ∧ W.cell? ⟨g3, J + 1, none⟩ = some (.int .i64 0) := fun W hWW => by
        have hle : k ≤ es.length := by rw [hlen.out]; omega
        refine ⟨?_, ?_⟩
        · rw [hWW.o3.b.cell J, iv_get, widC_get es N k hle, if_neg (by rw [hJ.out]; omega), if_pos (by omega)]; rfl
        · rw [hWW.o3.b.cell (J + 1), iv_get, widC_get es N k hle, if_neg (by rw [hJ.out]; omega), if_pos (by omega)]; rfl
      replace hz := Lib.hid hz
      go_upto_region 10 with (first
        | (go_at_call 88; refine (dir_word' hW.out.ar off d k e (hD'.out.ins k hkd) (by omega) (hD'.out.wd k e he.out) (hD'.out.rng e (List.mem_of_getElem? he.out)) D _ hDd.out rfl).mono ?_; rintro r w5 ⟨rfl, hb⟩; replace hW := Lib.hid (hW.out.keep hb); clear k0 k1 k2 hb)
        | fail)
      obtain ⟨z0, z1⟩ := hz.out _ hW.out
      have f0 := hW.out.o3.b.free J
      have f1 := hW.out.o3.b.free (J + 1)
      go_wp2_with fail
      go_roundw
      case rel => exact ⟨k + 1, by omega, by go_num, hW.out.two J (J + 1) _ _ (by rw [hJ.out]; exact hst.out)⟩
      case measure => simp [intOf]; omega
    · obtain rfl : k = M := by omega
      have hall : widC es N k = dbl es := by rw [hN.out, ← hlen.out]; exact widC_all es
      rw [hall] at hW
      have hin : IntsIn wr (some ⟨g3, 0, none⟩) (dbl es) := fun i e hi => ⟨g3, 0, rfl, by rw [hW.out.o3.b.cell (0 + i), Nat.zero_add, iv_get, hi]; rfl⟩
      have hl2 : (dbl es).length = N := by rw [dbl_len, hlen.out, hN.out]
      have hk1 : 1 ≤ k := by rw [hM.out]; exact Nat.one_le_two_pow
      have hN1 : 1 ≤ N := by rw [hN.out]; omega
      have hc8 : 8 * N ≤ c := by
        have h8 := clsN_ge' (8 * N) (by omega) (by omega)
        push_cast at h8
        rw [hc.out] at h8
        exact h8
      have hrg := dbl_rng hD'.out.rng
      have hel := hW.out.ar.endle
      replace hin := Lib.hid hin
      replace hl2 := Lib.hid hl2
      clear hall
      go_upto_region 15 with (first
        | (go_at_call 41; refine (ar_size hW.out.ar (off : Int) c0 hs.out).mono ?_; rintro r w5 ⟨rfl, rfl⟩)
        | fail)
      go_upto_region 18 with (first
        | (go_at_call 48; go_loud (refine (dir_new hW.out.ar hF.out (dbl es) (some ⟨g3, 0, none⟩) N hin.out (fun g o q => by injection q with q; injection q with q1 _; rw [← q1]; exact hW.out.o3.n) hrg d1 (by rw [hd1.out]; omega) N hl2.out hM2.out.symm c hc.out hl).mono ?_; rw [← hTA.out]; rintro r w6 ⟨rfl, x6, L6, hA6, hL6, hT6, hf6⟩; unfold dirV))
        | fail)
      have hpos := hW.out.ar.pos
      have hpos1 : ∀ y ∈ ps, 1 ≤ y.1 := fun y hy => by have := (hpos y hy).1; omega
      have hp6 : ∀ y ∈ takeP ps c, 1 ≤ y.1 := fun y hy => by have := (hA6.pos y hy).1; omega
      have hoff : (off : Int) ≠ ((takeAt ps c : Nat) : Int) := fun q => by
        have h1 := take_none ps hpos1 c (by omega)
        rw [← q, hs.out] at h1
        cases h1
      have hs6 : sizeFrom 16 (takeP ps c) (off : Int) = some c0 := by rw [take_size ps hpos1 c (by omega), if_neg hoff]; exact hs.out
      have hD6 := dir_held (d := d1) (es := dbl es) (by have := hW.out.ar.mem.le; rw [List.length_take]; omega) hL6 hrg (by rw [hd1.out]; omega) hl2.out hM2.out.symm hc8 hA6.endle
      rw [← hTA.out] at hD6
      have hDf : DirAt (freeP (takeP ps c) (off : Int)) (splice L6 TA (wordsB (dbl es))) TA d1 (dbl es) :=
        ⟨hD6.len, hD6.dl, hD6.rng, fun i hi => by rw [hTA.out]; exact inside_take_free ps hp6 (8 * i) 8 (by have := hM2.out; omega) _ hoff, hD6.wd, hD6.ob⟩
      have o1 := hW.out.o1.move hT6 hf6
      have o2 := hW.out.o2.move hT6 hf6
      have hT := hW.out.t.trans hT6
      have hf : ∀ j, j ∈ x6.all p → j ∈ x.all p ∨ w.heap.size ≤ j := fun j hj => (hf6 j hj).imp id (fun q => Nat.le_trans hW.out.t.size q)
      have hg2w := hW.out.ge.1
      have hb7 := (Below.refl w6.heap.size w6).alloc (Nat.le_refl _) (.cells #[.pointer (some ⟨p, 0, none⟩), .int .i64 (TA : Int), .int .i64 (d1 : Int)] 92)
      have o9 : Out (w6.alloc (.cells #[.pointer (some ⟨p, 0, none⟩), .int .i64 (TA : Int), .int .i64 (d1 : Int)] 92)) p x6 w6.heap.size #[.pointer (some ⟨p, 0, none⟩), .int .i64 (TA : Int), .int .i64 (d1 : Int)] 92 := ⟨Blk.new _ _ _, fun hk => Nat.lt_irrefl _ (hA6.lt _ hk)⟩
      replace o1 := o1.keep hb7
      replace o2 := o2.keep hb7
      have hg29 : g2 ≠ w6.heap.size := fun q => by have := (hW.out.o2.move hT6 hf6).b.lt; omega
      replace hA6 := hA6.keep hb7
      replace hT := hT.thenB hb7
      have hw67 := hb7.size
      generalize World.alloc w6 _ = w7 at o1 o2 o9 hA6 hT hw67 ⊢
      obtain ⟨g9, hg9⟩ : ∃ g, Hid (g = w6.heap.size) := ⟨_, rfl⟩
      rw [← hg9.out] at o9 hg29 ⊢
      clear k0 k1 k2 hb7 hf6 hT6
      have k0 := o1.b.cell 0
      have k1 := o1.b.cell 1
      have k2 := o1.b.cell 2
      have gb := Lib.hid (fun hk => Nat.lt_irrefl _ (hA6.lt _ hk) : ¬ w7.heap.size ∈ x6.all p)
      replace hs6 := Lib.hid hs6
      replace hDf := Lib.hid hDf
      replace o1 := Lib.hid o1
      replace o2 := Lib.hid o2
      replace o9 := Lib.hid o9
      replace hA6 := Lib.hid hA6
      replace hT := Lib.hid hT
      replace hf := Lib.hid hf
      clear hW hD6 hin
      go_upto_region 21 with (first
        | (go_at_call 32; go_loud (refine (free_yes (hA6.out.alloc _) [(off : Int)] w7.heap.size 0 1 1 rfl (one_ints _ _) (Nat.le_refl _) gb.out (by omega) (fun e he => by simp at he; subst he; rw [hs6.out]; rfl) (by simp)).mono ?_; rintro r w8 ⟨rfl, x8, hA8, hT8, hf8⟩; have b8 := (Below.refl w7.heap.size w7).alloc (Nat.le_refl _) (.cells #[.int .i64 (off : Int)] 3); have o2 := (o2.out.keep b8).move hT8 hf8; have o9 := (o9.out.keep b8).move hT8 hf8; have hT := Lib.hid ((hT.out.thenB b8).next hT8 hf.out); have hf9 := Lib.hid (fun j hj => (hf8 j hj).elim (fun q => hf.out j q) (fun q => .inr (Nat.le_trans (Nat.le_trans (Turns.size ‹Hid (Turns (x.all p) w w7)›.out) b8.size) q)) : ∀ j, j ∈ x8.all p → j ∈ x.all p ∨ w.heap.size ≤ j); clear b8 hf8 hT8))
        | fail)
      have m0 := o9.b.cell 0
      have m1 := o9.b.cell 1
      have m2 := o9.b.cell 2
      have z0 := o2.b.cell 0
      have z1 := o2.b.cell 1
      have z2 := o2.b.cell 2
      have f0 := o2.b.free 0
      have f1 := o2.b.free 1
      have f2 := o2.b.free 2
      have hA9 := Lib.hid hA8
      have o2h := Lib.hid o2
      clear hA8 o2 o9 k0 k1 k2
      go_wp2_with fail
      have bf := ((o2h.out.b.set 0 (.pointer (some ⟨p, 0, none⟩))).set 1 (.int .i64 (TA : Int))).set 2 (.int .i64 (d1 : Int))
      have tf : Turns [g2] w8 (((w8.setCell ⟨g2, 0, none⟩ (.pointer (some ⟨p, 0, none⟩))).setCell ⟨g2, 1, none⟩ (.int .i64 (TA : Int))).setCell ⟨g2, 2, none⟩ (.int .i64 (d1 : Int))) := (((Turns.refl _ w8).set g2 0 _ (.inl (by simp))).set g2 1 _ (.inl (by simp))).set g2 2 _ (.inl (by simp))
      have nf : ∀ j, j ∈ x8.all p → ¬ j ∈ [g2] := fun j hj q => by simp only [List.mem_singleton] at q; exact o2h.out.n (q ▸ hj)
      simp at bf
      refine widen_end bf ⟨rfl, x8, _, hA9.out.turn tf nf, hDf.out, hT.out.next tf (fun j hj => by simp only [List.mem_singleton] at hj; rw [hj]; exact .inr hg2w), hf9.out⟩ ?_ ?_ ?_
      all_goals rfl
end Go.Proofs.Ytpbalilnemjeeaa
