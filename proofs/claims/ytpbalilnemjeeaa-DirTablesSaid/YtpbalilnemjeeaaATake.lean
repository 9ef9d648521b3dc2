/- What is proved here: the contract of the arena's take where no block of the class is free: a new part at the end. No condition. -/
import Derived.Test.YtpbalilnemjeeaaAAt
namespace Go.Proofs.Ytpbalilnemjeeaa
set_option linter.unusedVariables false
set_option linter.unusedSimpArgs false
open Go.RowKit Pm Pa
theorem infoInt : (Try.prog.info? 3).map (fun i => (i.zero, i.size, i.bytes)) = some (some (.int .i64 0), 1, 8) := by kernel_rfl
theorem grow_any {w : World} {p q n : Nat} {L : List UInt8} (h : MemAt w p q L n) (size : Nat) (h1 : n ≤ size) (h2 : size ≤ 134217728) (S : Int) (hS : S = size) : Calls Try.prog 85 #[.pointer (some ⟨p, 0, none⟩), .int .i64 S] w fun e w' =>
    e = .returned (.int .i64 0) ∧ ∃ q' L', MemAt w' p q' L' size ∧ L'.take size = L.take n ++ List.replicate (size - n) 0 ∧ Turns [p, q] w w' ∧ (q' = q ∨ q' = w.heap.size) := by
  subst hS
  by_cases hc : size ≤ L.length
  · refine (grow_room h size h1 hc).mono ?_
    rintro e w' ⟨rfl, hm, ht⟩
    refine ⟨rfl, q, L, hm, ?_, ht, .inl rfl⟩
    have hz := zero_splice h size h1 hc
    apply List.ext_getElem?
    intro i
    have hl : (L.take n).length = n := by rw [List.length_take]; exact Nat.min_eq_left h.le
    rw [List.getElem?_take]
    by_cases hi : i < n
    · rw [if_pos (by omega), List.getElem?_append_left (by rw [hl]; exact hi), List.getElem?_take, if_pos hi]
    · rw [List.getElem?_append_right (by rw [hl]; omega), List.getElem?_replicate, hl]
      by_cases hi2 : i < size
      · rw [if_pos hi2, if_pos (by omega)]; exact h.zer i (by omega) (by omega)
      · rw [if_neg hi2, if_neg (by omega)]
  · refine (grow_new h size (by omega) h2).mono ?_
    rintro e w' ⟨rfl, L', hm, hl, ht⟩
    exact ⟨rfl, w.heap.size, L', hm, hl, ht.more (fun x hx => Or.inl (by simp at hx; simp [hx])), .inr rfl⟩
theorem free_none {w : World} {b : Nat} {ps : Parts} {fb : List Nat} (h : FreeAt w b ps fb) (k : Int) (hk : (Lit.int .i64 k).wf = true) (hd : deadFrom 16 ps k = []) :
    ∃ A c, (Instr.lookup 126 (.map (some b)) (.int .i64 k) false).run Try.prog w = .ok (.slice A 0 c) w := by
  obtain ⟨f, h1, h2, _⟩ := h
  have h3 := FM.look h1 hk
  have h4 := h2 k hk
  rw [hd] at h4
  rcases h4 with ⟨e, _⟩ | ⟨g, o, cap, cur, e, _⟩
  · rw [e] at h3; exact ⟨_, _, h3⟩
  · rw [e] at h3; exact ⟨_, _, h3⟩
set_option maxHeartbeats 4000000 in
set_option maxRecDepth 100000 in
theorem take_new {w : World} {p : Nat} {x : Loc} {lim : Nat} {ps : Parts} {L : List UInt8} (h : ArAt w p x lim ps L) (c : Nat) (hc : 16 ≤ c ∧ c ≤ 1048576) (hd : deadFrom 16 ps c = []) (hroom : endOf ps + c ≤ 134217728) (hlim : liveSum ps + c ≤ lim) (C : Int) (hC : C = c) :
    Calls Try.prog 65 #[.pointer (some ⟨p, 0, none⟩), .int .i64 C] w fun e w' =>
      e = .returned (.tuple #[.int .i64 (endOf ps : Int), .int .i64 0]) ∧ ∃ x' L', ArAt w' p x' lim (ps ++ [(c, true)]) L' ∧ L'.take (endOf ps + c) = L.take (endOf ps) ++ List.replicate c 0 ∧ Turns (x.all p) w w' ∧ ∀ k, k ∈ x'.all p → k ∈ x.all p ∨ w.heap.size ≤ k := by
  subst hC
  obtain ⟨c0, c1, c2, c3, c4, c5, c6⟩ := h.cells
  have hlen := h.len
  have hlv := h.lv
  have hlm := h.lm
  have hwc : (Lit.int .i64 (c : Int)).wf = true := WalkArith.wf_i64 (by omega)
  have hwe : (Lit.int .i64 (endOf ps : Int)).wf = true := WalkArith.wf_i64 (by omega)
  obtain ⟨A, ca, hlk⟩ := free_none h.fr (c : Int) hwc hd
  obtain ⟨i0, hi, hz0, hz1, hz2⟩ := info_parts infoInt
  replace hi := Lib.hid hi
  replace hz0 := Lib.hid hz0
  replace hz1 := Lib.hid hz1
  replace hz2 := Lib.hid hz2
  have hA := Lib.hid h
  have hm := h.mem
  obtain ⟨E, hE⟩ : ∃ E, Hid (E = endOf ps) := ⟨_, rfl⟩
  rw [← hE.out] at hm hwe hroom ⊢
  clear h
  go_enter Try.func65, Try.ntmps65
  obtain ⟨lab, l0, l1, l2, l3, l4, l5, l6, l7⟩ := hA.out.nd
  go_upto_region 10 with (first
    | (go_at_call 33; refine (ar_end hA.out).mono ?_; rintro e w' ⟨rfl, rfl⟩; rw [← hE.out])
    | (go_at_call 85; refine (grow_any hm (E + c) (by omega) hroom _ (by push_cast; rfl)).mono ?_; rintro e w1 ⟨rfl, q1, L1, hm1, hL1, ht1, hq1⟩)
    | fail)
  have hS1 : ∀ k, k ∈ [x.m, x.q] → lab k = 1 ∨ lab k = 2 := by simp [l1, l2]
  have hd1 := Lib.hid (hA.out.hd.turn ht1 (fun hk => by rcases hS1 _ hk with e | e <;> omega))
  have hst1 := Lib.hid (row_turn hA.out.st ht1 (fun g hg hk => by have := l5 g hg; rcases hS1 _ hk with e | e <;> omega))
  have hcl1 := Lib.hid (row_turn hA.out.cl ht1 (fun g hg hk => by have := l6 g hg; rcases hS1 _ hk with e | e <;> omega))
  have hsz1 := Lib.hid (hA.out.sz.turn ht1 (fun hk => by rcases hS1 _ hk with e | e <;> omega))
  have hfr1 := Lib.hid (free_turn hA.out.fr ht1 (fun hk => by rcases hS1 _ hk with e | e <;> omega) (fun g hg hk => by have := l7 g hg; rcases hS1 _ hk with e | e <;> omega))
  have hlt1 : ∀ k, k ∈ x.all p → k < w.heap.size := hA.out.lt
  have hqn : q1 = x.q ∨ w.heap.size ≤ q1 := by rcases hq1 with e | e; exact .inl e; exact .inr (by omega)
  have hw1 := ht1.size
  replace hm1 := Lib.hid hm1
  replace ht1 := Lib.hid ht1
  clear c0 c1 c2 c3 c4 c5 c6 hlk hq1 hm
  have c3 := hd1.out.cell 3
  have fp := hd1.out.free 3
  have hlb : ∀ k, k ∈ x.all p → lab k ≤ 7 := fun k hk => by
    rcases (mem_all k).1 hk with rfl | rfl | rfl | rfl | rfl | hk | hk | hk
    · omega
    · omega
    · omega
    · omega
    · omega
    · rw [l5 _ hk]; omega
    · rw [l6 _ hk]; omega
    · rw [l7 _ hk]; omega
  go_upto_region 11 with (first
    | (at_builtin; refine wpList_append_own_at _ rfl _ _ 29 rfl 0 3 i0 (.int .i64 0) 1 8 Try.underlying29 hi.out hz0.out hz1.out hz2.out rfl (by decide) _ _ _ rfl (hst1.out.alloc _) ⟨w1.heap.size, 0, none⟩ 1 1 [.int .i64 (E : Int)] rfl rfl (cell_one_new _ _ _) (by simp [Value.oneCell']) (by unfold maxLen; omega) (by omega) (Nat.zero_le _) ?_; intro v1n w2 hown hgrow hnil hloc; clear hnil; obtain ⟨g1, cap1, rfl⟩ := ownsRow_succ hown; replace hloc : some g1 = x.v1.ownBlock ∨ g1 = w1.heap.size + 1 := hloc.imp (fun e => e) (fun e => by simpa [Value.ownBlock] using e); have hT : Turns (rows x.v1) w1 w2 := ((Turns.refl _ w1).alloc _).trans (turns_grown hgrow); have hdx := hd1.out.turn hT (fun hk => by have := l5 _ hk; omega); have cx := hdx.cell 3; have fx := hdx.free 3)
    | fail)
  clear c3 fp cx fx
  have hp1 : ¬ p ∈ rows x.v1 := fun hk => by have := l5 _ hk; omega
  have hg1 : g1 ∈ rows x.v1 ∨ w1.heap.size ≤ g1 := by
    rcases hloc with e | e
    · exact .inl (by rw [rows, ← e]; simp)
    · right; omega
  have hgp : g1 ≠ p := fun e => by
    rcases hg1 with h9 | h9
    · rw [e] at h9; exact hp1 h9
    · have := hlt1 p (by simp [Loc.all]); omega
  have hS2 : ∀ k, k ∈ p :: rows x.v1 → (lab k = 0 ∨ lab k = 5) ∧ k < w.heap.size := fun k hk => by
    rcases List.mem_cons.1 hk with rfl | hk
    · exact ⟨.inl l0, hlt1 _ (by simp [Loc.all])⟩
    · exact ⟨.inr (l5 _ hk), hlt1 _ (by simp [Loc.all, hk])⟩
  obtain ⟨V1, hV1⟩ : ∃ V, Hid (V = Value.slice (some ⟨g1, 0, none⟩) (ps.length + 1) cap1) := ⟨_, rfl⟩
  have hT13 : Turns (p :: rows x.v1) w1 (w2.setCell ⟨p, 3, none⟩ V1) := (hT.more (fun y hy => .inl (by simp [hy]))).set p 3 _ (.inl (by simp))
  have hd3 : Blk (w2.setCell ⟨p, 3, none⟩ V1) p #[.int .i64 (lim : Int), .int .i64 (liveSum ps : Int), .pointer (some ⟨x.m, 0, none⟩), V1, x.v2, .map (some x.bs), .map (some x.bf)] 128 := by
    have := hdx.set 3 V1
    simpa using this
  have hst3 : (w2.setCell ⟨p, 3, none⟩ V1).ownsRow 0 3 1 V1 (ps.length + 1) (ints (starts ps) ++ [.int .i64 (E : Int)]) := by
    rw [hV1.out]
    exact row_turn hown ((Turns.refl [p] w2).set p 3 _ (.inl (by simp))) (fun g hg hk => by simp [rows, Value.ownBlock] at hg hk; exact hgp (by rw [← hg, hk]))
  have hm3 := hm1.out.turn hT13 (fun hk => by rcases (hS2 _ hk).1 with e | e <;> omega) (fun hk => by rcases hqn with e | e; (rw [e] at hk; rcases (hS2 _ hk).1 with e | e <;> omega); (have := (hS2 _ hk).2; omega))
  have hcl3 := row_turn hcl1.out hT13 (fun g hg hk => by have := l6 g hg; rcases (hS2 _ hk).1 with e | e <;> omega)
  have hsz3 := hsz1.out.turn hT13 (fun hk => by rcases (hS2 _ hk).1 with e | e <;> omega)
  have hfr3 := free_turn hfr1.out hT13 (fun hk => by rcases (hS2 _ hk).1 with e | e <;> omega) (fun g hg hk => by have := l7 g hg; rcases (hS2 _ hk).1 with e | e <;> omega)
  have hg1r : rows V1 = [g1] := by rw [hV1.out]; simp [rows, Value.ownBlock]
  have hq1l : q1 < w1.heap.size := hm1.out.dat.lt
  have hg1l : g1 < (w2.setCell ⟨p, 3, none⟩ V1).heap.size := row_lt hst3 (by rw [hg1r]; simp)
  have hw3 : w1.heap.size ≤ (w2.setCell ⟨p, 3, none⟩ V1).heap.size := hT13.size
  rw [← hV1.out]
  clear hown hgrow hloc hdx hT hd1 hst1 hcl1 hsz1 hfr1 hm1 hV1
  generalize World.setCell w2 _ _ = w3 at hT13 hd3 hst3 hm3 hcl3 hsz3 hfr3 hg1l hw3 ⊢
  replace hT13 := Lib.hid hT13
  replace hd3 := Lib.hid hd3
  replace hst3 := Lib.hid hst3
  replace hm3 := Lib.hid hm3
  replace hcl3 := Lib.hid hcl3
  replace hsz3 := Lib.hid hsz3
  replace hfr3 := Lib.hid hfr3
  have c4 := hd3.out.cell 4
  have fp := hd3.out.free 4
  go_upto_region 12 with (first
    | (at_builtin; refine wpList_append_own_at _ rfl _ _ 29 rfl 0 3 i0 (.int .i64 0) 1 8 Try.underlying29 hi.out hz0.out hz1.out hz2.out rfl (by decide) _ _ _ rfl (hcl3.out.alloc _) ⟨w3.heap.size, 0, none⟩ 1 1 [.int .i64 (c : Int)] rfl rfl (cell_one_new _ _ _) (by simp [Value.oneCell']) (by unfold maxLen; omega) (by omega) (Nat.zero_le _) ?_; intro v2n w4 hown hgrow hnil hloc; clear hnil; obtain ⟨g2, cap2, rfl⟩ := ownsRow_succ hown; replace hloc : some g2 = x.v2.ownBlock ∨ g2 = w3.heap.size + 1 := hloc.imp (fun e => e) (fun e => by simpa [Value.ownBlock] using e); have hT : Turns (rows x.v2) w3 w4 := ((Turns.refl _ w3).alloc _).trans (turns_grown hgrow); have hdx := hd3.out.turn hT (fun hk => by have := l6 _ hk; omega); have cx := hdx.cell 4; have fx := hdx.free 4)
    | fail)
  clear c4 fp cx fx
  have hp2 : ¬ p ∈ rows x.v2 := fun hk => by have := l6 _ hk; omega
  have hg2 : g2 ∈ rows x.v2 ∨ w3.heap.size ≤ g2 := by
    rcases hloc with e | e
    · exact .inl (by rw [rows, ← e]; simp)
    · right; omega
  have hgp2 : g2 ≠ p := fun e => by
    rcases hg2 with h9 | h9
    · rw [e] at h9; exact hp2 h9
    · have := hlt1 p (by simp [Loc.all]); omega
  have hS3 : ∀ k, k ∈ p :: rows x.v2 → (lab k = 0 ∨ lab k = 6) ∧ k < w.heap.size := fun k hk => by
    rcases List.mem_cons.1 hk with rfl | hk
    · exact ⟨.inl l0, hlt1 _ (by simp [Loc.all])⟩
    · exact ⟨.inr (l6 _ hk), hlt1 _ (by simp [Loc.all, hk])⟩
  obtain ⟨V2, hV2⟩ : ∃ V, Hid (V = Value.slice (some ⟨g2, 0, none⟩) (ps.length + 1) cap2) := ⟨_, rfl⟩
  have hT35 : Turns (p :: rows x.v2) w3 (w4.setCell ⟨p, 4, none⟩ V2) := (hT.more (fun y hy => .inl (by simp [hy]))).set p 4 _ (.inl (by simp))
  have hd5 : Blk (w4.setCell ⟨p, 4, none⟩ V2) p #[.int .i64 (lim : Int), .int .i64 (liveSum ps : Int), .pointer (some ⟨x.m, 0, none⟩), V1, V2, .map (some x.bs), .map (some x.bf)] 128 := by
    have := hdx.set 4 V2
    simpa using this
  have hcl5 : (w4.setCell ⟨p, 4, none⟩ V2).ownsRow 0 3 1 V2 (ps.length + 1) (ints (ps.map (·.1)) ++ [.int .i64 (c : Int)]) := by
    rw [hV2.out]
    exact row_turn hown ((Turns.refl [p] w4).set p 4 _ (.inl (by simp))) (fun g hg hk => by simp [rows, Value.ownBlock] at hg hk; exact hgp2 (by rw [← hg, hk]))
  have hm5 := hm3.out.turn hT35 (fun hk => by rcases (hS3 _ hk).1 with e | e <;> omega) (fun hk => by rcases hqn with e | e; (rw [e] at hk; rcases (hS3 _ hk).1 with e | e <;> omega); (have := (hS3 _ hk).2; omega))
  have hst5 := row_turn hst3.out hT35 (fun g hg hk => by
    rw [hg1r] at hg
    simp only [List.mem_singleton] at hg
    subst hg
    rcases hg1 with h9 | h9
    · have := l5 _ h9; rcases (hS3 _ hk).1 with e | e <;> omega
    · have := (hS3 _ hk).2; omega)
  have hsz5 := hsz3.out.turn hT35 (fun hk => by rcases (hS3 _ hk).1 with e | e <;> omega)
  have hfr5 := free_turn hfr3.out hT35 (fun hk => by rcases (hS3 _ hk).1 with e | e <;> omega) (fun g hg hk => by have := l7 g hg; rcases (hS3 _ hk).1 with e | e <;> omega)
  have hg2r : rows V2 = [g2] := by rw [hV2.out]; simp [rows, Value.ownBlock]
  have hw5 : w3.heap.size ≤ (w4.setCell ⟨p, 4, none⟩ V2).heap.size := hT35.size
  rw [← hV2.out]
  clear hown hgrow hloc hdx hT hd3 hst3 hcl3 hsz3 hfr3 hm3 hV2
  generalize World.setCell w4 _ _ = w5 at hT35 hd5 hst5 hm5 hcl5 hsz5 hfr5 hw5 ⊢
  replace hT35 := Lib.hid hT35
  replace hst5 := Lib.hid hst5
  replace hm5 := Lib.hid hm5
  replace hcl5 := Lib.hid hcl5
  replace hfr5 := Lib.hid hfr5
  obtain ⟨w6, hrun, hsz6, hT6⟩ := SM.store hsz5 (by unfold maxLen; omega) hwe hwc
  have hS4 : ∀ k, k ∈ [x.bs] → lab k = 3 ∧ k < w.heap.size := by
    intro k hk
    simp only [List.mem_singleton] at hk
    subst hk
    exact ⟨l3, hlt1 _ (by simp [Loc.all])⟩
  have hd6 := hd5.turn hT6 (fun hk => by have := (hS4 _ hk).1; omega)
  have c5 := hd5.cell 5
  have c1 := hd6.cell 1
  have f1 := hd6.free 1
  clear hsz5
  replace hsz6 := Lib.hid hsz6
  replace hT6 := Lib.hid hT6
  replace hd6 := Lib.hid hd6
  replace hd5 := Lib.hid hd5
  go_wp2_with fail
  go_ret2
  have hTf : Turns [p] w6 (w6.setCell ⟨p, 1, none⟩ (.int .i64 ((liveSum ps : Int) + c))) := (Turns.refl _ _).set p 1 _ (.inl (by simp))
  have hpq : p ≠ q1 := fun e => by
    rcases hqn with h9 | h9
    · rw [e, h9] at l0; omega
    · have := hlt1 p (by simp [Loc.all]); omega
  have hpm : p ≠ x.m := fun e => by rw [e] at l0; omega
  have hqb : q1 ≠ x.bs := fun e => by
    rcases hqn with h9 | h9
    · rw [← h9, e] at l2; omega
    · have := hlt1 x.bs (by simp [Loc.all]); omega
  have hg1b : g1 ≠ x.bs := fun e => by
    rcases hg1 with h9 | h9
    · have := l5 _ h9; rw [e] at this; omega
    · have := hlt1 x.bs (by simp [Loc.all]); omega
  have hg2b : g2 ≠ x.bs := fun e => by
    rcases hg2 with h9 | h9
    · have := l6 _ h9; rw [e] at this; omega
    · have := hlt1 x.bs (by simp [Loc.all]); omega
  have h6s := hT6.out.size
  have hfs : (w6.setCell ⟨p, 1, none⟩ (.int .i64 ((liveSum ps : Int) + c))).heap.size = w6.heap.size := by simp [World.setCell]
  have hp0 := l0
  refine ⟨rfl, ⟨x.m, q1, x.bs, x.bf, V1, V2, x.fb⟩, L1, ⟨?_, ?_, ?_, ?_, ?_, ?_, ?_, ?_, ?_, ?_, hlm⟩, ?_, ?_, ?_⟩
  · have h9 := hd6.out.set 1 (.int .i64 ((liveSum ps : Int) + c))
    rw [liveSum_app, Int.natCast_add]
    simpa using h9
  · rw [endOf_app, ← hE.out]
    exact (hm5.out.turn hT6.out (fun hk => by have := (hS4 _ hk).1; omega) (fun hk => by simp only [List.mem_singleton] at hk; exact hqb hk)).setO p 1 _ hpm hpq
  · rw [List.length_append, starts_app, ints_app, ← hE.out]
    refine row_turn (row_turn hst5.out hT6.out (fun g hg hk => ?_)) hTf (fun g hg hk => ?_)
    · rw [hg1r] at hg; simp only [List.mem_singleton] at hg hk; exact hg1b (by rw [← hg, hk])
    · rw [hg1r] at hg; simp only [List.mem_singleton] at hg hk; exact hgp (by rw [← hg, hk])
  · rw [List.length_append, List.map_append, show List.map (fun y : Nat × Bool => y.1) [(c, true)] = [c] from rfl, ints_app]
    refine row_turn (row_turn hcl5.out hT6.out (fun g hg hk => ?_)) hTf (fun g hg hk => ?_)
    · rw [hg2r] at hg; simp only [List.mem_singleton] at hg hk; exact hg2b (by rw [← hg, hk])
    · rw [hg2r] at hg; simp only [List.mem_singleton] at hg hk; exact hgp2 (by rw [← hg, hk])
  · rw [List.length_append, szF_app ps (fun a ha => by have := (hA.out.pos a ha).1; omega), ← hE.out]
    exact hsz6.out.turn hTf (fun hk => by simp only [List.mem_singleton] at hk; rw [hk] at l3; omega)
  · exact free_app (free_turn (free_turn hfr5.out hT6.out (fun hk => by have := (hS4 _ hk).1; omega) (fun g hg hk => by have := (hS4 _ hk).1; have := l7 g hg; omega)) hTf (fun hk => by simp only [List.mem_singleton] at hk; rw [hk] at l4; omega) (fun g hg hk => by simp only [List.mem_singleton] at hk; have := l7 g hg; rw [hk] at this; omega)) c
  · refine Tagged.turn hA.out.nd (N := w.heap.size) hlt1 rfl rfl rfl rfl hqn (fun g hg => ?_) (fun g hg => ?_)
    · change g ∈ rows V1 at hg
      rw [hg1r] at hg; simp only [List.mem_singleton] at hg; subst hg
      rcases hg1 with h9 | h9
      · exact .inl h9
      · exact .inr ⟨by omega, fun e => by change g = q1 at e; omega⟩
    · change g ∈ rows V2 at hg
      rw [hg2r] at hg; simp only [List.mem_singleton] at hg; subst hg
      rcases hg2 with h9 | h9
      · exact .inl h9
      · exact .inr ⟨by omega, fun e => by (change g = q1 at e; omega), fun e => by (change g ∈ rows V1 at e; rw [hg1r] at e; simp only [List.mem_singleton] at e; omega)⟩
  · intro k hk
    have := hA.out.fl k hk
    omega
  · intro a ha
    rcases List.mem_append.1 ha with ha | ha
    · exact hA.out.pos a ha
    · simp only [List.mem_singleton] at ha; subst ha; exact hc
  · rw [liveSum_app]; exact hlim
  · rw [hL1, Nat.add_sub_cancel_left]
  · refine ((((ht1.out.more (fun y hy => .inl ?_)).trans (hT13.out.more (fun y hy => .inl ?_))).trans (hT35.out.more (fun y hy => .inl ?_))).trans (hT6.out.more (fun y hy => .inl ?_))).trans (hTf.more (fun y hy => .inl ?_))
    · rw [mem_all]; simp at hy; rcases hy with e | e <;> simp [e]
    · rw [mem_all]; rcases List.mem_cons.1 hy with e | e <;> simp [e]
    · rw [mem_all]; rcases List.mem_cons.1 hy with e | e <;> simp [e]
    · rw [mem_all]; simp at hy; simp [hy]
    · rw [mem_all]; simp at hy; simp [hy]
  · intro k hk
    rw [mem_all] at hk ⊢
    rcases hk with e | e | e | e | e | e | e | e
    · exact .inl (.inl e)
    · exact .inl (.inr (.inl e))
    · rcases hqn with h9 | h9
      · exact .inl (.inr (.inr (.inl (e.trans h9))))
      · exact .inr (by rw [e]; exact h9)
    · exact .inl (by simp [show k = x.bs from e])
    · exact .inl (by simp [show k = x.bf from e])
    · change k ∈ rows V1 at e
      rw [hg1r] at e; simp only [List.mem_singleton] at e; subst e
      rcases hg1 with h9 | h9
      · exact .inl (by simp [h9])
      · exact .inr (by omega)
    · change k ∈ rows V2 at e
      rw [hg2r] at e; simp only [List.mem_singleton] at e; subst e
      rcases hg2 with h9 | h9
      · exact .inl (by simp [h9])
      · exact .inr (by omega)
    · exact .inl (by simp [show k ∈ x.fb from e])
end Go.Proofs.Ytpbalilnemjeeaa
