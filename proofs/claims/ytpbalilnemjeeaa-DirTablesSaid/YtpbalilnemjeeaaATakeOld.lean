/- What is proved here: the contract of the arena's take where a block of the class is free: the lowest such part lives again, all zero. No condition. -/
import Derived.Test.YtpbalilnemjeeaaATake
import Derived.Test.YtpbalilnemjeeaaASpl
import Derived.Test.YtpbalilnemjeeaaAFit
import Derived.StillTailTactics
namespace Go.Proofs.Ytpbalilnemjeeaa
set_option linter.unusedVariables false
set_option linter.unusedSimpArgs false
open Go.RowKit Pm Pa
theorem fill_zero {w : World} {p q n : Nat} {L : List UInt8} (h : MemAt w p q L n) (off k : Nat) (hf : off + k ≤ n) (O K B : Int) (hO : O = off) (hK : K = k) (hB : B = 0) : Calls Try.prog 71 #[.pointer (some ⟨p, 0, none⟩), .int .i64 O, .int .i64 K, .int .u8 B] w fun e w' =>
    e = .returned (.int .i64 0) ∧ MemAt w' p q (splice L off (List.replicate k 0)) n ∧ Turns [q] w w' := by
  subst hO hK hB
  exact fill_in h off k 0 hf
theorem free_row_turn {w w' : World} {S fb : List Nat} {u : Value} {xs : List Nat} (h : FreeRow w fb u xs) (ht : Turns S w w') (hf : ∀ g, g ∈ fb → ¬ g ∈ S) : FreeRow w' fb u xs := by
  rcases h with h | ⟨g, o, cap, cur, e1, e2, e3, e4⟩
  · exact .inl h
  · exact .inr ⟨g, o, cap, cur, e1, e2, (ht.block g (Array.getElem?_eq_some_iff.1 e3).1 (hf g e2)).trans e3, e4⟩
theorem sz_starts (ps : Parts) (k : Int) (h : (szF ps k).isSome = true) : k ∈ (starts ps).map fun (x : Nat) => (x : Int) := by
  unfold szF at h
  rw [Option.isSome_map] at h
  obtain ⟨c, hc⟩ := Option.isSome_iff_exists.1 h
  obtain ⟨a, b, rfl, rfl⟩ := live_split 16 ps k c hc
  refine List.mem_map.2 ⟨16 + total a, ?_, rfl⟩
  unfold starts
  rw [startsFrom_split]
  exact List.mem_append_right _ (by simp [startsFrom])
theorem sz_fit {w : World} {b n : Nat} {ps : Parts} (h : SM w b n (szF ps)) : SM w b ps.length (szF ps) :=
  IM.fit h ((starts ps).map fun (x : Nat) => (x : Int)) (fun k _ hk => sz_starts ps k hk) _ (by simp [starts, startsFrom_len])
/-- the map of the free blocks: the head of a class is taken off -/
theorem free_head {w : World} {bf c : Nat} {a b : Parts} {fb : List Nat} (h : FreeAt w bf (a ++ (c, false) :: b) fb) (hd : deadFrom 16 a c = []) (hwc : (Lit.int .i64 (c : Int)).wf = true) (hlen : (a ++ (c, false) :: b).length < maxLen) (hbf : ¬ bf ∈ fb) :
    ∃ g o o' n cap, (if cap = 0 then some (⟨g, o, none⟩ : Addr) else some ⟨g, o + 1, none⟩) = some ⟨g, o', none⟩ ∧ (Instr.lookup 126 (.map (some bf)) (.int .i64 (c : Int)) false).run Try.prog w = .ok (.slice (some ⟨g, o, none⟩) (n + 1) (cap + 1)) w ∧ w.cell? ⟨g, o, none⟩ = some (.int .i64 (endOf a : Int)) ∧ n ≤ cap ∧
      ∀ w1, Turns [] w w1 → ∃ w', (Instr.mapUpdate 126 (.map (some bf)) (.int .i64 (c : Int)) (.slice (some ⟨g, o', none⟩) n cap)).run Try.prog w1 = .ok () w' ∧ FreeAt w' bf (a ++ (c, true) :: b) fb ∧ Turns [bf] w1 w' := by
  obtain ⟨f, h1, h2, h3, h4⟩ := h
  have hr := h2 c hwc
  have hdd : deadFrom 16 (a ++ (c, false) :: b) c = endOf a :: deadFrom (endOf a + c) b c := by rw [dead_dead, if_pos rfl, hd, List.nil_append]
  rw [hdd] at hr
  have hlk := FM.look h1 hwc
  rcases hr with ⟨_, e⟩ | ⟨g, o, cap, cur, e1, e2, e3, e4, e5, e7, e6⟩
  · cases e
  · rw [e1] at hlk
    have hfc : f c = some (.slice (some ⟨g, o, none⟩) (endOf a :: deadFrom (endOf a + c) b c).length cap) := by
      cases hfc : f c with
      | none => rw [hfc] at e1; cases e1
      | some u => rw [hfc] at e1; exact congrArg some e1
    simp only [List.length_cons] at e5 hlk hfc
    obtain ⟨cap, rfl⟩ : ∃ k, cap = k + 1 := ⟨cap - 1, by omega⟩
    have hblk : Blk w g cur 3 := e3
    obtain ⟨o', ho', ho1, ho2⟩ : ∃ o', (if cap = 0 then some (⟨g, o, none⟩ : Addr) else some ⟨g, o + 1, none⟩) = some ⟨g, o', none⟩ ∧ o' + cap ≤ cur.size ∧ (cap = 0 ∨ o' = o + 1) := by
      by_cases e : cap = 0
      · exact ⟨o, by rw [if_pos e], by omega, .inl e⟩
      · exact ⟨o + 1, by rw [if_neg e], by omega, .inr rfl⟩
    refine ⟨g, o, o', _, cap, ho', hlk, ?_, by omega, ?_⟩
    · clear ho' ho1 ho2
      rw [hblk.cell o]
      have := e6 0 _ rfl
      simpa using this
    · intro w1 hw1
      replace h1 := h1.turn hw1 (by simp)
      obtain ⟨w', hrun, hF, hT⟩ := IM.store (R := heads) Try.underlying126 h1 hlen hwc (v := .slice (some ⟨g, o', none⟩) (deadFrom (endOf a + c) b c).length cap) (z := _) rfl
      refine ⟨w', hrun, ⟨_, IM.fit hF ((a ++ (c, true) :: b).map fun y => (y.1 : Int)) (fun k _ hk => ?_) _ (by simp), fun k hk => ?_, fun j k u v g' hjk hu hv hgu hgv => ?_, fun k hk => ?_⟩, hT⟩
      · by_cases e : k = (c : Int)
        · subst e; exact List.mem_map.2 ⟨(c, true), by simp, rfl⟩
        · rw [upd_other _ _ _ _ e] at hk
          have := h4 k hk
          simpa using this
      · by_cases e : k = (c : Int)
        · subst e
          rw [upd_same, dead_live, hd, List.nil_append]
          refine .inr ⟨g, o', cap, cur, rfl, e2, ?_, ho1, by omega, by omega, fun i y hi => ?_⟩
          · exact ((hT.block g (Nat.lt_of_lt_of_le hblk.lt hw1.size) (by simp; exact fun e => hbf (e ▸ e2))).trans (hw1.block g hblk.lt (by simp))).trans e3
          · have h9 := e6 (i + 1) y (by simpa using hi)
            have h8 := (List.getElem?_eq_some_iff.1 hi).1
            rw [show o' + i = o + (i + 1) by omega]; exact h9
        · rw [upd_other _ _ _ _ e]
          have e9 : deadFrom 16 (a ++ (c, true) :: b) k = deadFrom 16 (a ++ (c, false) :: b) k := by rw [dead_live, dead_dead, if_neg e]
          rw [e9]
          exact free_row_turn (free_row_turn (h2 k hk) hw1 (by simp)) hT (fun g' hg' => by simp; exact fun e => hbf (e ▸ hg'))
      · have key : ∀ (i : Int) (u : Value) (gg : Nat), upd f c (some (.slice (some ⟨g, o', none⟩) (deadFrom (endOf a + c) b c).length cap)) i = some u → u.ownBlock = some gg → ∃ u', f i = some u' ∧ u'.ownBlock = some gg := by
          intro i u gg hi hg
          by_cases e : i = (c : Int)
          · subst e
            rw [upd_same] at hi
            cases hi
            exact ⟨_, hfc, hg⟩
          · rw [upd_other _ _ _ _ e] at hi
            exact ⟨u, hi, hg⟩
        obtain ⟨u', hu', hgu'⟩ := key j u g' hu hgu
        obtain ⟨v', hv', hgv'⟩ := key k v g' hv hgv
        exact h3 j k u' v' g' hjk hu' hv' hgu' hgv'
      · by_cases e : k = (c : Int)
        · subst e; exact List.mem_map.2 ⟨(c, true), by simp, rfl⟩
        · rw [upd_other _ _ _ _ e] at hk
          have := h4 k hk
          simpa using this
set_option maxHeartbeats 4000000 in
set_option maxRecDepth 100000 in
theorem take_old {w : World} {p c : Nat} {x : Loc} {lim : Nat} {a b : Parts} {L : List UInt8} (h : ArAt w p x lim (a ++ (c, false) :: b) L) (hd : deadFrom 16 a c = []) (hlim : liveSum (a ++ (c, false) :: b) + c ≤ lim) (C : Int) (hC : C = c) :
    Calls Try.prog 65 #[.pointer (some ⟨p, 0, none⟩), .int .i64 C] w fun e w' =>
      e = .returned (.tuple #[.int .i64 (endOf a : Int), .int .i64 0]) ∧ ArAt w' p x lim (a ++ (c, true) :: b) (splice L (endOf a) (List.replicate c 0)) ∧ Turns (x.all p) w w' := by
  subst hC
  obtain ⟨c0, c1, c2, c3, c4, c5, c6⟩ := h.cells
  have hpos := h.pos (c, false) (by simp)
  have hposa : ∀ y ∈ a, 1 ≤ y.1 := fun y hy => by have := (h.pos y (by simp [hy])).1; omega
  have hlen := h.len
  have hlv := h.lv
  have hlm := h.lm
  have hel := h.endle
  have hea : endOf a + c ≤ endOf (a ++ (c, false) :: b) := by unfold endOf; rw [total_app, total_cons]; simp only []; omega
  simp only [] at hpos
  have hwc : (Lit.int .i64 (c : Int)).wf = true := WalkArith.wf_i64 (by omega)
  have hwe : (Lit.int .i64 (endOf a : Int)).wf = true := WalkArith.wf_i64 (by omega)
  obtain ⟨lab, l0, l1, l2, l3, l4, l5, l6, l7⟩ := id h.nd
  have hbf : ¬ x.bf ∈ x.fb := fun hk => by have := l7 _ hk; omega
  obtain ⟨g, o, o', n, cap, hoo, hlk, hcell, hncap, hup⟩ := free_head h.fr hd hwc (by unfold maxLen; omega) hbf
  obtain ⟨w3, hrun, hfr, hT3⟩ := hup w.drew (Turns.refl _ _).drew
  clear hup
  replace hT3 := (Turns.refl [x.bf] w).drew.trans hT3
  have hA := Lib.hid h
  clear h
  obtain ⟨E, hE⟩ : ∃ E, Hid (E = endOf a) := ⟨_, rfl⟩
  rw [← hE.out] at hwe hcell hea ⊢
  obtain ⟨EE, hEE⟩ : ∃ E, Hid (E = endOf (a ++ (c, false) :: b)) := ⟨_, rfl⟩
  replace hfr := Lib.hid hfr
  replace hT3 := Lib.hid hT3
  replace hoo := Lib.hid hoo
  have i1 : (1 : Int) ≤ n + 1 := by omega
  go_enter Try.func65, Try.ntmps65
  go_upto_region 5 with (first
    | (go_at_call 33; refine (ar_end hA.out).mono ?_; rintro e w' ⟨rfl, rfl⟩; rw [← hEE.out])
    | fail)
  go_still_tail 7, (by kernel_rfl)
  rw [hoo.out]
  have hd3 := hA.out.hd.turn hT3.out (fun hk => by simp only [List.mem_singleton] at hk; rw [hk] at l0; omega)
  have hm3 := hA.out.mem.turn hT3.out (fun hk => by simp only [List.mem_singleton] at hk; rw [hk] at l1; omega) (fun hk => by simp only [List.mem_singleton] at hk; rw [hk] at l2; omega)
  have c2 := hd3.cell 2
  replace hd3 := Lib.hid hd3
  replace hm3 := Lib.hid hm3
  clear c0 c1 c3 c4 c5 c6 hcell
  rw [← hEE.out] at hea hel
  go_upto_region 12 with (first
    | (go_at_call 71; refine (fill_zero hm3.out E c (by rw [← hEE.out]; exact hea) _ _ _ rfl rfl rfl).mono ?_; rintro e w4 ⟨rfl, hm4, hT4⟩)
    | fail)
  have hS4 : ∀ k, k ∈ [x.q] → lab k = 2 := by simp [l2]
  have hd4 := hd3.out.turn hT4 (fun hk => by have := hS4 _ hk; omega)
  have hsz4 := (hA.out.sz.turn hT3.out (fun hk => by simp only [List.mem_singleton] at hk; rw [hk] at l3; omega)).turn hT4 (fun hk => by have := hS4 _ hk; omega)
  obtain ⟨w5, hrun5, hsz5, hT5⟩ := SM.store hsz4 (by unfold maxLen; omega) hwe hwc
  have hd5 := hd4.turn hT5 (fun hk => by simp only [List.mem_singleton] at hk; rw [hk] at l0; omega)
  have c5 := hd4.cell 5
  have c1 := hd5.cell 1
  have f1 := hd5.free 1
  clear c2 hsz4
  replace hd5 := Lib.hid hd5
  replace hd4 := Lib.hid hd4
  replace hsz5 := Lib.hid hsz5
  replace hT5 := Lib.hid hT5
  replace hT4 := Lib.hid hT4
  replace hm4 := Lib.hid hm4
  go_wp2_with fail
  go_ret2
  have hTf : Turns [p] w5 (w5.setCell ⟨p, 1, none⟩ (.int .i64 ((liveSum (a ++ (c, false) :: b) : Int) + c))) := (Turns.refl _ _).set p 1 _ (.inl (by simp))
  have s3 : ∀ k, k ∈ [x.bf] → lab k = 4 := by simp [l4]
  have s5 : ∀ k, k ∈ [x.bs] → lab k = 3 := by simp [l3]
  have sf : ∀ k, k ∈ [p] → lab k = 0 := by simp [l0]
  have hrow : ∀ {size n : Nat} {v : Value} {xs : List Value}, w.ownsRow 0 3 size v n xs → (∀ g, g ∈ rows v → lab g = 5 ∨ lab g = 6) → (w5.setCell ⟨p, 1, none⟩ (.int .i64 ((liveSum (a ++ (c, false) :: b) : Int) + c))).ownsRow 0 3 size v n xs := by
    intro size n v xs hr hl
    refine row_turn (row_turn (row_turn (row_turn hr hT3.out ?_) hT4.out ?_) hT5.out ?_) hTf ?_
    · intro g hg hk; have := hl g hg; have := s3 g hk; omega
    · intro g hg hk; have := hl g hg; have := hS4 g hk; omega
    · intro g hg hk; have := hl g hg; have := s5 g hk; omega
    · intro g hg hk; have := hl g hg; have := sf g hk; omega
  have hlive := liveSum_flip a b c
  refine ⟨rfl, ⟨?_, ?_, ?_, ?_, ?_, ?_, hA.out.nd, ?_, ?_, ?_, hlm⟩, ?_⟩
  · have h9 := hd5.out.set 1 (.int .i64 ((liveSum (a ++ (c, false) :: b) : Int) + c))
    rw [hlive, Int.natCast_add]
    simpa using h9
  · rw [endOf_flip a b c true false]
    exact ((hm4.out.turn hT5.out (fun hk => by have := s5 _ hk; omega) (fun hk => by have := s5 _ hk; omega)).turn hTf (fun hk => by have := sf _ hk; omega) (fun hk => by have := sf _ hk; omega))
  · rw [starts_flip a b c true false, len_flip a b c true false]
    exact hrow hA.out.st (fun g hg => .inl (l5 g hg))
  · rw [fst_flip a b c true false, len_flip a b c true false]
    exact hrow hA.out.cl (fun g hg => .inr (l6 g hg))
  · have h9 := hsz5.out
    rw [hE.out, ← szF_live a b c hposa (by omega)] at h9
    exact (sz_fit h9).turn hTf (fun hk => by have := sf _ hk; omega)
  · refine free_turn (free_turn (free_turn hfr.out hT4.out ?_ ?_) hT5.out ?_ ?_) hTf ?_ ?_
    · intro hk; have := hS4 _ hk; omega
    · intro g hg hk; have := hS4 _ hk; have := l7 g hg; omega
    · intro hk; have := s5 _ hk; omega
    · intro g hg hk; have := s5 _ hk; have := l7 g hg; omega
    · intro hk; have := sf _ hk; omega
    · intro g hg hk; have := sf _ hk; have := l7 g hg; omega
  · intro k hk
    exact Nat.lt_of_lt_of_le (hA.out.fl k hk) (Nat.le_trans hT3.out.size (Nat.le_trans hT4.out.size (Nat.le_trans hT5.out.size hTf.size)))
  · intro y hy
    rcases List.mem_append.1 hy with hy | hy
    · exact hA.out.pos y (by simp [hy])
    · rcases List.mem_cons.1 hy with rfl | hy
      · exact hpos
      · exact hA.out.pos y (by simp [hy])
  · rw [hlive]; exact hlim
  · refine (((hT3.out.more (fun y hy => .inl ?_)).trans (hT4.out.more (fun y hy => .inl ?_))).trans (hT5.out.more (fun y hy => .inl ?_))).trans (hTf.more (fun y hy => .inl ?_))
    · simp only [List.mem_singleton] at hy; subst hy; exact (mem_all _).2 (by simp)
    · simp only [List.mem_singleton] at hy; subst hy; exact (mem_all _).2 (by simp)
    · simp only [List.mem_singleton] at hy; subst hy; exact (mem_all _).2 (by simp)
    · simp only [List.mem_singleton] at hy; subst hy; exact (mem_all _).2 (by simp)
end Go.Proofs.Ytpbalilnemjeeaa
