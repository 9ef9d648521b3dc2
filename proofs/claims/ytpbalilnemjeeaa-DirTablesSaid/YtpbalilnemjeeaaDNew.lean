/- What is proved here: the contract of dir.New where the number of entries is right and there is room. No condition. -/
import Derived.Test.YtpbalilnemjeeaaDDir
namespace Go.Proofs.Ytpbalilnemjeeaa
set_option linter.unusedVariables false
set_option linter.unusedSimpArgs false
open Go.RowKit Pm Pa Pl Pd
theorem and_two : ∀ n : Nat, n ≤ 64 → 1 ≤ n → (bits .and .i64 (n : Int) ((n : Int) - 1) = 0 ↔ ∃ d, d ≤ 6 ∧ n = 2 ^ d) := by
  have key : ∀ n : Fin 65, 1 ≤ n.val → (bits .and .i64 (n.val : Int) ((n.val : Int) - 1) = 0 ↔ ∃ d : Fin 7, n.val = 2 ^ d.val) := by decide +kernel
  intro n h1 h2
  rw [key ⟨n, by omega⟩ h2]
  exact ⟨fun ⟨d, e⟩ => ⟨d.val, by omega, e⟩, fun ⟨d, hd, e⟩ => ⟨⟨d, by omega⟩, e⟩⟩
/-- what a round of New knows -/
structure Nw (w : World) (p : Nat) (x : Loc) (lim : Nat) (ps : Parts) (g4 g9 : Nat) (off dep : Nat) (A : Option Addr) (es : List Int) (L : List UInt8) (wr : World) : Prop where
  ar : ArAt wr p x lim ps L
  b4 : Blk wr g4 #[.pointer none, .int .i64 0, .int .i64 0] 92
  b9 : Blk wr g9 #[.pointer (some ⟨p, 0, none⟩), .int .i64 (off : Int), .int .i64 (dep : Int)] 92
  n4 : ¬ g4 ∈ x.all p
  n9 : ¬ g9 ∈ x.all p
  ne : g4 ≠ g9
  ints : IntsIn wr A es
  out : ∀ g o, A = some ⟨g, o, none⟩ → ¬ g ∈ x.all p
theorem ints_turn {w w' : World} {A : Option Addr} {es : List Int} {S : List Nat} (h : IntsIn w A es) (ht : Turns S w w') (hS : ∀ g o, A = some ⟨g, o, none⟩ → ¬ g ∈ S) : IntsIn w' A es := by
  intro i n hi
  obtain ⟨g, o, e, hc⟩ := h i n hi
  exact ⟨g, o, e, turn_cell ht (hS g o e) hc⟩
section
variable {w wr w' : World} {p g4 g9 off dep : Nat} {x : Loc} {lim : Nat} {ps : Parts} {L L' : List UInt8} {A : Option Addr} {es : List Int}
theorem Nw.wrote (h : Nw w p x lim ps g4 g9 off dep A es L wr) (ha : ArAt w' p x lim ps L') (ht : Turns [x.q] wr w') : Nw w p x lim ps g4 g9 off dep A es L' w' := by
  have hq := ArAt.q_all x p
  have hn : ∀ g, ¬ g ∈ x.all p → ¬ g ∈ [x.q] := fun g hg hk => hg (hq g hk)
  exact ⟨ha, h.b4.turn ht (hn _ h.n4), h.b9.turn ht (hn _ h.n9), h.n4, h.n9, h.ne, ints_turn h.ints ht (fun g o e => hn _ (h.out g o e)), h.out⟩
theorem Nw.cells (h : Nw w p x lim ps g4 g9 off dep A es L wr) : wr.cell? ⟨g9, 0, none⟩ = some (.pointer (some ⟨p, 0, none⟩)) ∧ wr.cell? ⟨g9, 1, none⟩ = some (.int .i64 (off : Int)) ∧ wr.cell? ⟨g9, 2, none⟩ = some (.int .i64 (dep : Int)) := ⟨h.b9.cell 0, h.b9.cell 1, h.b9.cell 2⟩
end
theorem Nw.deeper {w wr : World} {p g4 g9 off dep : Nat} {x : Loc} {lim : Nat} {ps : Parts} {L : List UInt8} {A : Option Addr} {es : List Int} (h : Nw w p x lim ps g4 g9 off dep A es L wr) (dep' : Nat) (hg : ∀ g o, A = some ⟨g, o, none⟩ → g ≠ g9) (V : Int) (hV : V = dep') :
    Nw w p x lim ps g4 g9 off dep' A es L (wr.setCell ⟨g9, 2, none⟩ (.int .i64 V)) := by
  subst hV
  have ht : Turns [g9] wr (wr.setCell ⟨g9, 2, none⟩ (.int .i64 (dep' : Int))) := (Turns.refl _ wr).set g9 2 _ (.inl (by simp))
  have h9 := h.b9.set 2 (.int .i64 (dep' : Int))
  exact ⟨h.ar.turn ht (fun k hk e => by simp only [List.mem_singleton] at e; exact h.n9 (e ▸ hk)), h.b4.other g9 2 _ (fun e => h.ne e.symm), by simpa using h9, h.n4, h.n9, h.ne,
    ints_turn h.ints ht (fun g o e => by simp only [List.mem_singleton]; exact hg g o e), h.out⟩
theorem inside_take (ps : Parts) (c j k : Nat) (h : j + k ≤ c) : Inside (takeP ps c) (takeAt ps c + j) k := by
  rcases take_case ps c with ⟨_, e1, e2, _⟩ | ⟨a, b, rfl, _, e1, e2, _⟩
  · rw [e1, e2]
    refine ⟨ps.length, c, by simp, ?_, ?_⟩
    · unfold stOf endOf; rw [List.take_left' rfl]; omega
    · unfold stOf endOf; rw [List.take_left' rfl]; omega
  · rw [e1, e2]
    refine ⟨a.length, c, by simp, ?_, ?_⟩
    · unfold stOf endOf; rw [List.take_left' rfl]; omega
    · unfold stOf endOf; rw [List.take_left' rfl]; omega
theorem words_step (L : List UInt8) (off k n : Nat) (es : List Int) (e : Int) (hn : es.length = n) (hk : es[k]? = some e) (hL : off + 8 * n ≤ L.length) : splice (splice L off (wordsB (es.take k))) (off + 8 * k) (leB 8 (uN e)) = splice L off (wordsB (es.take (k + 1))) := by
  have hlt : k < es.length := (List.getElem?_eq_some_iff.1 hk).1
  have hl : (wordsB (es.take k)).length = 8 * k := by rw [wordsB_len, List.length_take]; omega
  have h1 := splice_splice_next L off (wordsB (es.take k)) (leB 8 (uN e)) (by rw [hl, leB_len]; omega)
  rw [hl] at h1
  rw [h1, List.take_add_one, hk, Option.toList_some, wordsB_snoc]
theorem new_end {w wr : World} {p c g4 g9 off d : Nat} {x x2 : Loc} {lim : Nat} {ps : Parts} {L L2 : List UInt8} {A : Option Addr} {es : List Int} {a : Act}
    (h : Nw w p x2 lim (takeP ps c) g4 g9 off d A es (splice L2 off (wordsB es)) wr) (hT : Turns (x.all p) w wr) (hg : w.heap.size ≤ g4) (D : Int) (hD : D = d) (hf : ∀ k, k ∈ x2.all p → k ∈ x.all p ∨ w.heap.size ≤ k) (hoff : off = takeAt ps c) (hL : L2.take (endOf (takeP ps c)) = takeB (L.take (endOf ps)) ps c)
    (ha4 : a.tmps[4]? = some (.pointer (some ⟨g4, 0, none⟩))) (ha5 : a.tmps[5]? = some (.int .i64 0)) (had : a.defers = []) :
    bodyPost Try.prog Try.f48 (fun e w' => e = .returned (.tuple #[dirV p (takeAt ps c) d, .int .i64 0]) ∧ ∃ x' L', ArAt w' p x' lim (takeP ps c) (splice L' (takeAt ps c) (wordsB es)) ∧
      L'.take (endOf (takeP ps c)) = takeB (L.take (endOf ps)) ps c ∧ Turns (x.all p) w w' ∧ (∀ k, k ∈ x'.all p → k ∈ x.all p ∨ w.heap.size ≤ k)) .ret a
      (((wr.setCell ⟨g4, 0, none⟩ (.pointer (some ⟨p, 0, none⟩))).setCell ⟨g4, 1, none⟩ (.int .i64 (off : Int))).setCell ⟨g4, 2, none⟩ (.int .i64 D)) := by
  subst hD hoff
  have hB := ((h.b4.set 0 (.pointer (some ⟨p, 0, none⟩))).set 1 (.int .i64 (takeAt ps c : Int))).set 2 (.int .i64 (d : Int))
  have hT4 : Turns [g4] wr (((wr.setCell ⟨g4, 0, none⟩ (.pointer (some ⟨p, 0, none⟩))).setCell ⟨g4, 1, none⟩ (.int .i64 (takeAt ps c : Int))).setCell ⟨g4, 2, none⟩ (.int .i64 (d : Int))) := (((Turns.refl _ wr).set g4 0 _ (.inl (by simp))).set g4 1 _ (.inl (by simp))).set g4 2 _ (.inl (by simp))
  generalize World.setCell _ _ _ = wf at hB hT4 ⊢
  have e0 := hB.cell 0
  have e1 := hB.cell 1
  have e2 := hB.cell 2
  simp at e0 e1 e2
  refine bodyPost_ret (v := .tuple #[dirV p (takeAt ps c) d, .int .i64 0]) ?_ had ⟨rfl, x2, L2, ?_, hL, hT.next hT4 ?_, hf⟩
  · simp [results, Try.results48, go_sem, dirV, ha4, ha5, e0, e1, e2]
  · exact h.ar.turn hT4 (fun k hk e => by simp only [List.mem_singleton] at e; exact h.n4 (e ▸ hk))
  · intro k hk
    simp only [List.mem_singleton] at hk
    exact .inr (by omega)
set_option maxHeartbeats 4000000 in
set_option maxRecDepth 100000 in
theorem dir_new {w : World} {p : Nat} {x : Loc} {lim : Nat} {ps : Parts} {L : List UInt8} (h : ArAt w p x lim ps L) (hF : Held lim ps) (es : List Int) (A : Option Addr) (cap : Nat) (hin : IntsIn w A es) (hAp : ∀ g o, A = some ⟨g, o, none⟩ → ¬ g ∈ x.all p) (hes : ∀ e ∈ es, isI e)
    (d : Nat) (hd : d ≤ 6) (n : Nat) (hn : es.length = n) (hn2 : n = 2 ^ d) (c : Nat) (hc : clsN (8 * (n : Int)) = c) (hl : liveSum ps + c ≤ lim) :
    Calls Try.prog 48 #[.pointer (some ⟨p, 0, none⟩), .slice A n cap] w fun e w' => e = .returned (.tuple #[dirV p (takeAt ps c) d, .int .i64 0]) ∧ ∃ x' L', ArAt w' p x' lim (takeP ps c) (splice L' (takeAt ps c) (wordsB es)) ∧
      L'.take (endOf (takeP ps c)) = takeB (L.take (endOf ps)) ps c ∧ Turns (x.all p) w w' ∧ (∀ k, k ∈ x'.all p → k ∈ x.all p ∨ w.heap.size ≤ k) := by
  have hn1 : 1 ≤ n := by rw [hn2]; exact Nat.one_le_two_pow
  have hn64 : n ≤ 64 := by rw [hn2]; exact Nat.pow_le_pow_right (by decide) hd
  have hand := (and_two n hn64 hn1).2 ⟨d, hd, hn2⟩
  have hcb := (clsN_is (n := 8 * (n : Int)) (by omega)).2
  rw [hc] at hcb
  have hc8 : 8 * n ≤ c := by have := clsN_ge' (8 * n) (by omega) (by omega); push_cast at this; rw [hc] at this; exact this
  have g1 : ¬ (n : Int) < 1 := by omega
  have g2 : ¬ (64 : Int) < n := by omega
  have hA := Lib.hid h
  clear h
  replace hn2 := Lib.hid hn2
  replace hin := Lib.hid hin
  replace hAp := Lib.hid hAp
  replace hes := Lib.hid hes
  replace hF := Lib.hid hF
  replace hc := Lib.hid hc
  obtain ⟨off, hoff⟩ : ∃ off, Hid (off = takeAt ps c) := ⟨_, rfl⟩
  go_enter Try.func48, Try.ntmps48
  go_upto_region 7 with (first
    | (go_at_call 28; refine (alloc_gen (hA.out.alloc _) hF.out (8 * (n : Int)) (by omega) (by rw [hc.out]; exact hl)).mono ?_; rw [hc.out, ← hoff.out]; rintro e w2 ⟨x2, L2, rfl, h2, hL2, hT2, hf2⟩; replace h2 := Lib.hid h2; replace hL2 := Lib.hid hL2; replace hT2 := Lib.hid hT2)
    | fail)
  go_upto_region 9 with (fail)
  have hlt := hA.out.lt
  have hsz2 : w.heap.size + 1 ≤ w2.heap.size := by have := hT2.out.size; simpa using this
  have h4x : ¬ w.heap.size ∈ x.all p := fun hk => Nat.lt_irrefl _ (hlt _ hk)
  have hglt : ∀ g o, A = some ⟨g, o, none⟩ → g < w.heap.size := by
    intro g o e
    obtain ⟨e0, he0⟩ : ∃ e0, es[0]? = some e0 := ⟨_, List.getElem?_eq_getElem (by omega)⟩
    obtain ⟨g', o', e', hc'⟩ := hin.out 0 e0 he0
    rw [e] at e'
    injection e' with e'
    injection e' with e1 e2
    subst e1
    exact World.block_lt_of_cell? w _ hc'
  have hN0 : Nw w p x2 lim (takeP ps c) w.heap.size w2.heap.size off 0 A es L2 (w2.alloc (.cells #[.pointer (some ⟨p, 0, none⟩), .int .i64 (off : Int), .int .i64 0] 92)) := by
    have b4 := ((Blk.new w #[.pointer none, .int .i64 0, .int .i64 0] 92).turn hT2.out h4x).alloc (.cells #[.pointer (some ⟨p, 0, none⟩), .int .i64 (off : Int), .int .i64 0] 92)
    have b9 := Blk.new w2 #[.pointer (some ⟨p, 0, none⟩), .int .i64 (off : Int), .int .i64 0] 92
    refine ⟨h2.out.alloc _, b4, b9, fun hk => ?_, fun hk => Nat.lt_irrefl _ (h2.out.lt _ hk), by omega, ?_, fun g o e hk => ?_⟩
    · rcases hf2 _ hk with e | e
      · exact h4x e
      · simp at e; omega
    · refine ints_turn (ints_turn (ints_turn hin.out ((Turns.refl [] w).alloc _) (by simp)) hT2.out (fun g o e => hAp.out g o e)) ((Turns.refl [] w2).alloc _) (by simp)
    · rcases hf2 _ hk with e1 | e1
      · exact hAp.out g o e e1
      · have := hglt g o e; simp at e1; omega
  have hT0 : Turns (x.all p) w (w2.alloc (.cells #[.pointer (some ⟨p, 0, none⟩), .int .i64 (off : Int), .int .i64 0] 92)) := (((Turns.refl _ w).alloc _).trans hT2.out).alloc _
  have hqs : ∀ k, k ∈ [x2.q] → k ∈ x.all p ∨ w.heap.size ≤ k := by
    intro k hk
    simp only [List.mem_singleton] at hk
    subst hk
    rcases hf2 x2.q (ArAt.q_all x2 p x2.q (by simp)) with e | e
    · exact .inl e
    · simp at e; exact .inr (by omega)
  have hf2' : ∀ k, k ∈ x2.all p → k ∈ x.all p ∨ w.heap.size ≤ k := by
    intro k hk
    rcases hf2 k hk with e | e
    · exact .inl e
    · simp at e; exact .inr (by omega)
  have hend : off + c ≤ endOf (takeP ps c) := by
    have := h2.out.inside (inside_take ps c 0 c (by omega))
    rw [hoff.out]; omega
  have hLl : endOf (takeP ps c) ≤ L2.length := h2.out.mem.le
  have hLc : endOf (takeP ps c) ≤ 134217728 := h2.out.endle
  obtain ⟨g4, hg4⟩ : ∃ g, Hid (g = w.heap.size) := ⟨_, rfl⟩
  obtain ⟨g9, hg9⟩ : ∃ g, Hid (g = w2.heap.size) := ⟨_, rfl⟩
  rw [← hg4.out, ← hg9.out] at hN0
  rw [← hg4.out, ← hg9.out]
  have hg94 : w.heap.size < g9 := by rw [hg9.out]; omega
  replace hf2' := Lib.hid hf2'
  replace hqs := Lib.hid hqs
  generalize World.alloc w2 _ = w3 at hN0 hT0 ⊢
  replace hN0 := Lib.hid hN0
  replace hT0 := Lib.hid hT0
  clear hf2 hglt h4x hlt hsz2 hT2 h2 g1 g2 hand
  go_loopw [45] (fun a45 wr => ∃ k : Nat, k ≤ n ∧ a45 = .int .i64 (k : Int) ∧ Hid (Nw w p x2 lim (takeP ps c) g4 g9 off 0 A es (splice L2 off (wordsB (es.take k))) wr) ∧ Hid (Turns (x.all p) w wr)) (fun i _ => (n - (intOf i).toNat))
  case atStart =>
    refine ⟨0, Nat.zero_le _, rfl, ?_, hT0⟩
    have e0 : splice L2 off (wordsB (es.take 0)) = L2 := splice_nil L2 off
    rw [e0]; exact hN0
  case round =>
    obtain ⟨k, hk, rfl, hN, hT⟩ := hrel
    by_cases hlt : k < n
    · obtain ⟨e, he⟩ : ∃ e, Hid (es[k]? = some e) := ⟨_, List.getElem?_eq_getElem (by omega)⟩
      obtain ⟨g, o, rfl, hcl⟩ := hN.out.ints k e he.out
      obtain ⟨c0, c1, c2⟩ := hN.out.cells
      have k0 : (0 : Int) ≤ k := by omega
      have k1 : (k : Int) < n := by omega
      have hins := Lib.hid (inside_take ps c (8 * k) 8 (by omega))
      go_wp2_with (first
        | (go_at_call 86; refine (dir_set' hN.out.ar off 0 k e (by rw [hoff.out]; exact hins.out) (by omega) _ _ rfl rfl).mono ?_; rintro r w5 ⟨rfl, h5, hT5⟩)
        | fail)
      go_roundw
      case rel =>
        rw [words_step L2 off k n es e hn he.out (by omega)] at h5
        exact ⟨k + 1, by omega, by go_num, hN.out.wrote h5 hT5, hT.out.next hT5 hqs.out⟩
      case measure => simp [intOf]; omega
    · obtain rfl : k = n := by omega
      rw [List.take_of_length_le (by omega)] at hN
      go_upto_region 15 with (fail)
      go_loopw [59] (fun a59 ws => ∃ j : Nat, j ≤ d ∧ Hid (Nw w p x2 lim (takeP ps c) g4 g9 off j A es (splice L2 off (wordsB es)) ws) ∧ Hid (Turns (x.all p) w ws)) (fun _ ws => d - (intOf ((ws.cell? ⟨g9, 2, none⟩).getD (.int .i64 0))).toNat)
      case atStart => exact ⟨0, Nat.zero_le _, hN, hT⟩
      case round =>
        obtain ⟨j, hj, hM, hS⟩ := hrel
        obtain ⟨c0, c1, c2⟩ := hM.out.cells
        have f2 := hM.out.b9.free 2
        have j0 : (0 : Int) ≤ j := by omega
        have hAne : ∀ g o, A = some ⟨g, o, none⟩ → g ≠ g9 := by
          intro g o e
          obtain ⟨e0, he0⟩ : ∃ e0, es[0]? = some e0 := ⟨_, List.getElem?_eq_getElem (by omega)⟩
          obtain ⟨g', o', e', hc'⟩ := hin.out 0 e0 he0
          rw [e] at e'
          injection e' with e'
          injection e' with e1 e2
          subst e1
          have h1 := World.block_lt_of_cell? w _ hc'
          simp only [] at h1
          omega
        have hj7 : j = 0 ∨ j = 1 ∨ j = 2 ∨ j = 3 ∨ j = 4 ∨ j = 5 ∨ j = 6 := by omega
        clear j0
        rcases hj7 with rfl | rfl | rfl | rfl | rfl | rfl | rfl
        · replace c2 : wr.cell? ⟨g9, 2, none⟩ = some (.int .i64 0) := c2
          by_cases hlj : 0 < d
          · have htk : (1 : Int) < k := by
              have h1 : 2 ^ 0 < 2 ^ d := Nat.pow_lt_pow_right (by decide) hlj
              have h2 := hn2.out
              omega
            go_wp2_with fail
            have hM2 := hM.out.deeper 1 hAne 1 rfl
            go_roundw
            case rel => exact ⟨1, by omega, hM2, hS.out.set g9 2 _ (.inr (by omega))⟩
            case measure =>
              have h8 := hM2.b9.cell 2
              rw [h8, c2]
              simp [intOf]
              omega
          · obtain rfl : d = 0 := by omega
            have htk : ¬ (1 : Int) < k := by
              have h2 := hn2.out
              omega
            have q0 := hM.out.b4.cell 0
            have q1 := hM.out.b4.cell 1
            have q2 := hM.out.b4.cell 2
            have r0 := hM.out.b4.free 0
            have r1 := hM.out.b4.free 1
            have r2 := hM.out.b4.free 2
            go_wp2_with fail
            refine new_end hM.out hS.out (Nat.le_of_eq hg4.out.symm) 0 rfl hf2'.out hoff.out hL2.out ?_ ?_ ?_
            all_goals rfl
        · replace c2 : wr.cell? ⟨g9, 2, none⟩ = some (.int .i64 1) := c2
          by_cases hlj : 1 < d
          · have htk : (2 : Int) < k := by
              have h1 : 2 ^ 1 < 2 ^ d := Nat.pow_lt_pow_right (by decide) hlj
              have h2 := hn2.out
              omega
            go_wp2_with fail
            have hM2 := hM.out.deeper 2 hAne 2 rfl
            go_roundw
            case rel => exact ⟨2, by omega, hM2, hS.out.set g9 2 _ (.inr (by omega))⟩
            case measure =>
              have h8 := hM2.b9.cell 2
              rw [h8, c2]
              simp [intOf]
              omega
          · obtain rfl : d = 1 := by omega
            have htk : ¬ (2 : Int) < k := by
              have h2 := hn2.out
              omega
            have q0 := hM.out.b4.cell 0
            have q1 := hM.out.b4.cell 1
            have q2 := hM.out.b4.cell 2
            have r0 := hM.out.b4.free 0
            have r1 := hM.out.b4.free 1
            have r2 := hM.out.b4.free 2
            go_wp2_with fail
            refine new_end hM.out hS.out (Nat.le_of_eq hg4.out.symm) 1 rfl hf2'.out hoff.out hL2.out ?_ ?_ ?_
            all_goals rfl
        · replace c2 : wr.cell? ⟨g9, 2, none⟩ = some (.int .i64 2) := c2
          by_cases hlj : 2 < d
          · have htk : (4 : Int) < k := by
              have h1 : 2 ^ 2 < 2 ^ d := Nat.pow_lt_pow_right (by decide) hlj
              have h2 := hn2.out
              omega
            go_wp2_with fail
            have hM2 := hM.out.deeper 3 hAne 3 rfl
            go_roundw
            case rel => exact ⟨3, by omega, hM2, hS.out.set g9 2 _ (.inr (by omega))⟩
            case measure =>
              have h8 := hM2.b9.cell 2
              rw [h8, c2]
              simp [intOf]
              omega
          · obtain rfl : d = 2 := by omega
            have htk : ¬ (4 : Int) < k := by
              have h2 := hn2.out
              omega
            have q0 := hM.out.b4.cell 0
            have q1 := hM.out.b4.cell 1
            have q2 := hM.out.b4.cell 2
            have r0 := hM.out.b4.free 0
            have r1 := hM.out.b4.free 1
            have r2 := hM.out.b4.free 2
            go_wp2_with fail
            refine new_end hM.out hS.out (Nat.le_of_eq hg4.out.symm) 2 rfl hf2'.out hoff.out hL2.out ?_ ?_ ?_
            all_goals rfl
        · replace c2 : wr.cell? ⟨g9, 2, none⟩ = some (.int .i64 3) := c2
          by_cases hlj : 3 < d
          · have htk : (8 : Int) < k := by
              have h1 : 2 ^ 3 < 2 ^ d := Nat.pow_lt_pow_right (by decide) hlj
              have h2 := hn2.out
              omega
            go_wp2_with fail
            have hM2 := hM.out.deeper 4 hAne 4 rfl
            go_roundw
            case rel => exact ⟨4, by omega, hM2, hS.out.set g9 2 _ (.inr (by omega))⟩
            case measure =>
              have h8 := hM2.b9.cell 2
              rw [h8, c2]
              simp [intOf]
              omega
          · obtain rfl : d = 3 := by omega
            have htk : ¬ (8 : Int) < k := by
              have h2 := hn2.out
              omega
            have q0 := hM.out.b4.cell 0
            have q1 := hM.out.b4.cell 1
            have q2 := hM.out.b4.cell 2
            have r0 := hM.out.b4.free 0
            have r1 := hM.out.b4.free 1
            have r2 := hM.out.b4.free 2
            go_wp2_with fail
            refine new_end hM.out hS.out (Nat.le_of_eq hg4.out.symm) 3 rfl hf2'.out hoff.out hL2.out ?_ ?_ ?_
            all_goals rfl
        · replace c2 : wr.cell? ⟨g9, 2, none⟩ = some (.int .i64 4) := c2
          by_cases hlj : 4 < d
          · have htk : (16 : Int) < k := by
              have h1 : 2 ^ 4 < 2 ^ d := Nat.pow_lt_pow_right (by decide) hlj
              have h2 := hn2.out
              omega
            go_wp2_with fail
            have hM2 := hM.out.deeper 5 hAne 5 rfl
            go_roundw
            case rel => exact ⟨5, by omega, hM2, hS.out.set g9 2 _ (.inr (by omega))⟩
            case measure =>
              have h8 := hM2.b9.cell 2
              rw [h8, c2]
              simp [intOf]
              omega
          · obtain rfl : d = 4 := by omega
            have htk : ¬ (16 : Int) < k := by
              have h2 := hn2.out
              omega
            have q0 := hM.out.b4.cell 0
            have q1 := hM.out.b4.cell 1
            have q2 := hM.out.b4.cell 2
            have r0 := hM.out.b4.free 0
            have r1 := hM.out.b4.free 1
            have r2 := hM.out.b4.free 2
            go_wp2_with fail
            refine new_end hM.out hS.out (Nat.le_of_eq hg4.out.symm) 4 rfl hf2'.out hoff.out hL2.out ?_ ?_ ?_
            all_goals rfl
        · replace c2 : wr.cell? ⟨g9, 2, none⟩ = some (.int .i64 5) := c2
          by_cases hlj : 5 < d
          · have htk : (32 : Int) < k := by
              have h1 : 2 ^ 5 < 2 ^ d := Nat.pow_lt_pow_right (by decide) hlj
              have h2 := hn2.out
              omega
            go_wp2_with fail
            have hM2 := hM.out.deeper 6 hAne 6 rfl
            go_roundw
            case rel => exact ⟨6, by omega, hM2, hS.out.set g9 2 _ (.inr (by omega))⟩
            case measure =>
              have h8 := hM2.b9.cell 2
              rw [h8, c2]
              simp [intOf]
              omega
          · obtain rfl : d = 5 := by omega
            have htk : ¬ (32 : Int) < k := by
              have h2 := hn2.out
              omega
            have q0 := hM.out.b4.cell 0
            have q1 := hM.out.b4.cell 1
            have q2 := hM.out.b4.cell 2
            have r0 := hM.out.b4.free 0
            have r1 := hM.out.b4.free 1
            have r2 := hM.out.b4.free 2
            go_wp2_with fail
            refine new_end hM.out hS.out (Nat.le_of_eq hg4.out.symm) 5 rfl hf2'.out hoff.out hL2.out ?_ ?_ ?_
            all_goals rfl
        · replace c2 : wr.cell? ⟨g9, 2, none⟩ = some (.int .i64 6) := c2
          by_cases hlj : 6 < d
          · exact absurd hlj (by omega)
          · obtain rfl : d = 6 := by omega
            have htk : ¬ (64 : Int) < k := by
              have h2 := hn2.out
              omega
            have q0 := hM.out.b4.cell 0
            have q1 := hM.out.b4.cell 1
            have q2 := hM.out.b4.cell 2
            have r0 := hM.out.b4.free 0
            have r1 := hM.out.b4.free 1
            have r2 := hM.out.b4.free 2
            go_wp2_with fail
            refine new_end hM.out hS.out (Nat.le_of_eq hg4.out.symm) 6 rfl hf2'.out hoff.out hL2.out ?_ ?_ ?_
            all_goals rfl
end Go.Proofs.Ytpbalilnemjeeaa
