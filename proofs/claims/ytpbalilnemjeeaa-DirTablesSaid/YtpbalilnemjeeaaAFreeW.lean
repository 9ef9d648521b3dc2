/- What is proved here: the contract of Free where every offset begins a live block, each once. Conditions: the arena is there. -/
import Derived.Test.YtpbalilnemjeeaaAFreeL
import Derived.Deep.RegionHeld3
namespace Go.Proofs.Ytpbalilnemjeeaa
set_option linter.unusedVariables false
set_option linter.unusedSimpArgs false
open Go.RowKit Pm Pa
theorem ints_some {w : World} {b o : Nat} {zs : List Int} (h : IntsIn w (some ⟨b, o, none⟩) zs) (j : Nat) (e : Int) (hj : zs[j]? = some e) : w.cell? ⟨b, o + j, none⟩ = some (.int .i64 e) := by
  obtain ⟨g, o', q, hc⟩ := h j e hj
  injection q with q
  injection q with e1 e2
  subst e1 e2
  exact hc
theorem ints_turned {w w' : World} {A : Option Addr} {es : List Int} {S : List Nat} (h : IntsIn w A es) (ht : Turns S w w') (hS : ∀ g o, A = some ⟨g, o, none⟩ → ¬ g ∈ S) : IntsIn w' A es := by
  intro i n hi
  obtain ⟨g, o, e, hc⟩ := h i n hi
  exact ⟨g, o, e, turn_cell ht (hS g o e) hc⟩
theorem not_taken {l : List Int} (h : l.Nodup) (k : Nat) (e : Int) (hk : l[k]? = some e) : ¬ e ∈ l.take k := by
  intro hm
  obtain ⟨j, hj, hje⟩ := List.mem_iff_getElem.1 hm
  rw [List.length_take] at hj
  rw [List.getElem_take] at hje
  have h1 := (List.getElem?_eq_some_iff.1 hk).1
  have h2 := (List.getElem?_eq_some_iff.1 hk).2
  exact List.pairwise_iff_getElem.1 h j k (by omega) h1 (by omega) (hje.trans h2.symm)
theorem row_sorted (a b : Parts) (c : Nat) (hp : ∀ y ∈ a ++ (c, true) :: b, 16 ≤ y.1 ∧ y.1 ≤ 1048576) :
    (∀ y ∈ deadFrom 16 a (c : Int), y < endOf a) ∧ (∀ y ∈ deadFrom (endOf a + c) b (c : Int), endOf a < y) ∧ (deadFrom 16 a (c : Int) ++ deadFrom (endOf a + c) b (c : Int)).Pairwise (· < ·) := by
  have ha : ∀ y ∈ a, 1 ≤ y.1 := fun y hy => by have := (hp y (by simp [hy])).1; omega
  have hb : ∀ y ∈ b, 1 ≤ y.1 := fun y hy => by have := (hp y (by simp [hy])).1; omega
  have hc := (hp (c, true) (by simp)).1
  simp only [] at hc
  have h1 : ∀ y ∈ deadFrom 16 a (c : Int), y < endOf a := fun y hy => (dead_range 16 a c ha y hy).2
  have h2 : ∀ y ∈ deadFrom (endOf a + c) b (c : Int), endOf a < y := fun y hy => by have := (dead_range (endOf a + c) b c hb y hy).1; omega
  refine ⟨h1, h2, List.pairwise_append.2 ⟨dead_rise 16 a c ha, dead_rise _ b c hb, fun x hx y hy => ?_⟩⟩
  have := h1 x hx
  have := h2 y hy
  omega
set_option maxHeartbeats 4000000 in
set_option maxRecDepth 100000 in
theorem free_yes {w : World} {p : Nat} {x : Loc} {lim : Nat} {ps : Parts} {L : List UInt8} (h : ArAt w p x lim ps L) (ofs : List Int) (g o cap n : Nat) (hn : ofs.length = n) (hin : IntsIn w (some ⟨g, o, none⟩) ofs) (hcap : n ≤ cap) (hg : ¬ g ∈ x.all p) (hlen : n ≤ 1099511627776)
    (hlive : ∀ e ∈ ofs, (sizeFrom 16 ps e).isSome = true) (hnd : ofs.Nodup) :
    Calls Try.prog 32 #[.pointer (some ⟨p, 0, none⟩), .slice (some ⟨g, o, none⟩) n cap] w fun e w' => e = .returned (.int .i64 0) ∧ ∃ x', ArAt w' p x' lim (freesP ps ofs) L ∧ Turns (x.all p) w w' ∧ ∀ k, k ∈ x'.all p → k ∈ x.all p ∨ w.heap.size ≤ k := by
  obtain ⟨c0, c1, c2, c3, c4, c5, c6⟩ := h.cells
  have hpos1 : ∀ y ∈ ps, 1 ≤ y.1 := fun y hy => by have := (h.pos y hy).1; omega
  have hel := h.endle
  have hA := Lib.hid h
  clear h
  replace hn := Lib.hid hn
  replace hin := Lib.hid hin
  replace hlive := Lib.hid hlive
  replace hnd := Lib.hid hnd
  replace hg := Lib.hid hg
  clear c0 c1 c2 c3 c4 c6
  go_enter Try.func32, Try.ntmps32
  go_upto_region 2 with (fail)
  go_loopw [16] (fun a16 wr => ∃ k : Nat, k ≤ n ∧ a16 = .int .i64 (k : Int) ∧ Hid (wr = w)) (fun i _ => (n - (intOf i).toNat))
  case atStart => exact ⟨0, Nat.zero_le _, rfl, rfl⟩
  case round =>
    obtain ⟨k, hk, rfl, hw⟩ := hrel
    obtain rfl := hw.out.symm
    clear hw
    by_cases hlt : k < n
    · obtain ⟨e, he⟩ : ∃ e, Hid (ofs[k]? = some e) := ⟨_, List.getElem?_eq_getElem (by rw [hn.out]; exact hlt)⟩
      have hcl := ints_some hin.out k e he.out
      obtain ⟨c, hc⟩ := Option.isSome_iff_exists.1 (hlive.out e (List.mem_of_getElem? he.out))
      have hwe : (Lit.int .i64 e).wf = true := by
        obtain ⟨a, b, hab, rfl⟩ := live_split 16 ps e c hc
        have : 16 + total a ≤ endOf ps := by rw [hab]; unfold endOf; rw [total_app]; omega
        exact WalkArith.wf_i64 (by omega)
      have hlk : (Instr.lookup 125 (.map (some x.bs)) (.int .i64 e) true).run Try.prog w = .ok (.tuple #[.int .i64 (c : Int), .bool true]) w := by
        have := SM.look_ok hA.out.sz hwe
        unfold szF at this
        rw [hc] at this
        exact this
      clear hc
      have k0 : (0 : Int) ≤ k := by omega
      have k1 : (k : Int) < n := by omega
      have k2 : (k : Int) ≤ cap := by omega
      go_wp2_with (first
        | (go_at_call 75; refine (contains_any g o k _ ofs hin.out e (by rw [hn.out]; omega) (by omega) false (by have := not_taken hnd.out k e he.out; simpa using this)).mono ?_; rintro r w' ⟨rfl, rfl⟩)
        | fail)
      go_roundw
      case rel => exact ⟨k + 1, by omega, by go_num, by first | rfl | trivial⟩
      case measure => simp [intOf]; omega
    · obtain rfl : k = n := by omega
      clear c5
      go_upto_region 9 with (fail)
      go_loopw [42] (fun a42 ws => ∃ (m : Nat) (xk : Loc), m ≤ k ∧ a42 = .int .i64 (m : Int) ∧ Hid (ArAt ws p xk lim (freesP ps (ofs.take m)) L ∧ Turns (x.all p) w ws ∧ ∀ j, j ∈ xk.all p → j ∈ x.all p ∨ w.heap.size ≤ j)) (fun i _ => (k - (intOf i).toNat))
      case atStart => exact ⟨0, x, Nat.zero_le _, rfl, hA.out, Turns.refl _ _, fun j hj => .inl hj⟩
      case round =>
        obtain ⟨m, xk, hm, rfl, hR⟩ := hrel
        by_cases hlt2 : m < k
        · obtain ⟨hX, hT, hF⟩ := hR.out
          clear hR
          obtain ⟨e, he⟩ : ∃ e, Hid (ofs[m]? = some e) := ⟨_, List.getElem?_eq_getElem (by rw [hn.out]; exact hlt2)⟩
          have hcl := ints_some (ints_turned hin.out hT (fun g' o' q => by injection q with q; injection q with q1 _; rw [← q1]; exact hg.out)) m e he.out
          have hsz : (sizeFrom 16 (freesP ps (ofs.take m)) e).isSome = true := by
            rw [size_freesP ps hpos1, if_neg (not_taken hnd.out m e he.out)]
            exact hlive.out e (List.mem_of_getElem? he.out)
          obtain ⟨c, hc⟩ := Option.isSome_iff_exists.1 hsz
          clear hsz
          obtain ⟨a, b, hQ, hEe⟩ := live_split 16 _ e c hc
          have hstep : freesP ps (ofs.take (m + 1)) = freeP (a ++ (c, true) :: b) e := by
            rw [List.take_add_one, he.out, Option.toList_some, freesP_snoc, hQ]
          rw [hQ] at hX hc
          have hposX := hX.pos
          have hposa : ∀ y ∈ a, 1 ≤ y.1 := fun y hy => by have := (hposX y (by simp [hy])).1; omega
          obtain ⟨E, hE⟩ : ∃ E, Hid (E = endOf a) := ⟨_, rfl⟩
          have hEe2 : e = (E : Int) := by rw [hE.out]; exact hEe
          subst hEe2
          clear hEe hQ he
          have hfp : freeP (a ++ (c, true) :: b) (E : Int) = a ++ (c, false) :: b := by rw [hE.out]; exact freeP_split a b c hposa
          rw [hfp] at hstep
          clear hfp
          have hcb := hposX (c, true) (by simp)
          simp only [] at hcb
          have hEl : E ≤ 134217728 := by
            have h1 := hX.endle
            have h2 : endOf a ≤ endOf (a ++ (c, true) :: b) := by unfold endOf; rw [total_app]; omega
            rw [hE.out]; omega
          have hwe : (Lit.int .i64 (E : Int)).wf = true := WalkArith.wf_i64 (by omega)
          have hlk : (Instr.lookup 125 (.map (some xk.bs)) (.int .i64 (E : Int)) false).run Try.prog wr = .ok (.int .i64 (c : Int)) wr := by
            have := SM.look hX.sz hwe
            unfold szF at this
            rw [hc] at this
            exact this
          clear hc
          have hlen2 := hX.len
          have hlvX := hX.lv
          have hlmX := hX.lm
          have hfl := liveSum_flip a b c
          obtain ⟨S, hS⟩ : ∃ S, Hid (S = liveSum (a ++ (c, true) :: b)) := ⟨_, rfl⟩
          obtain ⟨_, c1, _, _, _, c5, c6⟩ := hX.cells
          rw [← hS.out] at c1 hlvX hfl
          have s0 : (c : Int) ≤ S := by omega
          have s1 : (S : Int) ≤ 2097152 := by omega
          have m0 : (0 : Int) ≤ m := by omega
          have m1 : (m : Int) < k := by omega
          obtain ⟨lab, l0, l1, l2, l3, l4, l5, l6, l7⟩ := id hX.nd
          have hbf : ¬ xk.bf ∈ xk.fb := fun hk => by have := l7 _ hk; omega
          have hf1 : ¬ p ∈ [xk.bs] := fun hk => by simp only [List.mem_singleton] at hk; rw [hk] at l0; omega
          have hf2 : ¬ xk.bf ∈ [xk.bs] := fun hk => by simp only [List.mem_singleton] at hk; rw [hk] at l4; omega
          have hf3 : ¬ xk.bf ∈ [p] := fun hk => by simp only [List.mem_singleton] at hk; rw [hk] at l4; omega
          have hf4 : ∀ g', g' ∈ xk.fb → ¬ g' ∈ [xk.bs] := fun g' hg' hk => by have := l7 g' hg'; simp only [List.mem_singleton] at hk; rw [hk] at this; omega
          have hf5 : ∀ g', g' ∈ xk.fb → ¬ g' ∈ [p] := fun g' hg' hk => by have := l7 g' hg'; simp only [List.mem_singleton] at hk; rw [hk] at this; omega
          have hf6 : ¬ p ∈ [xk.bf] := fun hk => by simp only [List.mem_singleton] at hk; rw [hk] at l0; omega
          have hf7 : ¬ p ∈ xk.fb := fun hk => by have := l7 _ hk; omega
          replace hX := Lib.hid hX
          replace hT := Lib.hid hT
          replace hF := Lib.hid hF
          replace hstep := Lib.hid hstep
          replace hfl := Lib.hid hfl
          clear l0 l1 l2 l3 l4 l5 l6
          go_upto_region 13 with (first
            | (refine wpList_delete_im rfl (.tmp 55) (.tmp 56) rfl hX.out.sz hwe rfl rfl ?_; intro w1 hs1 t1; replace hs1 := Lib.hid hs1; replace t1 := Lib.hid t1)
            | fail)
          have hd1 := hX.out.hd.turn t1.out hf1
          have fr1 := free_turn hX.out.fr t1.out hf2 hf4
          clear c1 c5 c6 hcl hlk
          have c1 := hd1.cell 1
          have f1 := hd1.free 1
          rw [← hS.out] at hd1
          simp [← hS.out] at c1
          have t2 : Turns [p] w1 (w1.setCell ⟨p, 1, none⟩ (.int .i64 ((S : Int) - c))) := (Turns.refl _ _).set p 1 _ (.inl (by simp))
          have hd2 := hd1.set 1 (.int .i64 ((S : Int) - c))
          have fr2 := free_turn fr1 t2 hf3 hf5
          obtain ⟨u, hlk, hrow, hput⟩ := free_put fr2 hposX (by unfold maxLen; omega) hbf
          obtain ⟨w2, hw2⟩ : ∃ w2, Hid (w2 = w1.setCell ⟨p, 1, none⟩ (.int .i64 ((S : Int) - c))) := ⟨_, rfl⟩
          rw [← hw2.out] at hlk hrow hput hd2
          have hl2 := hlk w2 (Turns.refl _ _)
          have c6 := hd2.cell 6
          simp at c6
          obtain ⟨hlo, hhi, hsrt⟩ := row_sorted a b c hposX
          rw [← hE.out] at hlo hhi hsrt hrow hput
          have hdl : (deadFrom 16 a (c : Int) ++ deadFrom (E + c) b (c : Int)).length ≤ 1099511627776 := by
            have h1 := dead_len 16 a (c : Int)
            have h2 := dead_len (E + c) b (c : Int)
            simp only [List.length_append, List.length_cons] at hlen2 ⊢
            omega
          obtain ⟨I, hI⟩ : ∃ I, Hid (I = (deadFrom 16 a (c : Int)).length) := ⟨_, rfl⟩
          replace hlo := Lib.hid hlo
          replace hhi := Lib.hid hhi
          replace hsrt := Lib.hid hsrt
          replace hrow := Lib.hid hrow
          replace hput := Lib.hid hput
          replace hlk := Lib.hid hlk
          replace hd2 := Lib.hid hd2
          replace hd1 := Lib.hid hd1
          replace hdl := Lib.hid hdl
          clear fr1 fr2 t2
          go_upto_region 14 with (fail)
          rw [← hw2.out]
          clear c1 f1
          go_upto_region 15 with (first
            | (go_at_call 76; refine (search_row hrow.out E hlo.out hhi.out hsrt.out hdl.out _ (I : Int) rfl (by rw [hI.out])).mono ?_; rintro r w3 ⟨bb, rfl, q, rfl⟩)
            | fail)
          have tA : Turns [] w2 ((w2.drewN (q + 1)).alloc (.cells #[.int .i64 (E : Int)] 3)) := ((Turns.refl [] w2).drewN (q + 1)).alloc _
          have tD : Turns [] w2 (w2.drewN (q + 1)) := (Turns.refl [] w2).drewN (q + 1)
          have hlD := hlk.out _ tD
          have hlA := hlk.out _ tA
          have cD := turn_cell tD (by simp) c6
          have cA := turn_cell tA (by simp) c6
          have hrA := Lib.hid (free_row_turn hrow.out tA (by simp))
          have hun : ¬ w2.heap.size ∈ rows u := fun hk => Nat.lt_irrefl _ (free_row_in hrow.out _ hk).2
          have huf : ∀ g', g' ∈ rows u → g' ∈ xk.fb := fun g' hg' => (free_row_in hrow.out g' hg').1
          have hbv := Lib.hid (Blk.new (w2.drewN (q + 1)) #[.int .i64 (E : Int)] 3)
          have hsp : (deadFrom 16 a (c : Int) ++ deadFrom (E + c) b (c : Int)).take I ++ E :: (deadFrom 16 a (c : Int) ++ deadFrom (E + c) b (c : Int)).drop I = deadFrom 16 a (c : Int) ++ E :: deadFrom (E + c) b (c : Int) := by rw [hI.out]; simp
          have hIl : I ≤ (deadFrom 16 a (c : Int) ++ deadFrom (E + c) b (c : Int)).length := by rw [hI.out, List.length_append]; omega
          replace hsp := Lib.hid hsp
          replace tA := Lib.hid tA
          replace huf := Lib.hid huf
          replace hun := Lib.hid hun
          clear hl2 hbf hf1 hf2 hf3 hf4 hf5 tD
          go_region_held3 (fun W => W.cell? ⟨p, 6, none⟩ = some (.map (some xk.bf))) (first | exact cD | exact cA | exact c4 | exact c5) ((first
            | (go_at_call 77; refine (insert_any hrA.out I hIl E w2.heap.size hbv.out hun.out hdl.out (I : Int) rfl).mono ?_; rw [hsp.out]; rintro r w4 ⟨v, rfl, hv, t4, hvr, hvo⟩; obtain ⟨w5, hrun5, fr5, t5⟩ := hput.out w4 v ((tA.out.more (by simp)).trans t4) hv (fun g' hg' => (hvr g' hg').imp id (fun q => Nat.le_trans tA.out.size q.1)) hvo; have c4 := turn_cell t4 (fun hk => hf7 (huf.out p hk)) cA; have c5 := turn_cell t5 hf6 c4; have hN := Lib.hid (freed hX.out (by rw [← hE.out]; exact hs1.out) t1.out (V := (S : Int) - c) (by rw [hS.out]) (by rw [← hw2.out]; exact tA.out) huf.out t4 hvr t5 fr5); clear hv t4 hvr t5 fr5 hvo)))
          all_goals go_wp2_with fail
          all_goals go_roundw
          case' rel => skip
          all_goals first
            | (simp [intOf]; omega)
            | (obtain ⟨x', hX', hT', hF'⟩ := hN.out
               exact ⟨m + 1, x', by omega, by go_num, (by rw [hstep.out]; exact hX'), hT.out.next hT' hF.out, fun j hj => by
                 rcases hF' j hj with q | q
                 · exact hF.out j q
                 · exact .inr (Nat.le_trans hT.out.size q)⟩)
        · obtain rfl : m = k := by omega
          obtain ⟨hX, hT, hF⟩ := hR.out
          rw [List.take_of_length_le (by rw [hn.out]; exact Nat.le_refl _)] at hX
          go_wp2_with fail
          go_ret
          exact ⟨rfl, xk, hX, hT, hF⟩
end Go.Proofs.Ytpbalilnemjeeaa
