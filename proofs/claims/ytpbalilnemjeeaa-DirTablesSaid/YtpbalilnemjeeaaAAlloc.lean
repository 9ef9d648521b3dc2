/- What is proved here: the contracts of AllocAll and Alloc where no block was ever freed and there is room. No condition. -/
import Derived.Test.YtpbalilnemjeeaaATake
namespace Go.Proofs.Ytpbalilnemjeeaa
set_option linter.unusedVariables false
set_option linter.unusedSimpArgs false
open Go.RowKit Pm Pa Pl
namespace Pa
def clsN (n : Int) : Nat := (cls n).toNat
def need (ns : List Int) : Nat := (ns.map clsN).sum
def news (ns : List Int) : Parts := ns.map fun n => (clsN n, true)
def noDead (ps : Parts) : Prop := ∀ a ∈ ps, a.2 = true
theorem clsN_is {n : Int} (h : 1 ≤ n ∧ n ≤ 1048576) : cls n = (clsN n : Int) ∧ 16 ≤ clsN n ∧ clsN n ≤ 1048576 := by
  obtain ⟨h1, h2, _⟩ := cls_bounds h.1 h.2
  unfold clsN
  omega
theorem need_app (ns : List Int) (n : Int) : need (ns ++ [n]) = need ns + clsN n := by simp [need]
theorem news_app (ns : List Int) (n : Int) : news (ns ++ [n]) = news ns ++ [(clsN n, true)] := by simp [news]
theorem total_news (ns : List Int) : total (news ns) = need ns := by simp [total, news, need, Function.comp_def]
theorem live_news (ps : Parts) (ns : List Int) : liveSum (ps ++ news ns) = liveSum ps + need ns := by
  induction ps with
  | nil =>
    induction ns with
    | nil => rfl
    | cons n t ih => simp [news, need, liveSum] at ih ⊢; exact ih
  | cons a t ih => simp only [List.cons_append, liveSum, ih]; omega
theorem end_news (ps : Parts) (ns : List Int) : endOf (ps ++ news ns) = endOf ps + need ns := by
  unfold endOf
  rw [total_app, total_news]
  omega
theorem need_take_le (ns : List Int) (k : Nat) : need (ns.take k) ≤ need ns := by
  have e : need ns = need (ns.take k) + need (ns.drop k) := by
    unfold need
    rw [← List.sum_append, ← List.map_append, List.take_append_drop]
  omega
theorem take_snoc (ns : List Int) (k : Nat) (n : Int) (h : ns[k]? = some n) : ns.take (k + 1) = ns.take k ++ [n] := by rw [List.take_add_one, h]; rfl
theorem need_ge (ns : List Int) (h : ∀ n ∈ ns, 1 ≤ n ∧ n ≤ 1048576) : 16 * ns.length ≤ need ns := by
  induction ns with
  | nil => simp
  | cons n t ih =>
    have h1 := (clsN_is (h n (by simp))).2.1
    have h2 := ih (fun y hy => h y (by simp [hy]))
    simp [need] at h2 ⊢
    omega
theorem dead_none (o : Nat) (ps : Parts) (h : noDead ps) (c : Int) : deadFrom o ps c = [] := by
  induction ps generalizing o with
  | nil => rfl
  | cons a t ih =>
    have h1 := h a (by simp)
    unfold deadFrom
    rw [if_neg (by rw [h1]; simp)]
    exact ih _ (fun b hb => h b (by simp [hb]))
theorem noDead_news (ps : Parts) (h : noDead ps) (ns : List Int) : noDead (ps ++ news ns) := by
  intro a ha
  rcases List.mem_append.1 ha with ha | ha
  · exact h a ha
  · simp [news] at ha
    obtain ⟨n, _, rfl⟩ := ha
    rfl
theorem startsFrom_news (ps : Parts) (ns : List Int) (n : Int) : startsFrom (endOf ps) (news (ns ++ [n])) = startsFrom (endOf ps) (news ns) ++ [endOf (ps ++ news ns)] := by
  rw [news_app, startsFrom_app, end_news, total_news]
end Pa
/-- numbers in memory -/
def IntsIn (w : World) (A : Option Addr) (ns : List Int) : Prop := ∀ (i : Nat) (n : Int), ns[i]? = some n → ∃ g o, A = some ⟨g, o, none⟩ ∧ w.cell? ⟨g, o + i, none⟩ = some (.int .i64 n)
theorem class_to (n : Int) (w : World) (h : 1 ≤ n ∧ n ≤ 1048576) : Calls Try.prog 50 #[.int .i64 n] w fun e w' => e = .returned (.int .i64 (clsN n : Int)) ∧ w = w' := by
  rw [← (clsN_is h).1]; exact class_any n w
set_option maxHeartbeats 4000000 in
set_option maxRecDepth 100000 in
theorem allocs_yes {w : World} {p : Nat} {x : Loc} {lim : Nat} {ps : Parts} {L : List UInt8} (h : ArAt w p x lim ps L) (hnd : noDead ps) (ns : List Int) (A : Option Addr) (cap : Nat) (hin : IntsIn w A ns)
    (hAp : ∀ g o, A = some ⟨g, o, none⟩ → ¬ g ∈ x.all p) (hv : ∀ n ∈ ns, 1 ≤ n ∧ n ≤ 1048576) (hl : liveSum ps + need ns ≤ lim) (hr : endOf ps + need ns ≤ 134217728) (N : Nat) (hN : N = ns.length) :
    Calls Try.prog 21 #[.pointer (some ⟨p, 0, none⟩), .slice A N cap] w fun e w' => ∃ v x' L', e = .returned (.tuple #[v, .int .i64 0]) ∧ ArAt w' p x' lim (ps ++ news ns) L' ∧
      L'.take (endOf ps + need ns) = L.take (endOf ps) ++ List.replicate (need ns) 0 ∧ Turns (x.all p) w w' ∧ (∀ k, k ∈ x'.all p → k ∈ x.all p ∨ w.heap.size ≤ k) ∧
      w'.ownsRow w.heap.size 3 1 v ns.length (ints (startsFrom (endOf ps) (news ns))) ∧ ∀ g, g ∈ rows v → ¬ g ∈ x'.all p := by
  subst hN
  have hlen := need_ge ns hv
  have hlm := h.lm
  have hlv := h.lv
  have hns : need [] = 0 := rfl
  obtain ⟨c0, c1, _⟩ := h.cells
  have hA := Lib.hid h
  clear h
  replace hin := Lib.hid hin
  replace hAp := Lib.hid hAp
  replace hnd := Lib.hid hnd
  replace hv := Lib.hid hv
  obtain ⟨i0, hi, hz0, hz1, hz2⟩ := info_parts infoInt
  have hib : i0.bytes * ns.length ≤ 281474976710656 := by rw [hz2]; omega
  replace hi := Lib.hid hi
  replace hz0 := Lib.hid hz0
  replace hz1 := Lib.hid hz1
  replace hz2 := Lib.hid hz2
  go_enter Try.func21, Try.ntmps21
  go_wp2_with fail
  go_loopw [6, 7, 17] (fun a6 a7 a17 wr => ∃ k : Nat, k ≤ ns.length ∧ a6 = .int .i64 (need (ns.take k) : Int) ∧ a7 = .bool false ∧ a17 = .int .i64 (k : Int) ∧ Hid (wr = w)) (fun _ _ i _ => (ns.length - (intOf i).toNat))
  case atStart => exact ⟨0, Nat.zero_le _, rfl, rfl, rfl, rfl⟩
  case round =>
    obtain ⟨k, hk, rfl, rfl, rfl, hw⟩ := hrel
    obtain rfl := hw.out
    clear hw
    by_cases hlt : k < ns.length
    · obtain ⟨n, hn⟩ : ∃ n, Hid (ns[k]? = some n) := ⟨_, List.getElem?_eq_getElem hlt⟩
      have hvn := hv.out n (List.mem_of_getElem? hn.out)
      obtain ⟨g, o, rfl, hc⟩ := hin.out k n hn.out
      have k0 : (0 : Int) ≤ k := by omega
      have k1 : (k : Int) < ns.length := by omega
      have n1 : ¬ n < 1 := by omega
      have n2 : ¬ 1048576 < n := by omega
      have hnl := need_take_le ns k
      have hcn := (clsN_is hvn).2
      go_wp2_with (first
        | (go_at_call 50; refine (class_to n _ hvn).mono ?_; rintro e w' ⟨rfl, rfl⟩)
        | fail)
      go_roundw
      case rel =>
        refine ⟨k + 1, by omega, ?_, rfl, by go_num, by first | rfl | trivial⟩
        rw [take_snoc ns k n hn.out, need_app]
        go_num
      case measure => simp [intOf]; omega
    · obtain rfl : k = ns.length := by omega
      rw [List.take_length]
      obtain ⟨wo, rfl⟩ : ∃ wo : World, wo = wr := ⟨_, rfl⟩
      have g1 : ¬ ((lim : Int) - (liveSum ps : Int)) < (need ns : Int) := by omega
      go_upto_region 11 with (fail)
      go_quiet (fail)
      all_goals go_upto_block 2 with (first
        | (at_make; refine wpList_make_own _ rfl _ _ _ rfl wo.heap.size 3 i0 (.int .i64 0) 1 Try.underlying29 hi.out hz0.out hz1.out .i64 .i64 _ ns.length rfl rfl rfl hib (by unfold maxLen; omega) (by simp) ?_; intro w2 hrow hgr)
        | fail)
      have hT2 : Turns [] wo w2 := ((Turns.refl [] wo).drewN nq).trans ⟨hgr.os, hgr.tape, hgr.output, hgr.size, fun k hk _ => hgr.block k hk (by simp)⟩
      have hA2 : ArAt w2 p x lim ps L := hA.out.turn hT2 (by simp)
      have hlt0 : ∀ k, k ∈ x.all p → k < wo.heap.size := hA.out.lt
      replace hrow : w2.ownsRow wo.heap.size 3 1 (.slice (some ⟨wo.heap.size, 0, none⟩) 0 ns.length) 0 [] := hrow
      obtain ⟨v0, hv0⟩ : ∃ v, Hid (v = Value.slice (some ⟨wo.heap.size, 0, none⟩) 0 ns.length) := ⟨_, rfl⟩
      have hr0 : ∀ g, g ∈ rows v0 → ¬ g ∈ x.all p := by
        intro g hg hk
        rw [hv0.out] at hg
        simp [rows, Value.ownBlock] at hg
        have := hlt0 g hk
        omega
      rw [← hv0.out] at hrow ⊢
      clear hv0 hgr g1 hlt hk c0 c1 hib
      have hwf : (Lit.int .i64 (0 : Int)).wf = true := by decide
      replace hA2 := Lib.hid hA2
      replace hT2 := Lib.hid hT2
      replace hrow := Lib.hid hrow
      replace hr0 := Lib.hid hr0
      replace hlt0 := Lib.hid hlt0
      go_wp2_with fail
      go_loopw [10, 52] (fun a10 a52 wr => ∃ (k : Nat) (v : Value) (xk : Loc) (Lk : List UInt8), k ≤ ns.length ∧ a52 = .int .i64 (k : Int) ∧ v = a10 ∧ Hid (ArAt wr p xk lim (ps ++ news (ns.take k)) Lk) ∧
        Hid (Lk.take (endOf ps + need (ns.take k)) = L.take (endOf ps) ++ List.replicate (need (ns.take k)) 0) ∧ Hid (Turns (x.all p) wo wr) ∧ Hid (∀ y, y ∈ xk.all p → y ∈ x.all p ∨ wo.heap.size ≤ y) ∧
        Hid (wr.ownsRow wo.heap.size 3 1 v k (ints (startsFrom (endOf ps) (news (ns.take k))))) ∧ Hid (∀ g, g ∈ rows v → ¬ g ∈ xk.all p)) (fun _ i _ => (ns.length - (intOf i).toNat))
      case atStart =>
        refine ⟨0, v0, x, L, Nat.zero_le _, rfl, rfl, ?_, ?_, hT2.out.more (by simp), fun y hy => .inl hy, hrow, hr0⟩
        · have : ps ++ news (ns.take 0) = ps := by simp [news]
          rw [this]; exact hA2
        · unfold Hid; simp [need]
      case round =>
        obtain ⟨k, v, xk, Lk, hk, rfl, rfl, hAk, hLk, hTk, hfk, hrk, hdk⟩ := hrel
        by_cases hlt : k < ns.length
        · obtain ⟨n, hn⟩ : ∃ n, Hid (ns[k]? = some n) := ⟨_, List.getElem?_eq_getElem hlt⟩
          have hvn := hv.out n (List.mem_of_getElem? hn.out)
          obtain ⟨g, o, rfl, hc0⟩ := hin.out k n hn.out
          have hc : wr.cell? ⟨g, o + k, none⟩ = some (.int .i64 n) := turn_cell hTk.out (hAp.out g o rfl) hc0
          have hcn := (clsN_is hvn).2
          have hst := take_snoc ns k n hn.out
          have hnl := need_take_le ns (k + 1)
          rw [hst, need_app] at hnl
          have hst' := Lib.hid hst
          clear hst
          have k0 : (0 : Int) ≤ k := by omega
          have k1 : (k : Int) < ns.length := by omega
          have hlk : liveSum (ps ++ news (ns.take k)) + clsN n ≤ lim := by rw [live_news]; omega
          have hrm : endOf (ps ++ news (ns.take k)) + clsN n ≤ 134217728 := by rw [end_news]; omega
          go_wp2_with (first
            | (go_at_call 50; refine (class_to n _ hvn).mono ?_; rintro e w' ⟨rfl, rfl⟩)
            | (go_at_call 65; refine (take_new hAk.out (clsN n) hcn (dead_none _ _ (noDead_news _ hnd.out _) _) hrm hlk _ rfl).mono ?_; rintro e w5 ⟨rfl, x5, L5, hA5, hL5, hT5, hf5⟩; have hr5 := row_turn hrk.out hT5 hdk.out)
            | (at_builtin; refine wpList_append_own_at _ rfl _ _ 29 rfl wo.heap.size 3 i0 (.int .i64 0) 1 8 Try.underlying29 hi.out hz0.out hz1.out hz2.out rfl (by decide) _ _ _ rfl (hr5.alloc _) ⟨w5.heap.size, 0, none⟩ 1 1 [.int .i64 (endOf (ps ++ news (ns.take k)) : Int)] rfl rfl (cell_one_new _ _ _) (by simp [Value.oneCell']) (by unfold maxLen; omega) (by omega) (by have := hTk.out.size; have := hT5.size; simp; omega) ?_; intro v6 w6 hown hgrow hnil hloc; clear hnil; obtain ⟨g6, cap6, rfl⟩ := ownsRow_succ hown; replace hloc : some g6 = v.ownBlock ∨ g6 = w5.heap.size + 1 := hloc.imp (fun e => e) (fun e => by simpa [Value.ownBlock] using e))
            | fail)
          have hT6 : Turns (rows v) w5 w6 := ((Turns.refl _ w5).alloc _).trans (turns_grown hgrow)
          have hg6 : g6 ∈ rows v ∨ w5.heap.size ≤ g6 := by
            rcases hloc with e | e
            · exact .inl (by rw [rows, ← e]; simp)
            · right; omega
          have hvl : ∀ y, y ∈ rows v → y < wr.heap.size ∧ wo.heap.size ≤ y := fun y hy => ⟨row_lt hrk.out hy, (hrk.out.lt y (by simpa [rows] using hy)).1⟩
          have hv5 : ∀ y, y ∈ x5.all p → ¬ y ∈ rows v := fun y hy hk => by
            rcases hf5 y hy with e | e
            · exact hdk.out y hk e
            · have := (hvl y hk).1; omega
          have hA6 := hA5.turn hT6 hv5
          refine ⟨⟨k + 1, _, x5, L5, by omega, by go_num, rfl, ?_, ?_, ?_, ?_, ?_, ?_⟩, by simp [intOf]; omega⟩
          · rw [hst'.out, news_app, ← List.append_assoc]; exact hA6
          · unfold Hid
            rw [end_news] at hL5
            rw [hst'.out, need_app, ← Nat.add_assoc, hL5, hLk.out, List.append_assoc, List.replicate_append_replicate]
          · refine (Turns.next hTk.out hT5 hfk.out).next hT6 (fun y hy => .inr (hvl y hy).2)
          · intro y hy
            rcases hf5 y hy with e | e
            · exact hfk.out y e
            · have := hTk.out.size; exact .inr (by omega)
          · unfold Hid
            rw [hst'.out, startsFrom_news, ints_app]
            exact hown
          · intro y hy hk
            simp [rows, Value.ownBlock] at hy
            subst hy
            rcases hg6 with e | e
            · exact hv5 y hk e
            · have := hA5.lt y hk; omega
        · obtain rfl : k = ns.length := by omega
          rw [List.take_length] at hAk hLk hrk
          go_wp2_with fail
          go_ret2
          exact ⟨v, xk, Lk, rfl, hAk.out, hLk.out, hTk.out, hfk.out, hrk.out, hdk.out⟩
set_option maxHeartbeats 1000000 in
theorem alloc_yes {w : World} {p : Nat} {x : Loc} {lim : Nat} {ps : Parts} {L : List UInt8} (h : ArAt w p x lim ps L) (hnd : noDead ps) (n : Int) (hv : 1 ≤ n ∧ n ≤ 1048576) (hl : liveSum ps + clsN n ≤ lim) (hr : endOf ps + clsN n ≤ 134217728) :
    Calls Try.prog 28 #[.pointer (some ⟨p, 0, none⟩), .int .i64 n] w fun e w' => ∃ x' L', e = .returned (.tuple #[.int .i64 (endOf ps : Int), .int .i64 0]) ∧ ArAt w' p x' lim (ps ++ [(clsN n, true)]) L' ∧
      L'.take (endOf ps + clsN n) = L.take (endOf ps) ++ List.replicate (clsN n) 0 ∧ Turns (x.all p) w w' ∧ (∀ k, k ∈ x'.all p → k ∈ x.all p ∨ w.heap.size ≤ k) := by
  have hlt := h.lt
  have hA := Lib.hid (h.alloc (.cells #[.int .i64 n] 3))
  have hn1 : need [n] = clsN n := by simp [need]
  have hin : IntsIn (w.alloc (.cells #[.int .i64 n] 3)) (some ⟨w.heap.size, 0, none⟩) [n] := by
    intro i m hi
    match i with
    | 0 => simp at hi; subst hi; exact ⟨_, _, rfl, (Blk.new w #[.int .i64 n] 3).cell 0⟩
    | i + 1 => simp at hi
  go_enter Try.func28, Try.ntmps28
  go_wp2_with (first
    | (go_at_call 21; refine (allocs_yes hA.out hnd [n] _ 1 hin (fun g o e hk => by cases e; exact Nat.lt_irrefl _ (hlt _ hk)) (by simpa using hv) (by rw [hn1]; exact hl) (by rw [hn1]; exact hr) 1 rfl).mono ?_; rintro e w1 ⟨v, x', L', rfl, hA1, hL1, hT1, hf1, hrow, hd1⟩; obtain ⟨g, cap, rfl⟩ := ownsRow_succ (k := 0) hrow; have hc : w1.cell? ⟨g, 0, none⟩ = some (.int .i64 (endOf ps : Int)) := hrow.cellAt 0 (by simp))
    | fail)
  go_ret2
  rw [hn1] at hL1
  refine ⟨x', L', ?_, by simpa [news] using hA1, hL1, ?_, ?_⟩
  · simp
  · refine ((Turns.refl _ w).alloc _).trans hT1
  · intro k hk
    rcases hf1 k hk with e | e
    · exact .inl e
    · simp at e; exact .inr (by omega)
end Go.Proofs.Ytpbalilnemjeeaa
