/- What is proved here: the walk of the law ArenaLowest. Conditions: numbers of their kinds. -/
import Derived.Test.YtpbalilnemjeeaaALowL
import Derived.Deep.QuietTactic
import Derived.BigQuiet
import Derived.Laws.Bits64b
namespace Go.Proofs.Ytpbalilnemjeeaa
set_option linter.unusedVariables false
set_option linter.unusedSimpArgs false
open Go.RowKit Pm Pa Pl Pd
theorem AS.base {w wx w' : World} {p : Nat} {x : Loc} {lim : Nat} {ps : Parts} {L : List UInt8} (hb : Below w.heap.size w wx) (h : AS wx p x lim ps L w') : AS w p x lim ps L w' :=
  ⟨Below.then hb h.below, h.ar, fun k hk => Nat.le_trans hb.size (h.own k hk)⟩
theorem hole_bit (H i : Nat) (hH : H < 18446744073709551616) : (bits .and .u64 ((H : Int) / 2 ^ i) 1 == 1) = hole H i := by
  have e : ((H : Int) / 2 ^ i) = ((H / 2 ^ i : Nat) : Int) := by push_cast; rfl
  rw [e, show (1 : Int) = ((1 : Nat) : Int) from rfl, bits_and_u64_nat _ _ (Nat.lt_of_le_of_lt (Nat.div_le_self _ _) hH) (by decide), Nat.and_one_is_mod]
  unfold hole
  by_cases h : H / 2 ^ i % 2 = 1
  · rw [h]; rfl
  · have h0 : H / 2 ^ i % 2 = 0 := by omega
    rw [h0]; rfl
theorem one_in (w : World) (E : Int) : IntsIn (w.alloc (.cells #[.int .i64 E] 3)) (some ⟨w.heap.size, 0, none⟩) [E] := by
  intro i n hi
  cases i with
  | zero => simp at hi; subst hi; exact ⟨_, _, rfl, (Blk.new w #[.int .i64 E] 3).cell 0⟩
  | succ i => simp at hi
theorem Lw.ints {w0 w : World} {B p n cap : Nat} {x : Loc} {lim : Nat} {ps : Parts} {L : List UInt8} {A : Option Addr} {es : List Int} (h : Lw w0 B p x lim ps L (.slice A n cap) es w) : IntsIn w A es := by
  obtain ⟨A', cap', e, hi, _⟩ := own_slice h.row
  injection e with e1
  rw [e1]; exact hi
theorem Lw.rowc {w0 w : World} {B p : Nat} {x : Loc} {lim c g : Nat} {b b' : Nat → Bool} {L : List UInt8} {v : Value} {es : List Int} (h : Lw w0 B p x lim (rowP c b g) L v es w) (hb : ∀ j, j < g → b j = b' j) : Lw w0 B p x lim (rowP c b' g) L v es w := by
  rw [← rowP_congr c b b' g hb]; exact h
set_option maxHeartbeats 4000000 in
set_option maxRecDepth 100000 in
theorem lowest_bad (w : World) (n many : Int) (H : Nat) (down : Bool) (hbad : n < 1 ∨ (¬ n < 1 ∧ 1048576 < n) ∨ (¬ n < 1 ∧ ¬ 1048576 < n ∧ many < 0) ∨ (¬ n < 1 ∧ ¬ 1048576 < n ∧ ¬ many < 0 ∧ 64 < many)) :
    Calls Try.prog 5 #[.agg #[.int .i64 n, .int .i64 many, .int .u64 H, .bool down]] w fun e w' => e = .returned (.bool true) ∧ Below w.heap.size w w' := by
  have hb1 := Blk.new w #[.int .i64 n, .int .i64 many, .int .u64 H, .bool down] 52
  have hbl := (Below.refl w.heap.size w).alloc (Nat.le_refl _) (.cells #[.int .i64 n, .int .i64 many, .int .u64 H, .bool down] 52)
  go_enter Try.func5, Try.ntmps5
  go_upto_region 1 with (fail)
  generalize World.alloc w _ = wa at hb1 hbl ⊢
  have c0 := hb1.cell 0
  have c1 := hb1.cell 1
  have c2 := hb1.cell 2
  have c3 := hb1.cell 3
  replace hbl := Lib.hid hbl
  go_quiet (fail)
  go_upto_region 5 with (first
    | (go_at_call 19; refine (as_new 2097152 _ (by decide) _ rfl).mono ?_; rintro e w1 ⟨p, x, L0, rfl, h1⟩; replace h1 := Lib.hid (AS.base (by first | exact below_drewN hbl.out _ | exact hbl.out.drew | exact hbl.out) h1))
    | (go_at_call 20; refine (num_any _ _).mono ?_; rintro e w' ⟨rfl, rfl⟩)
    | fail)
  rcases hbad with q0 | ⟨q0, q1⟩ | ⟨q0, q1, q2⟩ | ⟨q0, q1, q2, q3⟩
  iterate 4
    · go_wp2_with fail
      go_ret
      exact ⟨rfl, h1.out.below⟩
set_option maxHeartbeats 4000000 in
set_option maxRecDepth 100000 in
theorem lowest_good (w : World) (n : Int) (m : Nat) (hm64 : m ≤ 64) (H : Nat) (hH : H < 18446744073709551616) (down : Bool) (hv : 1 ≤ n ∧ n ≤ 1048576) :
    Calls Try.prog 5 #[.agg #[.int .i64 n, .int .i64 (m : Int), .int .u64 H, .bool down]] w fun e w' => e = .returned (.bool true) ∧ Below w.heap.size w w' := by
  have hb1 := Blk.new w #[.int .i64 n, .int .i64 (m : Int), .int .u64 H, .bool down] 52
  have hbl := (Below.refl w.heap.size w).alloc (Nat.le_refl _) (.cells #[.int .i64 n, .int .i64 (m : Int), .int .u64 H, .bool down] 52)
  have q0 : ¬ n < 1 := by omega
  have q1 : ¬ (1048576 : Int) < n := by omega
  have q2 : ¬ (m : Int) < 0 := by omega
  have q3 : ¬ (64 : Int) < m := by omega
  obtain ⟨c, hc⟩ : ∃ c, Hid (clsN n = c) := ⟨_, rfl⟩
  have hcl := Lib.hid (classOf_cls n)
  have hcb := clsN_is hv
  rw [hc.out] at hcb
  obtain ⟨hcc, hcb⟩ := hcb
  obtain ⟨M, hM⟩ : ∃ M, Hid (M = 2097152 / c) := ⟨_, rfl⟩
  go_enter Try.func5, Try.ntmps5
  go_upto_region 1 with (fail)
  generalize World.alloc w _ = wa at hb1 hbl ⊢
  have c0 := hb1.cell 0
  have c1 := hb1.cell 1
  have c2 := hb1.cell 2
  have c3 := hb1.cell 3
  replace hbl := Lib.hid hbl
  go_quiet (fail)
  go_upto_region 10 with (first
    | (go_at_call 19; refine (as_new 2097152 _ (by decide) _ rfl).mono ?_; rintro e w1 ⟨p, x, L0, rfl, h1⟩; replace h1 := Lib.hid (AS.base (by first | exact below_drewN hbl.out _ | exact hbl.out.drew | exact hbl.out) h1))
    | (go_at_call 20; refine (num_any _ _).mono ?_; rintro e w' ⟨rfl, rfl⟩)
    | (go_at_call 31; refine (hcl.out _ hv).mono ?_; rw [hcc]; rintro e w' ⟨rfl, rfl⟩)
    | fail)
  have hL : Hid (Lw w w.heap.size p x 2097152 (rowP c (fun _ => true) 0) L0 (.slice none 0 0) [] w1) := ⟨h1.out, Held.nil _, World.ownsRow_nil _ _ _ _, by simp [rows, Value.ownBlock], Nat.le_refl _⟩
  clear h1 c0 c1 c2 c3 hb1 hbl hcl q0 q1 q2 q3
  go_loopw [10, 11] (fun a10 a11 wr => ∃ (k g : Nat) (xk : Loc) (Lk : List UInt8), k ≤ m ∧ a10 = .int .i64 (g : Int) ∧ a11 = .int .i64 (k : Int) ∧ Hid (g = min k M) ∧ Hid (Lw w w.heap.size p xk 2097152 (rowP c (fun _ => true) g) Lk (.slice none 0 0) [] wr)) (fun _ i _ => (m - (intOf i).toNat))
  case atStart => exact ⟨0, 0, x, L0, Nat.zero_le _, rfl, rfl, Lib.hid (by simp), hL⟩
  case round =>
    obtain ⟨k, g, xk, Lk, hk, rfl, rfl, hg, hL⟩ := hrel
    by_cases hlt : k < m
    · have k0 : (k : Int) < m := by omega
      obtain ⟨P, hP⟩ : ∃ P : Nat, Hid (P = k * c) := ⟨_, rfl⟩
      have hPb : P ≤ 64 * 1048576 := by rw [hP.out]; exact Nat.mul_le_mul (by omega) hcb.2
      have hp0 : (k : Int) * c = P := by rw [hP.out]; push_cast; rfl
      have hp1 : ((k : Int) + 1) * c = P + c := by rw [Int.add_mul, hp0]; omega
      have hMk : M < k + 1 ↔ 2097152 < P + c := by
        rw [hM.out, Nat.div_lt_iff_lt_mul (by omega), Nat.add_mul, ← hP.out, Nat.one_mul]
      by_cases hfit : P + c ≤ 2097152
      · have f1 : ¬ (2097152 : Int) < (P : Int) + c := by omega
        have hgk : g = k := by have := hg.out; omega
        subst hgk
        obtain ⟨ht1, ht2⟩ := take_all c (fun _ => true) g (fun _ _ => rfl) rfl
        replace ht1 := Lib.hid ht1
        replace ht2 := Lib.hid ht2
        replace hMk := Lib.hid hMk
        go_wp2_with (first
          | (go_at_call 28; refine (lw_alloc hL.out n hv c hc.out (by rw [live_rowP c _ _ (fun _ _ => rfl), ← hP.out]; exact hfit) ((16 : Int) + P) (by rw [ht2.out, ← hP.out]; push_cast; rfl)).mono ?_; rw [ht1.out]; rintro e w2 ⟨x2, L2, rfl, h2⟩; replace h2 := Lib.hid h2)
          | (go_at_call 20; refine (num_any _ _).mono ?_; rintro e w' ⟨rfl, rfl⟩)
          | fail)
        refine ⟨⟨g + 1, g + 1, x2, L2, by omega, by go_num, by go_num, Lib.hid (by have := hMk.out; omega), h2⟩, by simp [intOf]; omega⟩
      · have f1 : (2097152 : Int) < (P : Int) + c := by omega
        have hgM : g = M := by have := hg.out; omega
        have hno : 2097152 < liveSum (rowP c (fun _ => true) g) + c := by
          rw [live_rowP c _ _ (fun _ _ => rfl), hgM, hM.out]
          have := Nat.lt_mul_div_succ 2097152 (show 0 < c by omega)
          rw [Nat.mul_add, Nat.mul_one, Nat.mul_comm] at this
          exact this
        replace hno := Lib.hid hno
        replace hMk := Lib.hid hMk
        replace hgM := Lib.hid hgM
        go_wp2_with (first
          | (go_at_call 28; refine (lw_no hL.out n hv.1 c hc.out hno.out).mono ?_; rintro e w2 ⟨rfl, h2⟩; replace h2 := Lib.hid h2)
          | (go_at_call 20; refine (num_any _ _).mono ?_; rintro e w' ⟨rfl, rfl⟩)
          | fail)
        refine ⟨⟨k + 1, g, xk, Lk, by omega, rfl, by go_num, Lib.hid (by have := hMk.out; have := hgM.out; omega), h2⟩, by simp [intOf]; omega⟩
    · obtain rfl : k = m := by omega
      have hgm : g ≤ M := by have := hg.out; omega
      have hg64 : g ≤ 64 := by have := hg.out; omega
      have hgc : g * c ≤ 2097152 := Nat.le_trans (Nat.mul_le_mul_right c hgm) (by rw [hM.out]; exact Nat.div_mul_le_self _ _)
      have hBx : ∀ j, j ∈ xk.all p → j < wr.heap.size := fun j hj => hL.out.ars.ar.lt j hj
      have hL2 : Lw w wr.heap.size p xk 2097152 (rowP c (fun _ => true) g) Lk (.slice none 0 0) [] wr := ⟨hL.out.ars, hL.out.held, World.ownsRow_nil _ _ _ _, by simp [rows, Value.ownBlock], hL.out.ars.below.size⟩
      obtain ⟨B, hB⟩ : ∃ B, Hid (B = wr.heap.size) := ⟨_, rfl⟩
      rw [← hB.out] at hBx hL2
      replace hBx := Lib.hid hBx
      replace hL2 := Lib.hid hL2
      clear hL
      go_upto_region 21 with (fail)
      go_loopw [14, 15] (fun a14 a15 ws => ∃ (k2 : Nat) (v : Value), k2 ≤ g ∧ v = a14 ∧ a15 = .int .i64 (k2 : Int) ∧ Hid (Lw w B p xk 2097152 (rowP c (fun _ => true) g) Lk v ((FL H k2).map (offI c)) ws) ∧ Hid (B ≤ ws.heap.size)) (fun _ i _ => (g - (intOf i).toNat))
      case atStart => exact ⟨0, _, Nat.zero_le _, rfl, rfl, hL2, Lib.hid (by rw [hB.out]; exact Nat.le_refl _)⟩
      case round =>
        obtain ⟨k2, v, hk2, rfl, rfl, hL3, hBw⟩ := hrel
        by_cases hlt2 : k2 < g
        · have k0 : (k2 : Int) < g := by omega
          obtain ⟨P, hP⟩ : ∃ P : Nat, Hid (P = k2 * c) := ⟨_, rfl⟩
          have hPb : P ≤ 64 * 1048576 := by rw [hP.out]; exact Nat.mul_le_mul (by omega) hcb.2
          have hp0 : (k2 : Int) * c = P := by rw [hP.out]; push_cast; rfl
          go_upto_region 23 with (fail)
          have hbit := hole_bit H k2 hH
          have hfl := FL_succ H k2
          have hE : (16 : Int) + P = offI c k2 := by unfold offI; rw [← hP.out]; push_cast; rfl
          by_cases hho : hole H k2 = true
          · rw [hho] at hbit
            rw [if_pos hho] at hfl
            replace hfl := Lib.hid hfl
            replace hE := Lib.hid hE
            clear hho
            go_wp2_with (first
              | ((with_reducible show wpList _ _ _ (⟨some 111, _, _, _, _, _⟩ :: _) _ _); (refine wpList_append_ints rfl (.tmp 105) (.tmp 110) rfl B v _ _ rfl (hL3.out.row.alloc _) (some ⟨wr.heap.size, 0, none⟩) 1 1 [(16 : Int) + P] rfl rfl (one_in _ _) (fun e => by cases e) (by have := FL_len H k2; rw [List.length_map]; omega) (by have := hBw.out; simp; omega) ?_; intro v2 w2 hown hgrow; have h2 := Lib.hid (hL3.out.append hBx.out hown hgrow); have hBw2 := Lib.hid (Nat.le_trans hBw.out (Nat.le_trans (by simp) hgrow.size)); clear hown hgrow))
              | fail)
            exact ⟨⟨k2 + 1, v2, by omega, rfl, by go_num, by rw [hfl.out, List.map_append, List.map_singleton, ← hE.out]; exact h2, hBw2⟩, by simp [intOf]; omega⟩
          · have hho2 : hole H k2 = false := by simpa using hho
            rw [hho2] at hbit
            rw [if_neg hho] at hfl
            replace hfl := Lib.hid hfl
            clear hho hho2 hE
            go_wp2_with fail
            exact ⟨⟨k2 + 1, v, by omega, rfl, by go_num, by rw [hfl.out]; exact hL3, hBw⟩, by simp [intOf]; omega⟩
        · obtain rfl : k2 = g := by omega
          clear hL2 hBx
          obtain ⟨A, cap, hvv, hin0⟩ := hL3.out.slice
          subst hvv
          clear hin0
          have hFr := FL_rise H k2
          have hFl := FL_lt H k2
          obtain ⟨F, hF⟩ : ∃ F, Hid (F = FL H k2) := ⟨_, rfl⟩
          rw [← hF.out] at hL3 hFr hFl ⊢
          obtain ⟨N, hN⟩ : ∃ N, Hid (N = (F.map (offI c)).length) := ⟨_, rfl⟩
          have hNF : N = F.length := by rw [hN.out, List.length_map]
          have hN64 : N ≤ 64 := by
            have := FL_len H k2
            rw [← hF.out] at this
            omega
          rw [← hN.out] at hL3 ⊢
          obtain ⟨es, hes⟩ : ∃ es, Hid (es = F.map (offI c)) := ⟨_, rfl⟩
          rw [← hes.out] at hL3
          have hget : ∀ j i, F[j]? = some i → es[j]? = some (offI c i) := fun j i hj => by rw [hes.out, List.getElem?_map, hj]; rfl
          obtain ⟨SS, hSS⟩ : ∃ SS : Nat → List Nat, Hid (SS = fun j => if down = true then F.drop (N - j) else F.take j) := ⟨_, rfl⟩
          have hS0 : SS 0 = [] := by
            rw [hSS.out]
            cases down
            · rfl
            · simp [hNF]
          have hSN : SS N = F := by
            rw [hSS.out]
            cases down
            · simp [hNF]
            · simp
          have hSstep : ∀ j, j < N → ∃ i, F[if down = true then N - 1 - j else j]? = some i ∧ bS (SS j) i = true ∧ ∀ q, setB (bS (SS j)) i false q = bS (SS (j + 1)) q := by
            intro j hj
            rw [hSS.out]
            cases down
            · obtain ⟨i, hi⟩ : ∃ i, F[j]? = some i := ⟨_, List.getElem?_eq_getElem (by omega)⟩
              exact ⟨i, by simpa using hi, bS_out (by simpa using not_take hFr hi), fun q => by simpa using setB_up F j i hi q⟩
            · obtain ⟨i, hi⟩ : ∃ i, F[N - 1 - j]? = some i := ⟨_, List.getElem?_eq_getElem (by omega)⟩
              have e1 : N - j = N - 1 - j + 1 := by omega
              have e2 : N - (j + 1) = N - 1 - j := by omega
              refine ⟨i, by simpa using hi, bS_out ?_, fun q => ?_⟩
              · simp only [if_true]; rw [e1]; exact not_drop hFr hi
              · simp only [if_true]; rw [e1, e2]; exact setB_down F _ i hi q
          replace hSS := Lib.hid hSS
          replace hL3 : Hid (Lw w B p xk 2097152 (rowP c (bS (SS 0)) k2) Lk (.slice A N cap) es wr) := hL3.out.rowc (fun j _ => by rw [hS0, bS_nil])
          replace hS0 := Lib.hid hS0
          replace hSN := Lib.hid hSN
          replace hSstep := Lib.hid hSstep
          replace hget := Lib.hid hget
          replace hFr := Lib.hid hFr
          replace hFl := Lib.hid hFl
          replace hNF := Lib.hid hNF
          clear hBw hB
          go_upto_region 26 with (fail)
          go_loopw [114] (fun a114 ws => ∃ (j : Nat) (xj : Loc), j ≤ N ∧ a114 = .int .i64 (j : Int) ∧ Hid (Lw w B p xj 2097152 (rowP c (bS (SS j)) k2) Lk (.slice A N cap) es ws)) (fun i _ => (N - (intOf i).toNat))
          case atStart => exact ⟨0, xk, Nat.zero_le _, rfl, hL3⟩
          case round =>
            obtain ⟨j, xj, hj, rfl, hL4⟩ := hrel
            by_cases hlt3 : j < N
            · obtain ⟨i, hi1, hi2, hi3⟩ := hSstep.out j hlt3
              have hik : i < k2 := hFl.out i (List.mem_of_getElem? hi1)
              have hfr := free_rowP c (by omega) (bS (SS j)) k2 i hik hi2 (offI c i) rfl
              obtain ⟨i0, hi0⟩ : ∃ i0, F[j]? = some i0 := ⟨_, List.getElem?_eq_getElem (by have := hNF.out; omega)⟩
              have hin := hL4.out.ints
              have hcl1 := hin j _ (hget.out j i0 hi0)
              have hcl2 := hin _ _ (hget.out _ i hi1)
              obtain ⟨E, hE⟩ : ∃ E, Hid (E = offI c i) := ⟨_, rfl⟩
              obtain ⟨E0, hE0⟩ : ∃ E, Hid (E = offI c i0) := ⟨_, rfl⟩
              rw [← hE.out] at hfr hcl2
              rw [← hE0.out] at hcl1
              obtain ⟨gg, oo, rfl, hcl1⟩ := hcl1
              obtain ⟨gg', oo', hq, hcl2⟩ := hcl2
              injection hq with hq
              injection hq with hq1 hq2
              subst hq1 hq2
              have j0 : (0 : Int) ≤ j := by omega
              have j1 : (j : Int) < N := by omega
              obtain ⟨hfr1, hfr2⟩ := hfr
              replace hfr1 := Lib.hid hfr1
              replace hfr2 := Lib.hid hfr2
              replace hi3 := Lib.hid hi3
              clear hi0 hi2 hin hi1 hik
              cases down with
              | false =>
                simp only [Bool.false_eq_true, if_false] at hcl2
                clear hcl1 hE0
                go_wp2_with (first
                  | (go_at_call 32; (refine (lw_free hL4.out E hfr2.out).mono ?_; rw [hfr1.out]; rintro e w2 ⟨x2, rfl, h2⟩; replace h2 := Lib.hid (h2.rowc (fun q _ => hi3.out q))))
                  | (go_at_call 20; refine (num_any _ _).mono ?_; rintro e w' ⟨rfl, rfl⟩)
                  | fail)
                exact ⟨⟨j + 1, x2, by omega, by go_num, h2⟩, by simp [intOf]; omega⟩
              | true =>
                simp only [if_true] at hcl2
                obtain ⟨J, hJ⟩ : ∃ J : Nat, Hid (J = N - 1 - j) := ⟨_, rfl⟩
                rw [← hJ.out] at hcl2
                have hJi : (N : Int) - 1 - j = J := by rw [hJ.out]; omega
                have hJ1 : (J : Int) < N := by rw [hJ.out]; omega
                have hJ0 : (0 : Int) ≤ J := by omega
                go_wp2_with (first
                  | (go_at_call 32; (refine (lw_free hL4.out E hfr2.out).mono ?_; rw [hfr1.out]; rintro e w2 ⟨x2, rfl, h2⟩; replace h2 := Lib.hid (h2.rowc (fun q _ => hi3.out q))))
                  | (go_at_call 20; refine (num_any _ _).mono ?_; rintro e w' ⟨rfl, rfl⟩)
                  | fail)
                exact ⟨⟨j + 1, x2, by omega, by go_num, h2⟩, by simp [intOf]; omega⟩
            · obtain rfl : j = N := by omega
              rw [hSN.out] at hL4
              replace hL4 : Hid (Lw w B p xj 2097152 (rowP c (bS (F.drop 0)) k2) Lk (.slice A j cap) es wr) := hL4
              clear hSstep hSS hS0 hSN hL3
              go_upto_region 35 with (fail)
              go_loopw [139] (fun a139 ws => ∃ (t : Nat) (xt : Loc) (Lt : List UInt8), t ≤ j ∧ a139 = .int .i64 (t : Int) ∧ Hid (Lw w B p xt 2097152 (rowP c (bS (F.drop t)) k2) Lt (.slice A j cap) es ws)) (fun i _ => (j - (intOf i).toNat))
              case atStart => exact ⟨0, xj, Lk, Nat.zero_le _, rfl, hL4⟩
              case round =>
                obtain ⟨t, xt, Lt, ht, rfl, hL5⟩ := hrel
                by_cases hlt4 : t < j
                · obtain ⟨i, hi⟩ : ∃ i, F[t]? = some i := ⟨_, List.getElem?_eq_getElem (by have := hNF.out; omega)⟩
                  have hik : i < k2 := hFl.out i (List.mem_of_getElem? hi)
                  obtain ⟨ht1, ht2, ht3⟩ := take_low c (bS (F.drop t)) k2 i hik (fun q hq => bS_out (low_drop hFr.out hi hq)) (bS_in (by rw [drop_at hi]; exact List.mem_cons_self))
                  have hup := setB_live hFr.out t i hi
                  have hcl := hL5.out.ints t _ (hget.out t i hi)
                  obtain ⟨E, hE⟩ : ∃ E, Hid (E = offI c i) := ⟨_, rfl⟩
                  rw [← hE.out] at hcl
                  have hoE : (takeAt (rowP c (bS (F.drop t)) k2) c : Int) = E := by rw [ht2, hE.out]; rfl
                  obtain ⟨gg, oo, rfl, hcl⟩ := hcl
                  have j0 : (0 : Int) ≤ t := by omega
                  have j1 : (t : Int) < j := by omega
                  replace hoE := Lib.hid hoE
                  replace ht1 := Lib.hid ht1
                  replace ht3 : Hid (liveSum (rowP c (bS (F.drop t)) k2) + c ≤ 2097152) := Nat.le_trans ht3 hgc
                  replace hup := Lib.hid hup
                  clear hi ht2
                  go_wp2_with (first
                    | (go_at_call 28; refine (lw_alloc hL5.out n hv c hc.out ht3.out E hoE.out).mono ?_; rw [ht1.out]; rintro e w2 ⟨x2, L2, rfl, h2⟩; replace h2 := Lib.hid (h2.rowc (fun q _ => hup.out q)))
                    | (go_at_call 20; refine (num_any _ _).mono ?_; rintro e w' ⟨rfl, rfl⟩)
                    | fail)
                  exact ⟨⟨t + 1, x2, L2, by omega, by go_num, h2⟩, by simp [intOf]; omega⟩
                · obtain rfl : t = j := by omega
                  have hnil : F.drop t = [] := List.drop_eq_nil_of_le (by have := hNF.out; omega)
                  rw [hnil] at hL5
                  have hL6 : Hid (Lw w B p xt 2097152 (rowP c (fun _ => true) k2) Lt (.slice A t cap) es wr) := hL5.out.rowc (fun q _ => bS_nil q)
                  have hcN : clsN (c : Int) = c := by
                    have h1 := (cls_bounds hv.1 hv.2).2.2.2
                    rw [hcc] at h1
                    unfold clsN
                    rw [h1]; exact Int.toNat_natCast c
                  obtain ⟨P, hP⟩ : ∃ P : Nat, Hid (P = k2 * c) := ⟨_, rfl⟩
                  rw [← hP.out] at hgc
                  have hp0 : (k2 : Int) * c = P := by rw [hP.out]; push_cast; rfl
                  have hp1 : ((k2 : Int) + 1) * c = P + c := by rw [Int.add_mul, hp0]; omega
                  have hlv : liveSum (rowP c (fun _ => true) k2) = P := by rw [live_rowP c _ _ (fun _ _ => rfl), hP.out]
                  have hvc : (1 : Int) ≤ c ∧ (c : Int) ≤ 1048576 := by omega
                  clear hL5 hnil
                  by_cases hfit : P + c ≤ 2097152
                  · have f1 : ¬ (2097152 : Int) < (P : Int) + c := by omega
                    obtain ⟨ht1, ht2⟩ := take_all c (fun _ => true) k2 (fun _ _ => rfl) rfl
                    have hend : ((endOf (rowP c (fun _ => true) (k2 + 1)) : Nat) : Int) = 16 + ((P : Int) + c) := by rw [end_rowP, Nat.add_mul, ← hP.out]; push_cast; omega
                    have hliv : ((liveSum (rowP c (fun _ => true) (k2 + 1)) : Nat) : Int) = (P : Int) + c := by rw [live_rowP c _ _ (fun _ _ => rfl), Nat.add_mul, ← hP.out]; push_cast; omega
                    replace ht1 := Lib.hid ht1
                    replace ht2 := Lib.hid ht2
                    replace hend := Lib.hid hend
                    replace hliv := Lib.hid hliv
                    replace hlv := Lib.hid hlv
                    replace hcN := Lib.hid hcN
                    go_wp2_with (first
                      | (go_at_call 28; (refine (lw_alloc hL6.out (c : Int) hvc c hcN.out (by rw [hlv.out]; exact hfit) ((16 : Int) + P) (by rw [ht2.out, ← hP.out]; push_cast; rfl)).mono ?_; rw [ht1.out]; rintro e w2 ⟨x2, L2, rfl, h2⟩; replace h2 := Lib.hid h2))
                      | (go_at_call 33; (refine (ar_end h2.out.ars.ar).mono ?_; rw [hend.out]; rintro e w' ⟨rfl, rfl⟩))
                      | (go_at_call 34; (refine (ar_live h2.out.ars.ar).mono ?_; rw [hliv.out]; rintro e w' ⟨rfl, rfl⟩))
                      | (go_at_call 20; refine (num_any _ _).mono ?_; rintro e w' ⟨rfl, rfl⟩)
                      | fail)
                    go_ret
                    exact ⟨rfl, h2.out.ars.below⟩
                  · have f1 : (2097152 : Int) < (P : Int) + c := by omega
                    replace hlv := Lib.hid hlv
                    replace hcN := Lib.hid hcN
                    go_wp2_with (first
                      | (go_at_call 28; (refine (lw_no hL6.out (c : Int) hvc.1 c hcN.out (by rw [hlv.out]; omega)).mono ?_; rintro e w2 ⟨rfl, h2⟩; replace h2 := Lib.hid h2))
                      | (go_at_call 20; refine (num_any _ _).mono ?_; rintro e w' ⟨rfl, rfl⟩)
                      | fail)
                    go_ret
                    exact ⟨rfl, h2.out.ars.below⟩
theorem arr4 {α : Type} {cs : Array α} (h : cs.size = 4) : ∃ c0 c1 c2 c3, cs = #[c0, c1, c2, c3] := by
  obtain ⟨l⟩ := cs
  match l, h with
  | [c0, c1, c2, c3], _ => exact ⟨c0, c1, c2, c3, rfl⟩
theorem lowest_all (w : World) (n many : Int) (H : Nat) (hH : H < 18446744073709551616) (down : Bool) :
    Calls Try.prog 5 #[.agg #[.int .i64 n, .int .i64 many, .int .u64 H, .bool down]] w fun e w' => e = .returned (.bool true) ∧ Below w.heap.size w w' := by
  by_cases hbad : n < 1 ∨ (¬ n < 1 ∧ 1048576 < n) ∨ (¬ n < 1 ∧ ¬ 1048576 < n ∧ many < 0) ∨ (¬ n < 1 ∧ ¬ 1048576 < n ∧ ¬ many < 0 ∧ 64 < many)
  · exact lowest_bad w n many H down hbad
  · obtain ⟨m, rfl⟩ : ∃ m : Nat, many = m := ⟨many.toNat, by omega⟩
    exact lowest_good w n m (by omega) H hH down (by omega)
end Go.Proofs.Ytpbalilnemjeeaa
