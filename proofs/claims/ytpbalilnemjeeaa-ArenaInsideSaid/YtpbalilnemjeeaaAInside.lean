/- What is proved here: the walk of the law ArenaInside. Conditions: the list of sizes lies in memory. -/
import Derived.Test.YtpbalilnemjeeaaGF
import Derived.Test.YtpbalilnemjeeaaAInP
import Derived.Test.YtpbalilnemjeeaaALowL
import Derived.Deep.QuietTactic
import Derived.BigQuiet
import Derived.Laws.Bits64b
import Derived.Test.YtpbalilnemjeeaaGB
import Derived.Maps.AppendAt
namespace Go.Proofs.Ytpbalilnemjeeaa
set_option linter.unusedVariables false
set_option linter.unusedSimpArgs false
open Go.RowKit Pm Pa Pl
theorem infoHeld : (Try.prog.info? 71).map (fun i => (i.zero, i.size, i.bytes)) = some (some (.agg #[.int .i64 0, .int .i64 0, .int .u8 0]), 3, 24) := by kernel_rfl
def allXs (zs : List Int) (k : Nat) : List Value := (List.range k).map fun i => Value.int .i64 ((SI zs i : Nat) : Int)
theorem allXs_succ (zs : List Int) (k : Nat) : allXs zs (k + 1) = allXs zs k ++ [.int .i64 ((SI zs k : Nat) : Int)] := by simp [allXs, List.range_succ]
theorem allXs_get (zs : List Int) (k i : Nat) (h : i < k) : (allXs zs k)[i]? = some (.int .i64 ((SI zs i : Nat) : Int)) := by simp [allXs, h]
def allR (zs : List Int) (k : Nat) (v : Value) : Row := ⟨3, 1, v, k, allXs zs k⟩
def bookR (zs : List Int) (D k : Nat) (v : Value) : Row := ⟨71, 3, v, (BL zs D k).length, bkC (BL zs D k)⟩
theorem cls_4096 {n : Int} (h1 : 1 ≤ n) (h2 : n ≤ 4096) : cls n ≤ 4096 := by
  have h : n ≤ 16 ∨ (16 < n ∧ n ≤ 32) ∨ (32 < n ∧ n ≤ 48) ∨ (48 < n ∧ n ≤ 64) ∨ (64 < n ∧ n ≤ 96) ∨ (96 < n ∧ n ≤ 128) ∨ (128 < n ∧ n ≤ 192) ∨ (192 < n ∧ n ≤ 256) ∨ (256 < n ∧ n ≤ 384) ∨ (384 < n ∧ n ≤ 512) ∨ (512 < n ∧ n ≤ 768) ∨ (768 < n ∧ n ≤ 1024) ∨ (1024 < n ∧ n ≤ 1536) ∨ (1536 < n ∧ n ≤ 2048) ∨ (2048 < n ∧ n ≤ 3072) ∨ 3072 < n := by omega
  rcases h with h | ⟨a, b⟩ | ⟨a, b⟩ | ⟨a, b⟩ | ⟨a, b⟩ | ⟨a, b⟩ | ⟨a, b⟩ | ⟨a, b⟩ | ⟨a, b⟩ | ⟨a, b⟩ | ⟨a, b⟩ | ⟨a, b⟩ | ⟨a, b⟩ | ⟨a, b⟩ | ⟨a, b⟩ | h
  · rw [cls16 (by omega) h]; decide
  · rw [cls32 a b]; decide
  · rw [cls48 a b]; decide
  · rw [cls64 a b]; decide
  · rw [cls96 a b]; decide
  · rw [cls128 a b]; decide
  · rw [cls192 a b]; decide
  · rw [cls256 a b]; decide
  · rw [cls384 a b]; decide
  · rw [cls512 a b]; decide
  · rw [cls768 a b]; decide
  · rw [cls1024 a b]; decide
  · rw [cls1536 a b]; decide
  · rw [cls2048 a b]; decide
  · rw [cls3072 a b]; decide
  · rw [cls4096 h h2]; decide
theorem clsN_4096 {n : Int} (h1 : 1 ≤ n) (h2 : n ≤ 4096) : 16 ≤ clsN n ∧ clsN n ≤ 4096 := by
  have := cls_4096 h1 h2
  have := clsN_is (n := n) (by omega)
  omega
theorem need_4096 (l : List Int) (h : ∀ z ∈ l, 1 ≤ z ∧ z ≤ 4096) : need l ≤ l.length * 4096 := by
  induction l with
  | nil => simp [need]
  | cons z t ih =>
    have h1 := clsN_4096 (h z (by simp)).1 (h z (by simp)).2
    have h2 := ih (fun y hy => h y (by simp [hy]))
    have h3 : need (z :: t) = clsN z + need t := by simp [need]
    rw [h3, List.length_cons]
    omega
theorem hole_bit0 (H i : Nat) (hH : H < 18446744073709551616) : (bits .and .u64 ((H : Int) / 2 ^ i) 1 == 0) = !hole H i := by
  have e : ((H : Int) / 2 ^ i) = ((H / 2 ^ i : Nat) : Int) := by push_cast; rfl
  rw [e, show (1 : Int) = ((1 : Nat) : Int) from rfl, bits_and_u64_nat _ _ (Nat.lt_of_le_of_lt (Nat.div_le_self _ _) hH) (by decide), Nat.and_one_is_mod]
  unfold hole
  by_cases h : H / 2 ^ i % 2 = 1
  · rw [h]; rfl
  · have h0 : H / 2 ^ i % 2 = 0 := by omega
    rw [h0]; rfl
theorem SI_bound (zs : List Int) (hz : ∀ z ∈ zs, 1 ≤ z ∧ z ≤ 4096) (i : Nat) (hi : i < zs.length) : 16 ≤ SI zs i ∧ SI zs i ≤ 16 + zs.length * 4096 := by
  have h1 := SI_end zs i (by omega)
  have h2 := need_4096 zs hz
  have h3 := need_take_le zs i
  have h4 := end_news [] (zs.take i)
  simp only [List.nil_append] at h4
  have h5 : endOf [] = 16 := rfl
  omega
theorem bookR_hole {zs : List Int} {D k : Nat} (h : hole D k = true) (v : Value) : bookR zs D (k + 1) v = bookR zs D k v := by
  unfold bookR
  rw [BL_succ, if_pos h]
theorem bookR_live {zs : List Int} {D k : Nat} (h : hole D k = false) (v : Value) : bookR zs D (k + 1) v = ⟨71, 3, v, (BL zs D k).length + 1, bkC (BL zs D k) ++ [.int .i64 ((SI zs k : Nat) : Int), .int .i64 ((clsN (zs.getD k 0) : Nat) : Int), .int .u8 0]⟩ := by
  unfold bookR
  rw [BL_succ, if_neg (by rw [h]; decide), List.length_append, bkC_snoc]; rfl
theorem BL_mem {zs : List Int} {D k : Nat} {e : Nat × Nat} (h : e ∈ BL zs D k) : ∃ i, i < k ∧ e = (SI zs i, clsN (zs.getD i 0)) := by
  obtain ⟨i, hi, rfl⟩ := List.mem_map.1 h
  exact ⟨i, by simpa using (List.mem_filter.1 hi).1, rfl⟩
theorem any_step (l : List (Nat × Nat)) (f : Nat × Nat → Bool) (j : Nat) (e : Nat × Nat) (h : l[j]? = some e) : (l.take (j + 1)).any f = ((l.take j).any f || f e) := by
  rw [List.take_add_one, h]; simp
theorem lv_write {w0 w : World} {p : Nat} {x : Loc} {lim : Nat} {ps : Parts} {L : List UInt8} {rs : List Row} (h : Lv w0 p x lim ps L rs w) (ss : List ByteArray) (A : Option Addr) (cc : Nat) (ha : StrsAt w A ss) (hl : ss.length ≤ 100000000) {off : Nat} {T : List UInt8} (hT : (ss.map fun s => s.data.toList).flatten = T)
    (hi : Inside ps off T.length) (O : Int) (hO : O = off) (N : Nat) (hN : ss.length = N) : Calls Try.prog 22 #[.pointer (some ⟨p, 0, none⟩), .int .i64 O, .slice A N cc] w fun e w' => e = .returned (.int .i64 0) ∧ Lv w0 p x lim ps (splice L off T) rs w' := by
  refine (as_write h.ars ss A cc ha hl hT hi O hO N hN).mono ?_
  rintro e w' ⟨rfl, h1, h2⟩
  exact ⟨rfl, ⟨h1, h.held, h.sh.turn h2 (fun k hk => .inl (ArAt.q_all x p k hk))⟩⟩
theorem lv_write_no {w0 w : World} {p : Nat} {x : Loc} {lim : Nat} {ps : Parts} {L : List UInt8} {rs : List Row} (h : Lv w0 p x lim ps L rs w) (ss : List ByteArray) (A : Option Addr) (cc : Nat) (ha : StrsAt w A ss) (hl : ss.length ≤ 100000000) {T : List UInt8} (hT : (ss.map fun s => s.data.toList).flatten = T)
    (hT134 : T.length ≤ 1099511627776) (O : Int) (hno : ¬ InP ps O (T.length : Int)) (N : Nat) (hN : ss.length = N) : Calls Try.prog 22 #[.pointer (some ⟨p, 0, none⟩), .int .i64 O, .slice A N cc] w fun e w' => e = .returned (.int .i64 24) ∧ Lv w0 p x lim ps L rs w' := by
  refine (as_write_no h.ars ss A cc ha hl hT hT134 O hno N hN).mono ?_
  rintro e w' ⟨rfl, h1, h2⟩
  exact ⟨rfl, h.keep h2⟩
theorem one_str (w : World) (S : ByteArray) : StrsAt (w.alloc (.cells #[.string S] 9)) (some ⟨w.heap.size, 0, none⟩) [S] := by
  intro i s hi
  cases i with
  | zero => simp at hi; subst hi; exact ⟨_, _, rfl, (Blk.new w #[.string S] 9).cell 0⟩
  | succ i => simp at hi
theorem inside_small {zs : List Int} (hz : ∀ z ∈ zs, 1 ≤ z ∧ z ≤ 4096) {b : Nat → Bool} {o k : Nat} (h : Inside (partsB zs b) o k) : k ≤ 4096 := by
  obtain ⟨i, c, hi, h1, h2⟩ := h
  rw [partsB_get] at hi
  by_cases e : i < zs.length
  · rw [if_pos e] at hi
    obtain ⟨rfl, _⟩ := Prod.mk.inj (Option.some.inj hi)
    have hzi := hz (zs.getD i 0) (by rw [List.getD_eq_getElem?_getD, List.getElem?_eq_getElem e]; exact List.getElem_mem e)
    have := (clsN_4096 hzi.1 hzi.2).2
    omega
  · rw [if_neg e] at hi; cases hi
set_option maxHeartbeats 8000000 in
set_option maxRecDepth 100000 in
theorem inside_all (w : World) (A : Option Addr) (cap : Nat) (zs : List Int) (D : Nat) (hD : D < 18446744073709551616) (off n : Int) (ho : -9223372036854775808 ≤ off ∧ off ≤ 9223372036854775807) (hn : -9223372036854775808 ≤ n ∧ n ≤ 9223372036854775807)
    (hz : IntsIn w A zs) (hlen : zs.length ≤ 17592186044414) :
    Calls Try.prog 7 #[.agg #[.slice A zs.length cap, .int .u64 (D : Int), .int .i64 off, .int .i64 n]] w fun e w' => e = .returned (.bool true) ∧ Below w.heap.size w w' := by
  obtain ⟨N, hN⟩ : ∃ N, Hid (zs.length = N) := ⟨_, rfl⟩
  rw [hN.out] at hlen ⊢
  have hb1 := Blk.new w #[.slice A N cap, .int .u64 (D : Int), .int .i64 off, .int .i64 n] 68
  have hbl := (Below.refl w.heap.size w).alloc (Nat.le_refl _) (.cells #[.slice A N cap, .int .u64 (D : Int), .int .i64 off, .int .i64 n] 68)
  go_enter Try.func7, Try.ntmps7
  go_upto_region 1 with (fail)
  generalize World.alloc w _ = wa at hb1 hbl ⊢
  have c0 := hb1.cell 0
  have c1 := hb1.cell 1
  have c2 := hb1.cell 2
  have c3 := hb1.cell 3
  replace hbl := Lib.hid hbl
  go_quiet (fail)
  go_upto_region 7 with (first
    | (go_at_call 19; refine (as_new 2097152 _ (by decide) _ rfl).mono ?_; rintro e w1 ⟨p, x, L0, rfl, h1⟩; replace h1 := Lib.hid (AS.base (by first | exact below_drewN hbl.out _ | exact hbl.out.drew | exact hbl.out) h1))
    | (go_at_call 20; refine (num_any _ _).mono ?_; rintro e w' ⟨rfl, rfl⟩)
    | fail)
  have hL : Hid (Lv w p x 2097152 (news (zs.take 0)) L0 [allR zs 0 (.slice none 0 0)] w1) := (Lv.start h1.out (Held.nil _)).pushNil 3 1
  clear h1 c0 c1 c2 c3 hb1 hbl
  obtain ⟨i0, hi0, hz0, hz1, hz2⟩ := info_parts infoInt
  replace hi0 := Lib.hid hi0
  replace hz0 := Lib.hid hz0
  replace hz1 := Lib.hid hz1
  replace hz2 := Lib.hid hz2
  replace hz := Lib.hid hz
  go_loopw [9, 47] (fun a9 a47 wr => ∃ (k : Nat) (v : Value) (xk : Loc) (Lk : List UInt8), k ≤ N ∧ k ≤ 64 ∧ v = a9 ∧ a47 = .int .i64 (k : Int) ∧ Hid (∀ z ∈ zs.take k, 1 ≤ z ∧ z ≤ 4096) ∧ Hid (Lv w p xk 2097152 (news (zs.take k)) Lk [allR zs k v] wr)) (fun _ i _ => (N - (intOf i).toNat))
  case atStart => exact ⟨0, _, x, L0, Nat.zero_le _, by decide, rfl, rfl, (fun z hz => by simp at hz), hL⟩
  case round =>
    clear hL
    obtain ⟨k, v, xk, Lk, hk, hk64, rfl, rfl, hzk, hL⟩ := hrel
    by_cases hlt : k < N
    · obtain ⟨z, hzz⟩ : ∃ z, Hid (zs[k]? = some z) := ⟨_, List.getElem?_eq_getElem (by rw [hN.out]; exact hlt)⟩
      obtain ⟨gz, oz, hAz, hcz⟩ := ints_below hz.out hL.out.ars.below k z hzz.out
      subst hAz
      have k0 : (0 : Int) ≤ k := by omega
      have k1 : (k : Int) < N := by omega
      by_cases hbad : 64 ≤ k ∨ (¬ 64 ≤ k ∧ z < 1) ∨ (¬ 64 ≤ k ∧ ¬ z < 1 ∧ 4096 < z)
      · rcases hbad with q1 | ⟨q1, q2⟩ | ⟨q1, q2, q3⟩
        · have q1' : (64 : Int) ≤ k := by omega
          go_wp2_with fail
          go_ret
          exact ⟨rfl, hL.out.ars.below⟩
        · have q1' : ¬ (64 : Int) ≤ k := by omega
          go_wp2_with fail
          go_ret
          exact ⟨rfl, hL.out.ars.below⟩
        · have q1' : ¬ (64 : Int) ≤ k := by omega
          go_wp2_with fail
          go_ret
          exact ⟨rfl, hL.out.ars.below⟩
      · have q1 : ¬ (64 : Int) ≤ k := by omega
        have q2 : ¬ z < 1 := by omega
        have q3 : ¬ (4096 : Int) < z := by omega
        obtain ⟨ht1, ht2⟩ := take_news zs k z hzz.out
        have hzk1 : Hid (∀ y ∈ zs.take (k + 1), 1 ≤ y ∧ y ≤ 4096) := fun y hy => by
          rw [take_snoc zs k z hzz.out] at hy
          rcases List.mem_append.1 hy with e | e
          · exact hzk.out y e
          · simp only [List.mem_singleton] at e; subst e; omega
        have hroom : liveSum (news (zs.take k)) + clsN z ≤ 2097152 := by
          rw [live_partsNews]
          have h1 := need_4096 _ hzk.out
          have h2 := clsN_4096 (n := z) (by omega) (by omega)
          rw [List.length_take] at h1
          have h3 : min k zs.length * 4096 ≤ 64 * 4096 := Nat.mul_le_mul_right _ (by omega)
          omega
        obtain ⟨S, hS⟩ : ∃ S : Nat, Hid (S = SI zs k) := ⟨_, rfl⟩
        rw [← hS.out] at ht2
        replace ht1 := Lib.hid ht1
        replace ht2 := Lib.hid ht2
        replace hroom := Lib.hid hroom
        have hxs := Lib.hid (allXs_succ zs k)
        clear hzk hbad
        go_wp2_with (first
          | (go_at_call 28; go_loud (refine (lv_alloc hL.out z ⟨by omega, by omega⟩ _ rfl hroom.out (S : Int) (by rw [ht2.out])).mono ?_; rw [ht1.out]; rintro e w2 ⟨x2, L2, rfl, h2, _⟩; replace h2 := Lib.hid (h2.alloc (.cells #[.int .i64 (S : Int)] 3))))
          | (go_at_call 20; refine (num_any _ _).mono ?_; rintro e w' ⟨rfl, rfl⟩)
          | (at_builtin; go_loud (refine wpList_append_loc _ rfl _ _ 29 rfl w.heap.size 3 i0 (.int .i64 0) 1 8 Try.underlying29 hi0.out hz0.out hz1.out hz2.out rfl (by decide) _ k _ rfl (h2.out.sh.row 0 _ rfl) ⟨w2.heap.size, 0, none⟩ 1 1 [.int .i64 (S : Int)] rfl rfl (cell_one_new _ _ _) (by simp [Value.oneCell']) (by unfold maxLen; omega) (by omega) (by have := h2.out.ars.below.size; exact this) ?_; intro v3 w3 hr3 ht3 hl3; have h3 := Lib.hid (h2.out.put (i := 0) rfl (allR zs (k + 1) v3) ht3 (by unfold allR; rw [hxs.out, ← hS.out]; exact hr3) hl3); clear hr3 ht3 hl3))
          | fail)
        exact ⟨⟨k + 1, v3, x2, L2, by omega, by omega, rfl, by go_num, hzk1, h3⟩, by simp [intOf]; omega⟩
    · obtain rfl : k = N := by omega
      rw [List.take_of_length_le (by rw [hN.out]; exact Nat.le_refl _)] at hL hzk
      have hz4 := hzk
      obtain ⟨A2, cap2, hve, hA2⟩ := own_some (hL.out.sh.row 0 _ rfl)
      have hve2 : v = .slice A2 k cap2 := hve
      subst hve2
      clear hve
      replace hA2 : Hid (0 < k → ∃ g, A2 = some ⟨g, 0, none⟩) := hA2
      have hL2 : Hid (Lv w p xk 2097152 (partsB zs (bK D 0)) Lk [allR zs k (.slice A2 k cap2), bookR zs D 0 (.slice none 0 0)] wr) := by
        have h9 := hL.out
        rw [← partsB_news, ← bK_zero D] at h9
        exact h9.pushNil 71 3
      obtain ⟨j0, hj0, hy0, hy1, hy2⟩ := info_parts infoHeld
      replace hj0 := Lib.hid hj0
      replace hy0 := Lib.hid hy0
      replace hy1 := Lib.hid hy1
      replace hy2 := Lib.hid hy2
      clear hL hzk hlt
      go_upto_region 18 with (fail)
      go_loopw [14, 78] (fun a14 a78 ws => ∃ (k2 : Nat) (vb : Value) (x2 : Loc) (L2 : List UInt8), k2 ≤ k ∧ vb = a14 ∧ a78 = .int .i64 (k2 : Int) ∧ Hid (Lv w p x2 2097152 (partsB zs (bK D k2)) L2 [allR zs k (.slice A2 k cap2), bookR zs D k2 vb] ws)) (fun _ i _ => (k - (intOf i).toNat))
      case atStart => exact ⟨0, _, xk, Lk, Nat.zero_le _, rfl, rfl, hL2⟩
      case round =>
        clear hL2
        obtain ⟨k2, vb, x2, L2, hk2, rfl, rfl, hL⟩ := hrel
        by_cases hlt : k2 < k
        · obtain ⟨gA, rfl⟩ := hA2.out (by omega)
          obtain ⟨z, hzz⟩ : ∃ z, Hid (zs[k2]? = some z) := ⟨_, List.getElem?_eq_getElem (by rw [hN.out]; exact hlt)⟩
          have hzb := hz4.out z (List.mem_of_getElem? hzz.out)
          have hgd : zs.getD k2 0 = z := by rw [List.getD_eq_getElem?_getD, hzz.out]; rfl
          obtain ⟨gz, oz, hAz, hcz⟩ := ints_below hz.out hL.out.ars.below k2 z hzz.out
          subst hAz
          have k0 : (0 : Int) ≤ k2 := by omega
          have k1 : (k2 : Int) < k := by omega
          have hca := own_cell (hL.out.sh.row 0 _ rfl) k2 _ (allXs_get zs k k2 hlt)
          have hbit := hole_bit0 D k2 hD
          obtain ⟨S, hS⟩ : ∃ S : Nat, Hid (S = SI zs k2) := ⟨_, rfl⟩
          rw [← hS.out] at hca
          by_cases hho : hole D k2 = true
          · have hsome := size_partsB zs hz4.out (bK D k2) k2 (by rw [hN.out]; exact hlt) (bK_in D k2)
            have hfree := free_partsB zs hz4.out (bK D k2) k2 (by rw [hN.out]; exact hlt)
            rw [← bK_free D k2 hho, ← hS.out] at hfree
            rw [← hS.out] at hsome
            have hbr := bookR_hole (zs := zs) hho vb
            rw [hho] at hbit
            replace hsome := Lib.hid hsome
            replace hfree := Lib.hid hfree
            replace hbr := Lib.hid hbr
            clear hho hgd
            go_wp2_with (first
              | (go_at_call 32; go_loud (refine (lv_free hL.out (S : Int) hsome.out).mono ?_; rw [hfree.out]; rintro e w2 ⟨x3, rfl, h3⟩; rw [← hbr.out] at h3; replace h3 := Lib.hid h3))
              | (go_at_call 20; refine (num_any _ _).mono ?_; rintro e w' ⟨rfl, rfl⟩)
              | fail)
            exact ⟨⟨k2 + 1, vb, x3, L2, by omega, rfl, by go_num, h3⟩, by simp [intOf]; omega⟩
          · have hho2 : hole D k2 = false := by simpa using hho
            rw [hho2] at hbit
            have hbr := Lib.hid (bookR_live (zs := zs) hho2)
            have hbk := Lib.hid (partsB_congr zs _ _ (fun i _ => bK_stay D k2 hho2 i))
            obtain ⟨c, hc⟩ : ∃ c : Nat, Hid (c = clsN z) := ⟨_, rfl⟩
            have hcl := Lib.hid (by rw [(clsN_is (n := z) (by omega)).1, ← hc.out] : cls z = (c : Int))
            have hbn := BL_len zs D k2
            replace hgd := Lib.hid hgd
            clear hho hho2
            go_wp2_with (first
              | (go_at_call 31; refine (classOf_cls z _ (by omega)).mono ?_; rw [hcl.out]; rintro e w' ⟨rfl, rfl⟩; have h2 := Lib.hid (hL.out.alloc (.cells #[.int .i64 (S : Int), .int .i64 (c : Int), .int .u8 0] 71)))
              | (at_builtin; go_loud (refine wpList_append_loc _ rfl _ _ 69 rfl w.heap.size 71 j0 (.agg #[.int .i64 0, .int .i64 0, .int .u8 0]) 3 24 Try.underlying69 hj0.out hy0.out hy1.out hy2.out rfl (by decide) vb (BL zs D k2).length _ rfl (h2.out.sh.row 1 _ rfl) ⟨wr.heap.size, 0, none⟩ 1 1 [.int .i64 (S : Int), .int .i64 (c : Int), .int .u8 0] rfl rfl (cells_three _ _ _ _ _) (by simp [Value.oneCell']) (by unfold maxLen; omega) (by omega) (by have := h2.out.ars.below.size; exact this) ?_; intro v3 w3 hr3 ht3 hl3; have h3 := Lib.hid (h2.out.put (i := 1) rfl (bookR zs D (k2 + 1) v3) ht3 (by rw [hbr.out, hgd.out, ← hS.out, ← hc.out]; exact hr3) hl3); rw [← hbk.out] at h3; clear hr3 ht3 hl3))
              | fail)
            exact ⟨⟨k2 + 1, v3, x2, L2, by omega, rfl, by go_num, h3⟩, by simp [intOf]; omega⟩
        · obtain rfl : k2 = k := by omega
          obtain ⟨A3, cap3, hve3, hA3⟩ := own_some (hL.out.sh.row 1 _ rfl)
          obtain ⟨m, hm⟩ : ∃ m : Nat, Hid (m = (BL zs D k2).length) := ⟨_, rfl⟩
          have hve4 : vb = .slice A3 m cap3 := by rw [hm.out]; exact hve3
          subst hve4
          clear hve3
          replace hA3 : Hid (0 < m → ∃ g, A3 = some ⟨g, 0, none⟩) := by rw [hm.out]; exact hA3
          have hmk : m ≤ k2 := by rw [hm.out]; exact BL_len zs D k2
          clear hlt hA2 hi0 hz0 hz1 hz2 hj0 hy0 hy1 hy2
          obtain ⟨hit, hhit⟩ : ∃ f : Nat × Nat → Bool, Hid (f = hitB off n) := ⟨_, rfl⟩
          obtain ⟨ws0, hws0⟩ : ∃ ws0, Hid (ws0 = wr) := ⟨_, rfl⟩
          have hcs : ∀ j e, (BL zs D k2)[j]? = some e → ∃ g, A3 = some ⟨g, 0, none⟩ ∧ ∀ W, Lv w p x2 2097152 (partsB zs (bK D k2)) L2 [allR zs k2 (.slice A2 k2 cap2), bookR zs D k2 (.slice A3 m cap3)] W → W.cell? ⟨g, j * 3, none⟩ = some (.int .i64 (e.1 : Int)) ∧ W.cell? ⟨g, j * 3 + 1, none⟩ = some (.int .i64 (e.2 : Int)) ∧ W.cell? ⟨g, j * 3 + 2, none⟩ = some (.int .u8 0) := by
            intro j e he
            obtain ⟨g, rfl⟩ := hA3.out (by rw [hm.out]; have := (List.getElem?_eq_some_iff.1 he).1; omega)
            refine ⟨g, rfl, fun W hW => ?_⟩
            have hr : W.ownsRow w.heap.size 71 3 (.slice (some ⟨g, 0, none⟩) m cap3) m (bkC (BL zs D k2)) := by
              have h9 : W.ownsRow w.heap.size 71 3 (.slice (some ⟨g, 0, none⟩) m cap3) (BL zs D k2).length (bkC (BL zs D k2)) := hW.sh.row 1 _ rfl
              rw [← hm.out] at h9
              exact h9
            exact ⟨own_cell hr _ _ (bkC_get _ j 0 e he (by decide)), own_cell hr _ _ (bkC_get _ j 1 e he (by decide)), own_cell hr _ _ (bkC_get _ j 2 e he (by decide))⟩
          replace hcs := Lib.hid hcs
          go_upto_region 27 with (fail)
          go_loopw [17, 107] (fun a17 a107 ws => ∃ j : Nat, j ≤ m ∧ a107 = .int .i64 (j : Int) ∧ a17 = .int .i64 (if ((BL zs D k2).take j).any hit = true then 0 else 24) ∧ Hid (Lv w p x2 2097152 (partsB zs (bK D k2)) L2 [allR zs k2 (.slice A2 k2 cap2), bookR zs D k2 (.slice A3 m cap3)] ws)) (fun _ i _ => (m - (intOf i).toNat))
          case atStart => exact ⟨0, Nat.zero_le _, rfl, by simp, hL⟩
          case round =>
            clear hL
            obtain ⟨j, hj, rfl, rfl, hL⟩ := hrel
            by_cases hlt : j < m
            · obtain ⟨⟨eo, ec⟩, he⟩ : ∃ e, Hid ((BL zs D k2)[j]? = some e) := ⟨_, List.getElem?_eq_getElem (by rw [← hm.out]; exact hlt)⟩
              obtain ⟨g3, rfl, hc3⟩ := hcs.out j _ he.out
              obtain ⟨d0, d1, d2⟩ := hc3 wr hL.out
              clear hc3
              have hst := any_step _ hit j _ he.out
              obtain ⟨i, hi, hie⟩ := BL_mem (List.mem_of_getElem? he.out)
              obtain ⟨rfl, rfl⟩ := Prod.mk.inj hie
              have hsb := SI_bound zs hz4.out i (by rw [hN.out]; omega)
              have hzi := hz4.out (zs.getD i 0) (by rw [List.getD_eq_getElem?_getD, List.getElem?_eq_getElem (by rw [hN.out]; omega)]; exact List.getElem_mem _)
              have hcb := clsN_4096 hzi.1 hzi.2
              rw [hN.out] at hsb
              obtain ⟨eo, heo⟩ : ∃ eo, Hid (eo = SI zs i) := ⟨_, rfl⟩
              obtain ⟨ec, hec⟩ : ∃ ec, Hid (ec = clsN (zs.getD i 0)) := ⟨_, rfl⟩
              rw [← heo.out] at d0 hsb hst
              rw [← hec.out] at d1 hcb hst
              obtain ⟨b, hb⟩ : ∃ b, Hid (((BL zs D k2).take j).any hit = b) := ⟨_, rfl⟩
              rw [hb.out] at hst ⊢
              obtain ⟨q, hq⟩ : ∃ q : Int, Hid (q = if b = true then 0 else 24) := ⟨_, rfl⟩
              rw [← hq.out]
              have j0 : (0 : Int) ≤ j := by omega
              have j1 : (j : Int) < m := by omega
              have hL2 := Lib.hid (hL.out.alloc (.cells #[.int .i64 (eo : Int), .int .i64 (ec : Int), .int .u8 0] 71))
              have hno : ¬ (0 ≤ n ∧ n ≤ (ec : Int) ∧ (eo : Int) ≤ off ∧ off - eo ≤ (ec : Int) - n) → hit (eo, ec) = false := fun h => by rw [hhit.out]; cases hh : hitB off n (eo, ec) with | false => rfl | true => exact absurd ((hitB_iff _ _ _).1 hh) h
              replace hno := Lib.hid hno
              replace hst := Lib.hid hst
              have hkeep : hit (eo, ec) = false → q = if ((BL zs D k2).take (j + 1)).any hit = true then 0 else 24 := fun h => by rw [hst.out, h, Bool.or_false]; exact hq.out
              replace hkeep := Lib.hid hkeep
              clear hie he hzi hi
              by_cases f1 : 0 ≤ n
              · by_cases f2 : n ≤ (ec : Int)
                · by_cases f3 : (eo : Int) ≤ off
                  · by_cases f4 : off - eo ≤ (ec : Int) - n
                    · have hyes : Hid (hit (eo, ec) = true) := by unfold Hid; rw [hhit.out]; exact (hitB_iff _ _ _).2 ⟨f1, f2, f3, f4⟩
                      go_wp2_with fail
                      exact ⟨⟨j + 1, by omega, by go_num, by rw [hst.out, hyes.out, Bool.or_true]; rfl, hL2⟩, by simp [intOf]; omega⟩
                    · have f4' : ¬ (off - eo ≤ (ec : Int) - n) := f4
                      go_wp2_with fail
                      exact ⟨⟨j + 1, by omega, by go_num, by rw [← hkeep.out (hno.out (fun h => f4' h.2.2.2))], hL2⟩, by simp [intOf]; omega⟩
                  · go_wp2_with fail
                    exact ⟨⟨j + 1, by omega, by go_num, by rw [← hkeep.out (hno.out (fun h => f3 h.2.2.1))], hL2⟩, by simp [intOf]; omega⟩
                · go_wp2_with fail
                  exact ⟨⟨j + 1, by omega, by go_num, by rw [← hkeep.out (hno.out (fun h => f2 h.2.1))], hL2⟩, by simp [intOf]; omega⟩
              · go_wp2_with fail
                exact ⟨⟨j + 1, by omega, by go_num, by rw [← hkeep.out (hno.out (fun h => f1 h.1))], hL2⟩, by simp [intOf]; omega⟩
            · obtain rfl : j = m := by omega
              rw [List.take_of_length_le (by rw [hm.out]; exact Nat.le_refl _)]
              have hiff : ((BL zs D k2).any hit = true) ↔ InP (partsB zs (bK D k2)) off n := by
                rw [hhit.out]
                have h9 := hit_in zs D off n
                rw [hN.out] at h9
                exact h9
              obtain ⟨ps, hps⟩ : ∃ ps, Hid (ps = partsB zs (bK D k2)) := ⟨_, rfl⟩
              rw [← hps.out] at hiff hL
              by_cases hin : InP ps off n
              · rw [hiff.2 hin, if_pos rfl]
                obtain ⟨oo, kk, hoo, hnk, hin⟩ := hin
                have hk4 : kk ≤ 4096 := by rw [hps.out] at hin; exact inside_small hz4.out hin
                have hkl : oo + kk ≤ L2.length := Nat.le_trans (hL.out.ars.ar.inside hin) hL.out.ars.ar.mem.le
                obtain ⟨S, hS⟩ : ∃ S : ByteArray, S.data.toList = (L2.drop oo).take kk := ⟨⟨((L2.drop oo).take kk).toArray⟩, by simp⟩
                have hSz : (S.size : Int) = n := by
                  have h9 : S.data.toList.length = kk := by rw [hS, List.length_take, List.length_drop]; omega
                  rw [hnk, ← h9]; rfl
                obtain ⟨S1, hS1⟩ : ∃ S : ByteArray, S.data.toList = List.replicate kk 1 := ⟨⟨(List.replicate kk 1).toArray⟩, by simp⟩
                have n1 : 0 ≤ n := by omega
                have n2 : n ≤ 4096 := by omega
                replace hoo := Lib.hid hoo
                replace hnk := Lib.hid hnk
                replace hin := Lib.hid hin
                replace hS := Lib.hid hS
                replace hS1 := Lib.hid hS1
                have hnkk : n = kk := hnk.out
                clear hiff hkl hps hcs hz4 hA3 hz
                by_cases hw : isW n
                · rcases hw with rfl | rfl | rfl | rfl
                  · replace hnkk := Lib.hid hnkk
                    have hk9 : kk = 1 := by have := hnkk.out; omega
                    replace hk9 := Lib.hid hk9
                    go_wp2_with (first
                      | (go_at_call 25; go_loud (refine (lv_read hL.out hin.out off _ hoo.out hnk.out S hS.out).mono ?_; rintro e w1 ⟨rfl, h1⟩; replace h1 := Lib.hid h1))
                      | (go_at_call 23; go_loud (refine (lv_equal h1.out hin.out hin.out off off _ hoo.out hoo.out hnk.out true (by simp)).mono ?_; rintro e w2 ⟨rfl, h2⟩; replace h2 := Lib.hid h2))
                      | (go_at_call 26; go_loud (refine (lv_fill h2.out hin.out 7 off _ hoo.out hnk.out 7 rfl).mono ?_; rintro e w3 ⟨rfl, h3⟩; replace h3 := Lib.hid h3))
                      | (go_at_call 24; go_loud (refine (lv_copy h3.out hin.out hin.out off off _ hoo.out hoo.out hnk.out).mono ?_; rintro e w4 ⟨rfl, h4⟩; replace h4 := Lib.hid h4))
                      | (go_at_call 27; go_loud (refine (repeat_to 1 kk hk4 S1 hS1.out _ 1 _ rfl hnk.out).mono ?_; rintro e w5 ⟨rfl, hb5⟩; have h5 := Lib.hid ((h4.out.keep hb5).alloc (.cells #[.string S1] 9)); clear hb5))
                      | (go_at_call 22; go_loud (refine (lv_write h5.out [S1] _ _ (one_str _ _) (by simp) (T := List.replicate kk 1) (by simp [hS1.out]) (by rw [List.length_replicate]; exact hin.out) off hoo.out 1 rfl).mono ?_; rintro e w6 ⟨rfl, h6⟩; replace h6 := Lib.hid h6))
                      | (go_at_call 30; go_loud (refine (lv_load h6.out hin.out (by have := hk9.out; omega) off _ hoo.out hnk.out _ rfl).mono ?_; rintro e w7 ⟨rfl, h7⟩; replace h7 := Lib.hid h7))
                      | (go_at_call 29; go_loud (refine (lv_store h7.out hin.out (by have := hk9.out; omega) 5 (by decide) off _ 5 hoo.out hnk.out rfl).mono ?_; rintro e w8 ⟨rfl, h8⟩; replace h8 := Lib.hid h8))
                      | (go_at_call 20; refine (num_any _ _).mono ?_; rintro e w' ⟨rfl, rfl⟩)
                      | fail)
                    go_ret
                    exact ⟨rfl, h8.out.ars.below⟩
                  · replace hnkk := Lib.hid hnkk
                    have hk9 : kk = 2 := by have := hnkk.out; omega
                    replace hk9 := Lib.hid hk9
                    go_wp2_with (first
                      | (go_at_call 25; go_loud (refine (lv_read hL.out hin.out off _ hoo.out hnk.out S hS.out).mono ?_; rintro e w1 ⟨rfl, h1⟩; replace h1 := Lib.hid h1))
                      | (go_at_call 23; go_loud (refine (lv_equal h1.out hin.out hin.out off off _ hoo.out hoo.out hnk.out true (by simp)).mono ?_; rintro e w2 ⟨rfl, h2⟩; replace h2 := Lib.hid h2))
                      | (go_at_call 26; go_loud (refine (lv_fill h2.out hin.out 7 off _ hoo.out hnk.out 7 rfl).mono ?_; rintro e w3 ⟨rfl, h3⟩; replace h3 := Lib.hid h3))
                      | (go_at_call 24; go_loud (refine (lv_copy h3.out hin.out hin.out off off _ hoo.out hoo.out hnk.out).mono ?_; rintro e w4 ⟨rfl, h4⟩; replace h4 := Lib.hid h4))
                      | (go_at_call 27; go_loud (refine (repeat_to 1 kk hk4 S1 hS1.out _ 1 _ rfl hnk.out).mono ?_; rintro e w5 ⟨rfl, hb5⟩; have h5 := Lib.hid ((h4.out.keep hb5).alloc (.cells #[.string S1] 9)); clear hb5))
                      | (go_at_call 22; go_loud (refine (lv_write h5.out [S1] _ _ (one_str _ _) (by simp) (T := List.replicate kk 1) (by simp [hS1.out]) (by rw [List.length_replicate]; exact hin.out) off hoo.out 1 rfl).mono ?_; rintro e w6 ⟨rfl, h6⟩; replace h6 := Lib.hid h6))
                      | (go_at_call 30; go_loud (refine (lv_load h6.out hin.out (by have := hk9.out; omega) off _ hoo.out hnk.out _ rfl).mono ?_; rintro e w7 ⟨rfl, h7⟩; replace h7 := Lib.hid h7))
                      | (go_at_call 29; go_loud (refine (lv_store h7.out hin.out (by have := hk9.out; omega) 5 (by decide) off _ 5 hoo.out hnk.out rfl).mono ?_; rintro e w8 ⟨rfl, h8⟩; replace h8 := Lib.hid h8))
                      | (go_at_call 20; refine (num_any _ _).mono ?_; rintro e w' ⟨rfl, rfl⟩)
                      | fail)
                    go_ret
                    exact ⟨rfl, h8.out.ars.below⟩
                  · replace hnkk := Lib.hid hnkk
                    have hk9 : kk = 4 := by have := hnkk.out; omega
                    replace hk9 := Lib.hid hk9
                    go_wp2_with (first
                      | (go_at_call 25; go_loud (refine (lv_read hL.out hin.out off _ hoo.out hnk.out S hS.out).mono ?_; rintro e w1 ⟨rfl, h1⟩; replace h1 := Lib.hid h1))
                      | (go_at_call 23; go_loud (refine (lv_equal h1.out hin.out hin.out off off _ hoo.out hoo.out hnk.out true (by simp)).mono ?_; rintro e w2 ⟨rfl, h2⟩; replace h2 := Lib.hid h2))
                      | (go_at_call 26; go_loud (refine (lv_fill h2.out hin.out 7 off _ hoo.out hnk.out 7 rfl).mono ?_; rintro e w3 ⟨rfl, h3⟩; replace h3 := Lib.hid h3))
                      | (go_at_call 24; go_loud (refine (lv_copy h3.out hin.out hin.out off off _ hoo.out hoo.out hnk.out).mono ?_; rintro e w4 ⟨rfl, h4⟩; replace h4 := Lib.hid h4))
                      | (go_at_call 27; go_loud (refine (repeat_to 1 kk hk4 S1 hS1.out _ 1 _ rfl hnk.out).mono ?_; rintro e w5 ⟨rfl, hb5⟩; have h5 := Lib.hid ((h4.out.keep hb5).alloc (.cells #[.string S1] 9)); clear hb5))
                      | (go_at_call 22; go_loud (refine (lv_write h5.out [S1] _ _ (one_str _ _) (by simp) (T := List.replicate kk 1) (by simp [hS1.out]) (by rw [List.length_replicate]; exact hin.out) off hoo.out 1 rfl).mono ?_; rintro e w6 ⟨rfl, h6⟩; replace h6 := Lib.hid h6))
                      | (go_at_call 30; go_loud (refine (lv_load h6.out hin.out (by have := hk9.out; omega) off _ hoo.out hnk.out _ rfl).mono ?_; rintro e w7 ⟨rfl, h7⟩; replace h7 := Lib.hid h7))
                      | (go_at_call 29; go_loud (refine (lv_store h7.out hin.out (by have := hk9.out; omega) 5 (by decide) off _ 5 hoo.out hnk.out rfl).mono ?_; rintro e w8 ⟨rfl, h8⟩; replace h8 := Lib.hid h8))
                      | (go_at_call 20; refine (num_any _ _).mono ?_; rintro e w' ⟨rfl, rfl⟩)
                      | fail)
                    go_ret
                    exact ⟨rfl, h8.out.ars.below⟩
                  · replace hnkk := Lib.hid hnkk
                    have hk9 : kk = 8 := by have := hnkk.out; omega
                    replace hk9 := Lib.hid hk9
                    go_wp2_with (first
                      | (go_at_call 25; go_loud (refine (lv_read hL.out hin.out off _ hoo.out hnk.out S hS.out).mono ?_; rintro e w1 ⟨rfl, h1⟩; replace h1 := Lib.hid h1))
                      | (go_at_call 23; go_loud (refine (lv_equal h1.out hin.out hin.out off off _ hoo.out hoo.out hnk.out true (by simp)).mono ?_; rintro e w2 ⟨rfl, h2⟩; replace h2 := Lib.hid h2))
                      | (go_at_call 26; go_loud (refine (lv_fill h2.out hin.out 7 off _ hoo.out hnk.out 7 rfl).mono ?_; rintro e w3 ⟨rfl, h3⟩; replace h3 := Lib.hid h3))
                      | (go_at_call 24; go_loud (refine (lv_copy h3.out hin.out hin.out off off _ hoo.out hoo.out hnk.out).mono ?_; rintro e w4 ⟨rfl, h4⟩; replace h4 := Lib.hid h4))
                      | (go_at_call 27; go_loud (refine (repeat_to 1 kk hk4 S1 hS1.out _ 1 _ rfl hnk.out).mono ?_; rintro e w5 ⟨rfl, hb5⟩; have h5 := Lib.hid ((h4.out.keep hb5).alloc (.cells #[.string S1] 9)); clear hb5))
                      | (go_at_call 22; go_loud (refine (lv_write h5.out [S1] _ _ (one_str _ _) (by simp) (T := List.replicate kk 1) (by simp [hS1.out]) (by rw [List.length_replicate]; exact hin.out) off hoo.out 1 rfl).mono ?_; rintro e w6 ⟨rfl, h6⟩; replace h6 := Lib.hid h6))
                      | (go_at_call 30; go_loud (refine (lv_load h6.out hin.out (by have := hk9.out; omega) off _ hoo.out hnk.out _ rfl).mono ?_; rintro e w7 ⟨rfl, h7⟩; replace h7 := Lib.hid h7))
                      | (go_at_call 29; go_loud (refine (lv_store h7.out hin.out (by have := hk9.out; omega) 5 (by decide) off _ 5 hoo.out hnk.out rfl).mono ?_; rintro e w8 ⟨rfl, h8⟩; replace h8 := Lib.hid h8))
                      | (go_at_call 20; refine (num_any _ _).mono ?_; rintro e w' ⟨rfl, rfl⟩)
                      | fail)
                    go_ret
                    exact ⟨rfl, h8.out.ars.below⟩
                · have v1 : ¬ n = 1 := fun e => hw (.inl e)
                  have v2 : ¬ n = 2 := fun e => hw (.inr (.inl e))
                  have v4 : ¬ n = 4 := fun e => hw (.inr (.inr (.inl e)))
                  have v8 : ¬ n = 8 := fun e => hw (.inr (.inr (.inr e)))
                  replace hnkk := Lib.hid hnkk
                  replace hw := Lib.hid hw
                  have b1 : (n != 1) = true := by simpa using v1
                  have b2 : (n != 2) = true := by simpa using v2
                  have b4 : (n != 4) = true := by simpa using v4
                  have b8 : (n != 8) = true := by simpa using v8
                  go_wp2_with (first
                    | (go_at_call 25; go_loud (refine (lv_read hL.out hin.out off _ hoo.out hnk.out S hS.out).mono ?_; rintro e w1 ⟨rfl, h1⟩; replace h1 := Lib.hid h1))
                    | (go_at_call 23; go_loud (refine (lv_equal h1.out hin.out hin.out off off _ hoo.out hoo.out hnk.out true (by simp)).mono ?_; rintro e w2 ⟨rfl, h2⟩; replace h2 := Lib.hid h2))
                    | (go_at_call 26; go_loud (refine (lv_fill h2.out hin.out 7 off _ hoo.out hnk.out 7 rfl).mono ?_; rintro e w3 ⟨rfl, h3⟩; replace h3 := Lib.hid h3))
                    | (go_at_call 24; go_loud (refine (lv_copy h3.out hin.out hin.out off off _ hoo.out hoo.out hnk.out).mono ?_; rintro e w4 ⟨rfl, h4⟩; replace h4 := Lib.hid h4))
                    | (go_at_call 27; go_loud (refine (repeat_to 1 kk hk4 S1 hS1.out _ 1 _ rfl hnk.out).mono ?_; rintro e w5 ⟨rfl, hb5⟩; have h5 := Lib.hid ((h4.out.keep hb5).alloc (.cells #[.string S1] 9)); clear hb5))
                    | (go_at_call 22; go_loud (refine (lv_write h5.out [S1] _ _ (one_str _ _) (by simp) (T := List.replicate kk 1) (by simp [hS1.out]) (by rw [List.length_replicate]; exact hin.out) off hoo.out 1 rfl).mono ?_; rintro e w6 ⟨rfl, h6⟩; replace h6 := Lib.hid h6))
                    | (go_at_call 30; go_loud (refine (lv_load_no h6.out off _ 10 (.inl ⟨rfl, hw.out⟩)).mono ?_; rintro e w7 ⟨rfl, h7⟩; replace h7 := Lib.hid h7))
                    | (go_at_call 29; go_loud (refine (lv_store_no h7.out off _ 5 10 (.inl ⟨rfl, hw.out⟩)).mono ?_; rintro e w8 ⟨rfl, h8⟩; replace h8 := Lib.hid h8))
                    | (go_at_call 20; refine (num_any _ _).mono ?_; rintro e w' ⟨rfl, rfl⟩)
                    | fail)
                  go_ret
                  exact ⟨rfl, h8.out.ars.below⟩
              · have hany : ((BL zs D k2).any hit) = false := by cases hh : (BL zs D k2).any hit with | false => rfl | true => exact absurd (hiff.1 hh) hin
                rw [hany, if_neg (by decide)]
                replace hin := Lib.hid hin
                clear hiff hps hcs hz4 hA3 hz hany
                by_cases hr : 0 ≤ n ∧ n ≤ 4096
                · obtain ⟨n1, n2⟩ := hr
                  obtain ⟨kk, hnk⟩ : ∃ kk : Nat, n = kk := ⟨n.toNat, by omega⟩
                  have hk4 : kk ≤ 4096 := by omega
                  obtain ⟨S1, hS1⟩ : ∃ S : ByteArray, S.data.toList = List.replicate kk 1 := ⟨⟨(List.replicate kk 1).toArray⟩, by simp⟩
                  replace hnk := Lib.hid hnk
                  replace hS1 := Lib.hid hS1
                  by_cases hw : isW n
                  · have hw2 := Lib.hid hw
                    rcases hw with rfl | rfl | rfl | rfl
                    · have tok : True := trivial
                      go_wp2_with (first
                        | (go_at_call 25; go_loud (refine (lv_read_no hL.out off _ hin.out).mono ?_; rintro e w1 ⟨rfl, h1⟩; replace h1 := Lib.hid h1))
                        | (go_at_call 23; go_loud (refine (lv_equal_no h1.out off off _ (.inl hin.out)).mono ?_; rintro e w2 ⟨rfl, h2⟩; replace h2 := Lib.hid h2))
                        | (go_at_call 26; go_loud (refine (lv_fill_no h2.out off _ 7 hin.out).mono ?_; rintro e w3 ⟨rfl, h3⟩; replace h3 := Lib.hid h3))
                        | (go_at_call 24; go_loud (refine (lv_copy_no h3.out off off _ (.inl hin.out)).mono ?_; rintro e w4 ⟨rfl, h4⟩; replace h4 := Lib.hid h4))
                        | (go_at_call 27; go_loud (refine (repeat_to 1 kk hk4 S1 hS1.out _ 1 _ rfl hnk.out).mono ?_; rintro e w5 ⟨rfl, hb5⟩; have h5 := Lib.hid ((h4.out.keep hb5).alloc (.cells #[.string S1] 9)); clear hb5))
                        | (go_at_call 22; go_loud (refine (lv_write_no h5.out [S1] _ _ (one_str _ _) (by simp) (T := List.replicate kk 1) (by simp [hS1.out]) (by rw [List.length_replicate]; omega) off (by rw [List.length_replicate, ← hnk.out]; exact hin.out) 1 rfl).mono ?_; rintro e w6 ⟨rfl, h6⟩; replace h6 := Lib.hid h6))
                        | (go_at_call 30; go_loud (refine (lv_load_no h6.out off _ 24 (.inr ⟨rfl, hw2.out, hin.out⟩)).mono ?_; rintro e w7 ⟨rfl, h7⟩; replace h7 := Lib.hid h7))
                        | (go_at_call 29; go_loud (refine (lv_store_no h7.out off _ 5 24 (.inr ⟨rfl, hw2.out, hin.out⟩)).mono ?_; rintro e w8 ⟨rfl, h8⟩; replace h8 := Lib.hid h8))
                        | (go_at_call 20; refine (num_any _ _).mono ?_; rintro e w' ⟨rfl, rfl⟩)
                        | fail)
                      go_ret
                      exact ⟨rfl, h8.out.ars.below⟩
                    · have tok : True := trivial
                      go_wp2_with (first
                        | (go_at_call 25; go_loud (refine (lv_read_no hL.out off _ hin.out).mono ?_; rintro e w1 ⟨rfl, h1⟩; replace h1 := Lib.hid h1))
                        | (go_at_call 23; go_loud (refine (lv_equal_no h1.out off off _ (.inl hin.out)).mono ?_; rintro e w2 ⟨rfl, h2⟩; replace h2 := Lib.hid h2))
                        | (go_at_call 26; go_loud (refine (lv_fill_no h2.out off _ 7 hin.out).mono ?_; rintro e w3 ⟨rfl, h3⟩; replace h3 := Lib.hid h3))
                        | (go_at_call 24; go_loud (refine (lv_copy_no h3.out off off _ (.inl hin.out)).mono ?_; rintro e w4 ⟨rfl, h4⟩; replace h4 := Lib.hid h4))
                        | (go_at_call 27; go_loud (refine (repeat_to 1 kk hk4 S1 hS1.out _ 1 _ rfl hnk.out).mono ?_; rintro e w5 ⟨rfl, hb5⟩; have h5 := Lib.hid ((h4.out.keep hb5).alloc (.cells #[.string S1] 9)); clear hb5))
                        | (go_at_call 22; go_loud (refine (lv_write_no h5.out [S1] _ _ (one_str _ _) (by simp) (T := List.replicate kk 1) (by simp [hS1.out]) (by rw [List.length_replicate]; omega) off (by rw [List.length_replicate, ← hnk.out]; exact hin.out) 1 rfl).mono ?_; rintro e w6 ⟨rfl, h6⟩; replace h6 := Lib.hid h6))
                        | (go_at_call 30; go_loud (refine (lv_load_no h6.out off _ 24 (.inr ⟨rfl, hw2.out, hin.out⟩)).mono ?_; rintro e w7 ⟨rfl, h7⟩; replace h7 := Lib.hid h7))
                        | (go_at_call 29; go_loud (refine (lv_store_no h7.out off _ 5 24 (.inr ⟨rfl, hw2.out, hin.out⟩)).mono ?_; rintro e w8 ⟨rfl, h8⟩; replace h8 := Lib.hid h8))
                        | (go_at_call 20; refine (num_any _ _).mono ?_; rintro e w' ⟨rfl, rfl⟩)
                        | fail)
                      go_ret
                      exact ⟨rfl, h8.out.ars.below⟩
                    · have tok : True := trivial
                      go_wp2_with (first
                        | (go_at_call 25; go_loud (refine (lv_read_no hL.out off _ hin.out).mono ?_; rintro e w1 ⟨rfl, h1⟩; replace h1 := Lib.hid h1))
                        | (go_at_call 23; go_loud (refine (lv_equal_no h1.out off off _ (.inl hin.out)).mono ?_; rintro e w2 ⟨rfl, h2⟩; replace h2 := Lib.hid h2))
                        | (go_at_call 26; go_loud (refine (lv_fill_no h2.out off _ 7 hin.out).mono ?_; rintro e w3 ⟨rfl, h3⟩; replace h3 := Lib.hid h3))
                        | (go_at_call 24; go_loud (refine (lv_copy_no h3.out off off _ (.inl hin.out)).mono ?_; rintro e w4 ⟨rfl, h4⟩; replace h4 := Lib.hid h4))
                        | (go_at_call 27; go_loud (refine (repeat_to 1 kk hk4 S1 hS1.out _ 1 _ rfl hnk.out).mono ?_; rintro e w5 ⟨rfl, hb5⟩; have h5 := Lib.hid ((h4.out.keep hb5).alloc (.cells #[.string S1] 9)); clear hb5))
                        | (go_at_call 22; go_loud (refine (lv_write_no h5.out [S1] _ _ (one_str _ _) (by simp) (T := List.replicate kk 1) (by simp [hS1.out]) (by rw [List.length_replicate]; omega) off (by rw [List.length_replicate, ← hnk.out]; exact hin.out) 1 rfl).mono ?_; rintro e w6 ⟨rfl, h6⟩; replace h6 := Lib.hid h6))
                        | (go_at_call 30; go_loud (refine (lv_load_no h6.out off _ 24 (.inr ⟨rfl, hw2.out, hin.out⟩)).mono ?_; rintro e w7 ⟨rfl, h7⟩; replace h7 := Lib.hid h7))
                        | (go_at_call 29; go_loud (refine (lv_store_no h7.out off _ 5 24 (.inr ⟨rfl, hw2.out, hin.out⟩)).mono ?_; rintro e w8 ⟨rfl, h8⟩; replace h8 := Lib.hid h8))
                        | (go_at_call 20; refine (num_any _ _).mono ?_; rintro e w' ⟨rfl, rfl⟩)
                        | fail)
                      go_ret
                      exact ⟨rfl, h8.out.ars.below⟩
                    · have tok : True := trivial
                      go_wp2_with (first
                        | (go_at_call 25; go_loud (refine (lv_read_no hL.out off _ hin.out).mono ?_; rintro e w1 ⟨rfl, h1⟩; replace h1 := Lib.hid h1))
                        | (go_at_call 23; go_loud (refine (lv_equal_no h1.out off off _ (.inl hin.out)).mono ?_; rintro e w2 ⟨rfl, h2⟩; replace h2 := Lib.hid h2))
                        | (go_at_call 26; go_loud (refine (lv_fill_no h2.out off _ 7 hin.out).mono ?_; rintro e w3 ⟨rfl, h3⟩; replace h3 := Lib.hid h3))
                        | (go_at_call 24; go_loud (refine (lv_copy_no h3.out off off _ (.inl hin.out)).mono ?_; rintro e w4 ⟨rfl, h4⟩; replace h4 := Lib.hid h4))
                        | (go_at_call 27; go_loud (refine (repeat_to 1 kk hk4 S1 hS1.out _ 1 _ rfl hnk.out).mono ?_; rintro e w5 ⟨rfl, hb5⟩; have h5 := Lib.hid ((h4.out.keep hb5).alloc (.cells #[.string S1] 9)); clear hb5))
                        | (go_at_call 22; go_loud (refine (lv_write_no h5.out [S1] _ _ (one_str _ _) (by simp) (T := List.replicate kk 1) (by simp [hS1.out]) (by rw [List.length_replicate]; omega) off (by rw [List.length_replicate, ← hnk.out]; exact hin.out) 1 rfl).mono ?_; rintro e w6 ⟨rfl, h6⟩; replace h6 := Lib.hid h6))
                        | (go_at_call 30; go_loud (refine (lv_load_no h6.out off _ 24 (.inr ⟨rfl, hw2.out, hin.out⟩)).mono ?_; rintro e w7 ⟨rfl, h7⟩; replace h7 := Lib.hid h7))
                        | (go_at_call 29; go_loud (refine (lv_store_no h7.out off _ 5 24 (.inr ⟨rfl, hw2.out, hin.out⟩)).mono ?_; rintro e w8 ⟨rfl, h8⟩; replace h8 := Lib.hid h8))
                        | (go_at_call 20; refine (num_any _ _).mono ?_; rintro e w' ⟨rfl, rfl⟩)
                        | fail)
                      go_ret
                      exact ⟨rfl, h8.out.ars.below⟩
                  · have v1 : ¬ n = 1 := fun e => hw (.inl e)
                    have v2 : ¬ n = 2 := fun e => hw (.inr (.inl e))
                    have v4 : ¬ n = 4 := fun e => hw (.inr (.inr (.inl e)))
                    have v8 : ¬ n = 8 := fun e => hw (.inr (.inr (.inr e)))
                    replace hw := Lib.hid hw
                    have b1 : (n != 1) = true := by simpa using v1
                    have b2 : (n != 2) = true := by simpa using v2
                    have b4 : (n != 4) = true := by simpa using v4
                    have b8 : (n != 8) = true := by simpa using v8
                    go_wp2_with (first
                      | (go_at_call 25; go_loud (refine (lv_read_no hL.out off _ hin.out).mono ?_; rintro e w1 ⟨rfl, h1⟩; replace h1 := Lib.hid h1))
                      | (go_at_call 23; go_loud (refine (lv_equal_no h1.out off off _ (.inl hin.out)).mono ?_; rintro e w2 ⟨rfl, h2⟩; replace h2 := Lib.hid h2))
                      | (go_at_call 26; go_loud (refine (lv_fill_no h2.out off _ 7 hin.out).mono ?_; rintro e w3 ⟨rfl, h3⟩; replace h3 := Lib.hid h3))
                      | (go_at_call 24; go_loud (refine (lv_copy_no h3.out off off _ (.inl hin.out)).mono ?_; rintro e w4 ⟨rfl, h4⟩; replace h4 := Lib.hid h4))
                      | (go_at_call 27; go_loud (refine (repeat_to 1 kk hk4 S1 hS1.out _ 1 _ rfl hnk.out).mono ?_; rintro e w5 ⟨rfl, hb5⟩; have h5 := Lib.hid ((h4.out.keep hb5).alloc (.cells #[.string S1] 9)); clear hb5))
                      | (go_at_call 22; go_loud (refine (lv_write_no h5.out [S1] _ _ (one_str _ _) (by simp) (T := List.replicate kk 1) (by simp [hS1.out]) (by rw [List.length_replicate]; omega) off (by rw [List.length_replicate, ← hnk.out]; exact hin.out) 1 rfl).mono ?_; rintro e w6 ⟨rfl, h6⟩; replace h6 := Lib.hid h6))
                      | (go_at_call 30; go_loud (refine (lv_load_no h6.out off _ 10 (.inl ⟨rfl, hw.out⟩)).mono ?_; rintro e w7 ⟨rfl, h7⟩; replace h7 := Lib.hid h7))
                      | (go_at_call 29; go_loud (refine (lv_store_no h7.out off _ 5 10 (.inl ⟨rfl, hw.out⟩)).mono ?_; rintro e w8 ⟨rfl, h8⟩; replace h8 := Lib.hid h8))
                      | (go_at_call 20; refine (num_any _ _).mono ?_; rintro e w' ⟨rfl, rfl⟩)
                      | fail)
                    go_ret
                    exact ⟨rfl, h8.out.ars.below⟩
                · have hw : ¬ isW n := fun h => by rcases h with e | e | e | e <;> omega
                  have v1 : ¬ n = 1 := fun e => hw (.inl e)
                  have v2 : ¬ n = 2 := fun e => hw (.inr (.inl e))
                  have v4 : ¬ n = 4 := fun e => hw (.inr (.inr (.inl e)))
                  have v8 : ¬ n = 8 := fun e => hw (.inr (.inr (.inr e)))
                  replace hw := Lib.hid hw
                  have b1 : (n != 1) = true := by simpa using v1
                  have b2 : (n != 2) = true := by simpa using v2
                  have b4 : (n != 4) = true := by simpa using v4
                  have b8 : (n != 8) = true := by simpa using v8
                  by_cases n1 : 0 ≤ n
                  · have n2 : ¬ n ≤ 4096 := fun h => hr ⟨n1, h⟩
                    clear hr
                    go_wp2_with (first
                      | (go_at_call 25; go_loud (refine (lv_read_no hL.out off _ hin.out).mono ?_; rintro e w1 ⟨rfl, h1⟩; replace h1 := Lib.hid h1))
                      | (go_at_call 23; go_loud (refine (lv_equal_no h1.out off off _ (.inl hin.out)).mono ?_; rintro e w2 ⟨rfl, h2⟩; replace h2 := Lib.hid h2))
                      | (go_at_call 26; go_loud (refine (lv_fill_no h2.out off _ 7 hin.out).mono ?_; rintro e w3 ⟨rfl, h3⟩; replace h3 := Lib.hid h3))
                      | (go_at_call 24; go_loud (refine (lv_copy_no h3.out off off _ (.inl hin.out)).mono ?_; rintro e w4 ⟨rfl, h4⟩; replace h4 := Lib.hid h4))
                      | (go_at_call 30; go_loud (refine (lv_load_no h4.out off _ 10 (.inl ⟨rfl, hw.out⟩)).mono ?_; rintro e w7 ⟨rfl, h7⟩; replace h7 := Lib.hid h7))
                      | (go_at_call 29; go_loud (refine (lv_store_no h7.out off _ 5 10 (.inl ⟨rfl, hw.out⟩)).mono ?_; rintro e w8 ⟨rfl, h8⟩; replace h8 := Lib.hid h8))
                      | (go_at_call 20; refine (num_any _ _).mono ?_; rintro e w' ⟨rfl, rfl⟩)
                      | fail)
                    go_ret
                    exact ⟨rfl, h8.out.ars.below⟩
                  · clear hr
                    go_wp2_with (first
                      | (go_at_call 25; go_loud (refine (lv_read_no hL.out off _ hin.out).mono ?_; rintro e w1 ⟨rfl, h1⟩; replace h1 := Lib.hid h1))
                      | (go_at_call 23; go_loud (refine (lv_equal_no h1.out off off _ (.inl hin.out)).mono ?_; rintro e w2 ⟨rfl, h2⟩; replace h2 := Lib.hid h2))
                      | (go_at_call 26; go_loud (refine (lv_fill_no h2.out off _ 7 hin.out).mono ?_; rintro e w3 ⟨rfl, h3⟩; replace h3 := Lib.hid h3))
                      | (go_at_call 24; go_loud (refine (lv_copy_no h3.out off off _ (.inl hin.out)).mono ?_; rintro e w4 ⟨rfl, h4⟩; replace h4 := Lib.hid h4))
                      | (go_at_call 30; go_loud (refine (lv_load_no h4.out off _ 10 (.inl ⟨rfl, hw.out⟩)).mono ?_; rintro e w7 ⟨rfl, h7⟩; replace h7 := Lib.hid h7))
                      | (go_at_call 29; go_loud (refine (lv_store_no h7.out off _ 5 10 (.inl ⟨rfl, hw.out⟩)).mono ?_; rintro e w8 ⟨rfl, h8⟩; replace h8 := Lib.hid h8))
                      | (go_at_call 20; refine (num_any _ _).mono ?_; rintro e w' ⟨rfl, rfl⟩)
                      | fail)
                    go_ret
                    exact ⟨rfl, h8.out.ars.below⟩
end Go.Proofs.Ytpbalilnemjeeaa
