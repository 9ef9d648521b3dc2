/- What is proved here: the walk of the law ArenaMoves. Conditions: numbers of their kinds. -/
import Derived.Test.YtpbalilnemjeeaaAMv
import Derived.BigQuiet
namespace Go.Proofs.Ytpbalilnemjeeaa
set_option linter.unusedVariables false
set_option linter.unusedSimpArgs false
open Go.RowKit Pm Pa Pl
theorem ints3 (w : World) (a b c : Int) : IntsIn (w.alloc (.cells #[.int .i64 a, .int .i64 b, .int .i64 c] 3)) (some ⟨w.heap.size, 0, none⟩) [a, b, c] := by
  have k := Blk.new w #[.int .i64 a, .int .i64 b, .int .i64 c] 3
  intro i m hi
  match i with
  | 0 => simp at hi; subst hi; exact ⟨_, _, rfl, k.cell 0⟩
  | 1 => simp at hi; subst hi; exact ⟨_, _, rfl, k.cell 1⟩
  | 2 => simp at hi; subst hi; exact ⟨_, _, rfl, k.cell 2⟩
  | i + 3 => simp at hi
theorem strs3 (w : World) (a b c : ByteArray) : StrsAt (w.alloc (.cells #[.string a, .string b, .string c] 9)) (some ⟨w.heap.size, 0, none⟩) [a, b, c] := by
  have k := Blk.new w #[.string a, .string b, .string c] 9
  intro i m hi
  match i with
  | 0 => simp at hi; subst hi; exact ⟨_, _, rfl, k.cell 0⟩
  | 1 => simp at hi; subst hi; exact ⟨_, _, rfl, k.cell 1⟩
  | 2 => simp at hi; subst hi; exact ⟨_, _, rfl, k.cell 2⟩
  | i + 3 => simp at hi
theorem len_data (s : ByteArray) : s.data.toList.length = s.size := by rw [Array.length_toList]; rfl
theorem ext3 (s X : ByteArray) (o k e : Nat) (hk : X.size = k) (he : e = o + k) (h : o + k ≤ s.size) : (s.extract 0 o ++ X ++ s.extract e s.size).data.toList = splice s.data.toList o X.data.toList := by
  subst he hk
  rw [ByteArray.data_append, ByteArray.data_append]
  simp only [Array.toList_append, Lib.extract_data]
  simp [splice]
  rw [List.take_of_length_le (l := List.drop (o + X.size) s.data.toList) (by simp)]
theorem moves_plain (L0 L2 T : List UInt8) (c D S N : Nat) (b : UInt8) (h0 : 16 ≤ L0.length) (h2 : 48 + c ≤ L2.length) (hz : L2.take (16 + (32 + c)) = L0.take 16 ++ List.replicate (32 + c) 0) (hT : T.length ≤ c) (hD : D + N ≤ T.length) (hS : S + N ≤ T.length)
    (L3 L4 L5 : List UInt8) (e3 : L3 = splice L2 32 T) (e4 : L4 = splice L3 (32 + D) ((L3.drop (32 + S)).take N)) (e5 : L5 = splice L4 (32 + S) (List.replicate N b)) :
    (∀ d, d + N ≤ T.length → (L3.drop (32 + d)).take N = (T.drop d).take N) ∧ (L4.drop (32 + 0)).take T.length = splice T D ((T.drop S).take N) ∧ (L5.drop (32 + 0)).take T.length = splice (splice T D ((T.drop S).take N)) S (List.replicate N b) ∧
      (L5.drop 16).take 16 = List.replicate 16 0 ∧ (L5.drop (32 + c)).take 16 = List.replicate 16 0 := by
  have l3 : L3.length = L2.length := by rw [e3]; exact splice_len _ _ _ (by omega)
  have w3 : (L3.drop 32).take T.length = T := by rw [e3]; exact splice_mid L2 32 T (by omega)
  have s3 : ∀ d, d + N ≤ T.length → (L3.drop (32 + d)).take N = (T.drop d).take N := by
    intro d hd
    rw [window_sub L3 32 T.length d N hd, w3]
  have cl : ((T.drop S).take N).length = N := by rw [List.length_take, List.length_drop]; omega
  rw [s3 S hS] at e4
  have l4 : L4.length = L2.length := by rw [e4, splice_len _ _ _ (by rw [cl]; omega), l3]
  have w4 : (L4.drop 32).take T.length = splice T D ((T.drop S).take N) := by
    rw [e4, window_in L3 32 D T.length _ (by rw [cl]; exact hD) (by omega), w3]
  have w5 : (L5.drop 32).take T.length = splice (splice T D ((T.drop S).take N)) S (List.replicate N b) := by
    rw [e5, window_in L4 32 S T.length _ (by rw [List.length_replicate]; exact hS) (by omega), w4]
  have z : ∀ o, 16 ≤ o → o + 16 ≤ 16 + (32 + c) → (o + 16 ≤ 32 ∨ 32 + c ≤ o) → (L5.drop o).take 16 = List.replicate 16 0 := by
    intro o h1 h2' h3
    rw [e5, window_out L4 o (32 + S) 16 _ (by rw [List.length_replicate]; omega) (by rw [List.length_replicate]; omega),
      e4, window_out L3 o (32 + D) 16 _ (by rw [cl]; omega) (by rw [cl]; omega), e3, window_out L2 o 32 16 _ (by omega) (by omega)]
    exact zero_window L2 L0 16 (32 + c) o 16 hz h0 h1 h2'
  exact ⟨s3, w4, w5, z 16 (by omega) (by omega) (by omega), z (32 + c) (by omega) (by omega) (by omega)⟩
theorem flat3 (s : ByteArray) (hf : Nat) (h : hf ≤ s.size) : (([s.extract 0 hf, ({ data := #[] } : ByteArray), s.extract hf s.size]).map fun s => s.data.toList).flatten = s.data.toList := by
  simp only [List.map_cons, List.map_nil, List.flatten_cons, List.flatten_nil, Lib.extract_data]
  simp
  rw [List.take_of_length_le (l := List.drop hf s.data.toList) (by simp), List.take_append_drop]
theorem clsN_ge (n : Nat) (h1 : 1 ≤ n) (h2 : n ≤ 1048576) : n ≤ clsN (n : Int) := by
  have a := cls_ge (n := (n : Int)) (by omega)
  have b := (clsN_is (n := (n : Int)) (by omega)).1
  omega
theorem in16a (c : Nat) : Inside [(16, true), (c, true), (16, true)] 16 16 := ⟨0, 16, rfl, by simp [stOf, total], by simp [stOf, total]⟩
theorem in16b (c : Nat) : Inside [(16, true), (c, true), (16, true)] (32 + c) 16 := ⟨2, 16, rfl, by simp [stOf, total]; omega, by simp [stOf, total]; omega⟩
theorem in32 (c d k : Nat) (h : d + k ≤ c) : Inside [(16, true), (c, true), (16, true)] (32 + d) k := ⟨1, c, rfl, by simp [stOf, total], by simp [stOf, total]; omega⟩
set_option maxHeartbeats 4000000 in
set_option maxRecDepth 100000 in
theorem moves_short (s : ByteArray) (dst src n : Int) (b : UInt8) (w : World) (h : s.size < 1 ∨ 4096 < s.size) : Calls Try.prog 3 #[.agg #[.string s, .int .i64 dst, .int .i64 src, .int .i64 n, .int .u8 (b.toNat : Int)]] w fun e w' => e = .returned (.bool true) ∧ Below w.heap.size w w' := by
  have g2 : ¬ ((s.size : Int) < 1) ∨ (s.size : Int) < 1 := by omega
  rcases g2 with g2 | g2
  · have g1 : (4096 : Int) < s.size := by omega
    go_enter Try.func3, Try.ntmps3
    go_upto_region 1 with (fail)
    go_quiet (fail)
    all_goals go_wp2_with fail
    all_goals go_ret
    all_goals exact ⟨rfl, below_drewN ((Below.refl w.heap.size w).alloc (Nat.le_refl _) _) _⟩
  · skip
    go_enter Try.func3, Try.ntmps3
    go_upto_region 1 with (fail)
    go_quiet (fail)
    all_goals go_wp2_with fail
    all_goals go_ret
    all_goals exact ⟨rfl, below_drewN ((Below.refl w.heap.size w).alloc (Nat.le_refl _) _) _⟩
set_option maxHeartbeats 4000000 in
set_option maxRecDepth 100000 in
theorem moves_good (s : ByteArray) (dst src n : Int) (b : UInt8) (w : World) (h : 1 ≤ s.size ∧ s.size ≤ 4096) (hn : n ≤ 9223372036854775807) : Calls Try.prog 3 #[.agg #[.string s, .int .i64 dst, .int .i64 src, .int .i64 n, .int .u8 (b.toNat : Int)]] w fun e w' => e = .returned (.bool true) ∧ Below w.heap.size w w' := by
  obtain ⟨c, hc⟩ : ∃ c, Hid (clsN (s.size : Int) = c) := ⟨_, rfl⟩
  have hcb := (clsN_is (n := (s.size : Int)) (by omega)).2
  rw [hc.out] at hcb
  replace hcb := Lib.hid hcb
  have g1 : ¬ ((s.size : Int) < 1) := by omega
  have g2' : (s.size : Int) ≤ 4096 := by omega
  have g2 : ¬ ((4096 : Int) < s.size) := by omega
  go_enter Try.func3, Try.ntmps3
  go_upto_region 1 with (fail)
  go_quiet (fail)
  have hB0 := below_drewN ((Below.refl w.heap.size w).alloc (Nat.le_refl _) (.cells #[.string s, .int .i64 dst, .int .i64 src, .int .i64 n, .int .u8 (b.toNat : Int)] 23)) nq
  generalize World.drewN (World.alloc w _) nq = wb at hB0 ⊢
  replace hB0 := Lib.hid hB0
  all_goals go_upto_block 0 with (first
    | (go_at_call 19; refine (as_new 2097152 _ (by decide) _ rfl).mono ?_; rintro e w1 ⟨p, x, L0, rfl, h1⟩; replace h1 := Lib.hid h1)
    | (go_at_call 20; (with_reducible refine (num_any _ _).mono ?_); rintro e w' ⟨rfl, rfl⟩)
    | (go_at_call 21; refine (mv_allocs (h1.out.alloc _) s.size c (by omega) hc.out (by have := hcb.out; omega) _ (ints3 _ _ _ _) (fun hm => Nat.lt_irrefl _ (h1.out.ar.lt _ hm))).mono ?_; rintro e w2 ⟨x2, L2, g, cap, rfl, hM, hL2⟩; replace hM := Lib.hid hM; replace hL2 := Lib.hid hL2; have k0 : w2.cell? ⟨g, 0, none⟩ = some (.int .i64 16) := hM.out.nth 0 (by decide) 16 rfl; have k1 : w2.cell? ⟨g, 1, none⟩ = some (.int .i64 32) := hM.out.nth 1 (by decide) 32 rfl; have k2 := hM.out.nth 2 (by decide) (32 + c) rfl)
    | fail)
  clear k0 k1 k2
  obtain ⟨hf, hhf⟩ : ∃ hf : Nat, Hid (hf = s.size / 2) := ⟨_, rfl⟩
  have hf1 : ((s.size : Int) / 2) = (hf : Int) := by have := hhf.out; omega
  rw [hf1]
  clear hf1
  have hf2 : (hf : Int) ≤ s.size := by have := hhf.out; omega
  have hf3 : (0 : Int) ≤ hf := by omega
  have hfl := Lib.hid (flat3 s hf (by omega))
  obtain ⟨L3, hL3⟩ : ∃ L3, Hid (L3 = splice L2 32 s.data.toList) := ⟨_, rfl⟩
  have hts : s.data.toList.length = s.size := by simp
  have hsc : Hid (s.size ≤ c) := by have := clsN_ge s.size h.1 (by omega); rw [hc.out] at this; exact this
  have hM0 := hM
  go_cut [85] from 85 (fun v wc => v = .bool false ∧ Hid (Mv wb p x2 2097152 [(16, true), (c, true), (16, true)] g cap [16, 32, 32 + c] L3 wc))
  case first =>
    go_region_held3 (fun _ => True) (trivial) ((first
      | (go_at_call 22; refine (mv_write ((hM.out.alloc _).drew) _ _ 3 (strs3 w2 _ _ _) (by simp) hfl.out (in32 c 0 _ (by have := hsc.out; omega)) _ (by rfl) _ rfl).mono ?_; rintro e w' ⟨rfl, hM⟩; rw [← hL3.out] at hM; replace hM := Lib.hid hM)
      | (go_at_call 20; (with_reducible refine (num_any _ _).mono ?_); rintro e w' ⟨rfl, rfl⟩)))
    all_goals go_wp2_with fail
    all_goals go_meet
    all_goals exact ⟨rfl, hM⟩
  case rest =>
    obtain ⟨rfl, hM⟩ := hcut
    have hway : dst < 0 ∨ (¬ dst < 0 ∧ src < 0) ∨ (¬ dst < 0 ∧ ¬ src < 0 ∧ n < 0) ∨ (¬ dst < 0 ∧ ¬ src < 0 ∧ ¬ n < 0 ∧ (s.size : Int) - n < dst) ∨ (¬ dst < 0 ∧ ¬ src < 0 ∧ ¬ n < 0 ∧ ¬ (s.size : Int) - n < dst ∧ (s.size : Int) - n < src) ∨
        (¬ dst < 0 ∧ ¬ src < 0 ∧ ¬ n < 0 ∧ ¬ (s.size : Int) - n < dst ∧ ¬ (s.size : Int) - n < src) := by omega
    rcases hway with q1 | ⟨q1, q2⟩ | ⟨q1, q2, q3⟩ | ⟨q1, q2, q3, q4⟩ | ⟨q1, q2, q3, q4, q5⟩ | ⟨q1, q2, q3, q4, q5⟩
    iterate 5
      · go_wp2_with fail
        go_ret
        exact ⟨rfl, Below.then hB0.out hM.out.me.below⟩
    go_upto_region 16 with (fail)
    obtain ⟨D, rfl⟩ : ∃ D : Nat, dst = D := ⟨dst.toNat, by omega⟩
    obtain ⟨S, rfl⟩ : ∃ S : Nat, src = S := ⟨src.toNat, by omega⟩
    obtain ⟨N, rfl⟩ : ∃ N : Nat, n = N := ⟨n.toNat, by omega⟩
    have hdn : Hid (D + N ≤ s.size) := by unfold Hid; omega
    have hsn : Hid (S + N ≤ s.size) := by unfold Hid; omega
    clear q1 q2 q3 q4 q5
    have u1 : (D : Int) ≤ 4096 := by have := hdn.out; omega
    have u2 : (S : Int) ≤ 4096 := by have := hsn.out; omega
    have u3 : (N : Int) ≤ 4096 := by have := hdn.out; omega
    obtain ⟨DN, hDN⟩ : ∃ k : Nat, Hid (k = D + N) := ⟨_, rfl⟩
    obtain ⟨SN, hSN⟩ : ∃ k : Nat, Hid (k = S + N) := ⟨_, rfl⟩
    obtain ⟨r, hr⟩ : ∃ r : Bool, Hid (((s.extract D DN).toList == (s.extract S SN).toList) = r) := ⟨_, rfl⟩
    have hi1 := Lib.hid (in32 c D N (by have := hdn.out; have := hsc.out; omega))
    have hi2 := Lib.hid (in32 c S N (by have := hsn.out; have := hsc.out; omega))
    obtain ⟨L4, hL4⟩ : ∃ L4, Hid (L4 = splice L3 (32 + D) ((L3.drop (32 + S)).take N)) := ⟨_, rfl⟩
    obtain ⟨L5, hL5⟩ : ∃ L5, Hid (L5 = splice L4 (32 + S) (List.replicate N b)) := ⟨_, rfl⟩
    obtain ⟨MV, hMV⟩ : ∃ MV, Hid (MV = s.extract 0 D ++ s.extract S SN ++ s.extract DN s.size) := ⟨_, rfl⟩
    obtain ⟨RP, hRP⟩ : ∃ RP : ByteArray, Hid (RP.data.toList = List.replicate N b) := ⟨⟨(List.replicate N b).toArray⟩, by simp [Hid]⟩
    obtain ⟨ZZ, hZZ⟩ : ∃ ZZ : ByteArray, Hid (ZZ.data.toList = List.replicate 16 0) := ⟨⟨(List.replicate 16 0).toArray⟩, by simp [Hid]⟩
    obtain ⟨RS, hRS⟩ : ∃ RS, Hid (RS = MV.extract 0 S ++ RP ++ MV.extract SN MV.size) := ⟨_, rfl⟩
    have hall : Hid ((L3.drop (32 + D)).take N = (s.extract D DN).data.toList ∧ (L3.drop (32 + S)).take N = (s.extract S SN).data.toList ∧ MV.size = s.size ∧ MV.data.toList = (L4.drop (32 + 0)).take s.size ∧ RS.data.toList = (L5.drop (32 + 0)).take s.size ∧
        ZZ.data.toList = (L5.drop 16).take 16 ∧ ZZ.data.toList = (L5.drop (32 + c)).take 16) := by
      have a1 : 16 ≤ L0.length := by have := h1.out.ar.mem.le; simpa [endOf, total] using this
      have a2 : 48 + c ≤ L2.length := by have := hM0.out.me.ar.mem.le; simp [endOf, total] at this; omega
      obtain ⟨p1, p2, p3, p4, p5⟩ := moves_plain L0 L2 s.data.toList c D S N b a1 a2 hL2.out (by have := hsc.out; omega) (by have := hdn.out; omega) (by have := hsn.out; omega) L3 L4 L5 hL3.out hL4.out hL5.out
      rw [hts] at p1 p2 p3
      have x1 : (s.extract D DN).data.toList = (s.data.toList.drop D).take N := by rw [Lib.extract_data]; congr 1; have := hDN.out; omega
      have x2 : (s.extract S SN).data.toList = (s.data.toList.drop S).take N := by rw [Lib.extract_data]; congr 1; have := hSN.out; omega
      have x3 : (s.extract S SN).size = N := by
        have := congrArg List.length x2
        rw [List.length_take, List.length_drop, hts] at this
        have h8 := hsn.out
        have h9 : (s.extract S SN).data.toList.length = (s.extract S SN).size := len_data _
        omega
      have x4 : MV.data.toList = splice s.data.toList D ((s.data.toList.drop S).take N) := by rw [hMV.out, ext3 s _ D N DN x3 hDN.out hdn.out, x2]
      have x5 : MV.size = s.size := by
        have := congrArg List.length x4
        rw [splice_len _ _ _ (by rw [← x2, len_data, x3, hts]; exact hdn.out)] at this
        rw [hts] at this
        have h9 : MV.data.toList.length = MV.size := len_data _
        omega
      have x6 : RP.size = N := by
        have := congrArg List.length hRP.out
        rw [List.length_replicate] at this
        have h9 : RP.data.toList.length = RP.size := len_data _
        omega
      have x7 : RS.data.toList = splice MV.data.toList S RP.data.toList := by rw [hRS.out, ext3 MV _ S N SN x6 hSN.out (by rw [x5]; exact hsn.out)]
      exact ⟨by rw [p1 D hdn.out, x1], by rw [p1 S hsn.out, x2], x5, by rw [x4, p2], by rw [x7, x4, hRP.out, p3], by rw [hZZ.out, p4], by rw [hZZ.out, p5]⟩
    clear hM0
    have hX1 := Lib.hid hall.out.1
    have hX2 := Lib.hid hall.out.2.1
    have hS1 := Lib.hid hall.out.2.2.2.1
    have hS2 := Lib.hid hall.out.2.2.2.2.1
    have hS3 := Lib.hid hall.out.2.2.2.2.2.1
    have hS4 := Lib.hid hall.out.2.2.2.2.2.2
    have hr1 : Hid (decide ((L3.drop (32 + D)).take N = (L3.drop (32 + S)).take N) = r) := by
      unfold Hid; rw [hX1.out, hX2.out, ← hr.out, ByteArray.toList_eq, ByteArray.toList_eq]; rw [Bool.eq_iff_iff]; simp
    go_upto_region 17 with (first
      | (go_at_call 23; refine (mv_equal hM.out hi1.out hi2.out _ _ _ (by push_cast; rfl) (by push_cast; rfl) rfl r hr1.out).mono ?_; rintro e w4 ⟨rfl, hM4⟩; replace hM4 := Lib.hid hM4)
      | fail)
    clear hM
    have v1 : IntKind.i64.wrap ((D : Int) + N) = (DN : Int) := by rw [IntWalk.i64_in _ (by omega)]; have := hDN.out; omega
    have v2 : IntKind.i64.wrap ((S : Int) + N) = (SN : Int) := by rw [IntWalk.i64_in _ (by omega)]; have := hSN.out; omega
    have v3 : IntKind.i64.wrap ((32 : Int) + D) = 32 + (D : Int) := IntWalk.i64_in _ (by omega)
    have v4 : IntKind.i64.wrap ((32 : Int) + S) = 32 + (S : Int) := IntWalk.i64_in _ (by omega)
    have b1 : (D : Int) ≤ DN := by have := hDN.out; omega
    have b2 : (S : Int) ≤ SN := by have := hSN.out; omega
    have b3 : (DN : Int) ≤ s.size := by have := hDN.out; have := hdn.out; omega
    have b4 : (SN : Int) ≤ s.size := by have := hSN.out; have := hsn.out; omega
    have b5 : (D : Int) ≤ s.size := by omega
    have b6 : (S : Int) ≤ s.size := by omega
    have c1 : ((s.extract D DN).toList == (s.extract S SN).toList) = r := hr.out
    go_cut [156] from 156 (fun v wc => v = .bool false ∧ Hid (Mv wb p x2 2097152 [(16, true), (c, true), (16, true)] g cap [16, 32, 32 + c] L4 wc))
    case first =>
      go_region_held3 (fun _ => True) (trivial) ((first
        | (go_at_call 24; refine (mv_copy (by first | exact hM4.out | exact hM4.out.drew | exact hM4.out.drewN _) hi1.out hi2.out _ _ _ (by push_cast; rfl) (by push_cast; rfl) rfl).mono ?_; rintro e w5 ⟨rfl, hM5⟩; rw [← hL4.out] at hM5; replace hM5 := Lib.hid hM5)
        | (go_at_call 20; (with_reducible refine (num_any _ _).mono ?_); rintro e w' ⟨rfl, rfl⟩)))
      all_goals go_wp2_with fail
      all_goals go_meet
      all_goals exact ⟨rfl, hM5⟩
    case rest =>
      obtain ⟨rfl, hM5⟩ := hcut
      clear hM4
      go_upto_region 19 with (fail)
      go_quiet (fail)
      rw [← hMV.out]
      have b7 : (S : Int) ≤ MV.size := by rw [hall.out.2.2.1]; exact b6
      have b9 : (MV.size : Int) ≤ 4096 := by rw [hall.out.2.2.1]; exact g2'
      have b8 : (SN : Int) ≤ MV.size := by rw [hall.out.2.2.1]; exact b4
      have c4 : (RS.toList == (MV.extract 0 S ++ RP ++ MV.extract SN MV.size).toList) = true := by rw [← hRS.out]; simp
      clear c1 hall
      go_upto_region 28 with (first
        | (go_at_call 25; refine (mv_read hM8.out (in16b c) _ _ rfl rfl ZZ hS4.out).mono ?_; rintro e w9 ⟨rfl, hM9⟩; replace hM9 := Lib.hid hM9; clear hM8)
        | (go_at_call 25; refine (mv_read hM7.out (in16a c) _ _ rfl rfl ZZ hS3.out).mono ?_; rintro e w8 ⟨rfl, hM8⟩; have k2 := hM8.nth 2 (by decide) (32 + c) rfl; replace hM8 := Lib.hid hM8; clear hM7)
        | (go_at_call 25; refine (mv_read hM6.out (in32 c 0 s.size (by have := hsc.out; omega)) _ _ rfl rfl RS hS2.out).mono ?_; rintro e w7 ⟨rfl, hM7⟩; have k0 : w7.cell? ⟨g, 0, none⟩ = some (.int .i64 16) := hM7.nth 0 (by decide) 16 rfl; replace hM7 := Lib.hid hM7; clear hM6)
        | (go_at_call 25; refine (mv_read (hM5.out.drewN _) (in32 c 0 s.size (by have := hsc.out; omega)) _ _ rfl rfl MV hS1.out).mono ?_; rintro e w5 ⟨rfl, hM5⟩; replace hM5 := Lib.hid hM5)
        | (go_at_call 20; (with_reducible refine (num_any _ _).mono ?_); rintro e w' ⟨rfl, rfl⟩)
        | (go_at_call 26; refine (mv_fill hM5.out hi2.out b _ _ (by push_cast; rfl) rfl).mono ?_; rintro e w6 ⟨rfl, hM6⟩; rw [← hL5.out] at hM6; replace hM6 := Lib.hid hM6; clear hM5)
        | (go_at_call 27; refine (mv_repeat hM9.out 0 16 (by decide) ZZ hZZ.out _ _ rfl rfl).mono ?_; rintro e w10 ⟨rfl, hM9⟩; replace hM9 := Lib.hid hM9)
        | fail)
      have z1 : (RP.size : Int) ≤ 8388608 := by have := len_data RP; have h9 := hRP.out; rw [h9, List.length_replicate] at this; omega
      have z2 : ((MV.extract 0 S).size : Int) ≤ 8388608 := by rw [ByteArray.size_extract]; omega
      have z3 : ((MV.extract SN MV.size).size : Int) ≤ 8388608 := by rw [ByteArray.size_extract]; omega
      have z4 : ((MV.extract 0 S ++ RP).size : Int) ≤ 8388608 := by rw [ByteArray.size_append, ByteArray.size_extract]; have := len_data RP; have h9 := hRP.out; rw [h9, List.length_replicate] at this; omega
      have z5 : RP.size ≤ 4096 := by have := len_data RP; have h9 := hRP.out; rw [h9, List.length_replicate] at this; omega
      have y4 : (9223372036854775807 < min S MV.size + RP.size) = False := by rw [eq_iff_iff]; constructor <;> intro hh <;> first | omega | exact hh.elim
      have y5 : (9223372036854775807 < min S MV.size + RP.size + (MV.size - SN)) = False := by rw [eq_iff_iff]; constructor <;> intro hh <;> first | omega | exact hh.elim
      clear z1 z2 z3 z4 z5
      go_region_held3 (fun _ => True) (trivial) ((first
        | (go_at_call 27; refine (mv_repeat (by first | exact hM9.out | exact hM9.out.drew | exact hM9.out.drewN _) b N (by omega) RP hRP.out _ _ rfl rfl).mono ?_; rintro e w11 ⟨rfl, hM11⟩; replace hM11 := Lib.hid hM11)))
      all_goals go_wp2_with fail
      all_goals go_ret
      all_goals exact ⟨rfl, Below.then hB0.out hM11.out.me.below⟩
set_option maxHeartbeats 4000000 in
set_option maxRecDepth 100000 in
theorem moves_all (s : ByteArray) (dst src n : Int) (b : UInt8) (w : World) (hn : n ≤ 9223372036854775807) : Calls Try.prog 3 #[.agg #[.string s, .int .i64 dst, .int .i64 src, .int .i64 n, .int .u8 (b.toNat : Int)]] w fun e w' => e = .returned (.bool true) ∧ Below w.heap.size w w' := by
  by_cases h : s.size < 1 ∨ 4096 < s.size
  · exact moves_short s dst src n b w h
  · exact moves_good s dst src n b w (by omega) hn
theorem arr5 {α : Type} {cs : Array α} (h : cs.size = 5) : ∃ c0 c1 c2 c3 c4, cs = #[c0, c1, c2, c3, c4] := by
  obtain ⟨l⟩ := cs
  match l, h with
  | [c0, c1, c2, c3, c4], _ => exact ⟨c0, c1, c2, c3, c4, rfl⟩
end Go.Proofs.Ytpbalilnemjeeaa
