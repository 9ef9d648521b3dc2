/- What is proved here: the contracts of the reference's Store and Write. Conditions: a reference memory that is there. -/
import Derived.Test.YtkchhggbiopffaaPWrite
namespace Go.Proofs.Ytkchhggbiopffaa
set_option linter.unusedVariables false
set_option linter.unusedSimpArgs false
open Go.RowKit Pm
theorem leB_snoc (k v : Nat) : leB (k + 1) v = leB k v ++ [UInt8.ofNat (v / 256 ^ k % 256)] := by
  apply List.ext_getElem?
  intro i
  by_cases h : i < k
  · rw [leB_get? _ _ _ (by omega), List.getElem?_append_left (by rw [leB_len]; exact h), leB_get? _ _ _ h]
  · rw [List.getElem?_append_right (by rw [leB_len]; omega), leB_len]
    by_cases h2 : i = k
    · subst h2; rw [leB_get? _ _ _ (by omega), Nat.sub_self]; rfl
    · rw [List.getElem?_eq_none (by rw [leB_len]; omega), List.getElem?_eq_none (by simp; omega)]
theorem one_conv (w : World) (g : Nat) (c : UInt8) (z : Int) (hz : z = (c.toNat : Int)) (hg : g = w.heap.size) :
    (convert 27 9 (.slice (some ⟨g, 0, none⟩) 1 1)).run Try.prog (w.alloc (.cells #[.int .u8 z] 5)) = .ok (.string ⟨#[c]⟩) (w.alloc (.cells #[.int .u8 z] 5)) := by
  subst hz; subst hg
  refine conv_bytes _ _ 1 1 [c] ⟨#[c]⟩ rfl rfl ?_
  have := Blk.new w #[.int .u8 (c.toNat : Int)] 5
  simpa [bv] using this
section
variable {w w' : World} {r : Nat} {V v' : Value} {A : List ActV} {M M' : List UInt8}
theorem rstore_width (off k v : Int) (hk : ¬ (k = 1 ∨ k = 2 ∨ k = 4 ∨ k = 8)) : Calls Try.prog 40 #[.pointer (some ⟨r, 0, none⟩), .int .i64 off, .int .i64 k, .int .u64 v] w fun e w' => e = .returned (.int .i64 10) ∧ w = w' := by
  have hc := Lib.hid (width_no k w hk)
  clear hk
  go_enter Try.func40, Try.ntmps40
  go_wp2_with fail
  refine hc.out.mono ?_
  rintro e w' ⟨rfl, rfl⟩
  go_wp2_with fail
  go_ret
  exact ⟨rfl, rfl⟩
theorem rstore_out (h : RefAt w r V A M) (off k v : Int) (hk : k = 1 ∨ k = 2 ∨ k = 4 ∨ k = 8) (hi : insF M.length off k = false) : Calls Try.prog 40 #[.pointer (some ⟨r, 0, none⟩), .int .i64 off, .int .i64 k, .int .u64 v] w fun e w' => e = .returned (.int .i64 11) ∧ w = w' := by
  have hc := Lib.hid (width_yes k w hk)
  have hc2 := Lib.hid (rinside_to h off k false hi)
  replace h := Lib.hid h
  clear hk hi
  go_enter Try.func40, Try.ntmps40
  go_wp2_with fail
  refine hc.out.mono ?_
  rintro e w' ⟨rfl, rfl⟩
  go_wp2_with fail
  refine hc2.out.mono ?_
  rintro e w' ⟨rfl, rfl⟩
  go_wp2_with fail
  go_ret
  exact ⟨rfl, rfl⟩
theorem Wrote.since {e : Ending} {w1 w2 : World} (hB : Below w.heap.size w w1) (h : Wrote w1 r V A M' e w2) : Wrote w r V A M' e w2 := by
  obtain ⟨V', A', he, hR, hl, hT, hm⟩ := h
  refine ⟨V', A', he, hR, hl, (Turns.of_below hB).trans hT, ?_⟩
  rcases hm with hm | ⟨k, hk, hk2⟩
  · exact Or.inl hm
  · exact Or.inr ⟨k, hk, Nat.le_trans hB.size hk2⟩
set_option maxHeartbeats 1000000 in
theorem rstore_in (h : RefAt w r V A M) (off k v : Nat) (hk : k = 1 ∨ k = 2 ∨ k = 4 ∨ k = 8) (hf : off + k ≤ M.length) (hv : v < 2 ^ 64) (hl : A.length ≤ 100000000000) : Calls Try.prog 40 #[.pointer (some ⟨r, 0, none⟩), .int .i64 off, .int .i64 k, .int .u64 v] w (Wrote w r V A (splice M off (leB k v))) := by
  have hc := Lib.hid (width_yes k w (by omega))
  have hc2 := Lib.hid (rinside_to h off k true (ins_true (by omega) (by omega) (by omega)))
  have hcap := h.cap
  have hk8 : k ≤ 8 := by omega
  replace h := Lib.hid h
  clear hk
  go_enter Try.func40, Try.ntmps40
  go_wp2_with fail
  refine hc.out.mono ?_
  rintro e w' ⟨rfl, rfl⟩
  go_wp2_with fail
  refine hc2.out.mono ?_
  rintro e w' ⟨rfl, rfl⟩
  go_wp2_with fail
  go_loopw [3, 9, 10] (fun vv sv iv wr => ∃ (i x : Nat) (S : ByteArray), i ≤ k ∧ iv = .int .i64 i ∧ vv = .int .u64 x ∧ sv = .string S ∧ Hid (x = v / 256 ^ i) ∧ Hid (S.data.toList = leB i v) ∧ Below w.heap.size w wr) (fun _ _ iv _ => (k - intOf iv).toNat)
  case atStart => exact ⟨0, v, ByteArray.empty, by omega, rfl, rfl, rfl, by unfold Hid; simp, rfl, Below.refl _ _⟩
  case round =>
    obtain ⟨i, x, S, hi, rfl, rfl, rfl, hx, hS, hB⟩ := hrel
    have hxl : x < 18446744073709551616 := by rw [hx.out]; exact Nat.lt_of_le_of_lt (Nat.div_le_self _ _) hv
    by_cases hlt : i < k
    · have hSl : S.size = i := by
        have : S.data.toList.length = i := by rw [hS.out, leB_len]
        simpa using this
      have hSl2 : S.size ≤ 8 := by omega
      replace hSl := Lib.hid hSl
      obtain ⟨c, hce⟩ : ∃ c, Hid (c = UInt8.ofNat (x % 256)) := ⟨_, rfl⟩
      have hcn : c.toNat = x % 256 := by rw [hce.out]; simp
      have hcx : ((x : Int) % 256) = (c.toNat : Int) := by rw [hcn]; omega
      have hc0 : (0 : Int) ≤ (c.toNat : Int) := by omega
      have hc1 : (c.toNat : Int) ≤ 255 := by omega
      replace hcn := Lib.hid hcn
      have cx := one_conv wr wr.heap.size c (c.toNat : Int) rfl rfl
      have hw : IntKind.u8.wrap (c.toNat : Int) = (c.toNat : Int) := by rw [show IntKind.u8.wrap (c.toNat : Int) = (c.toNat : Int) % 256 by simp [IntKind.wrap, IntKind.signed, IntKind.bits]]; omega
      have hx0 : (0 : Int) ≤ x := by omega
      go_wp2_with fail
      go_roundw
      case rel =>
        refine ⟨i + 1, x / 256, S ++ ⟨#[c]⟩, by omega, by go_num, by go_num, rfl, ?_, ?_, hB.alloc hB.size _⟩
        · unfold Hid; rw [hx.out, Nat.pow_succ, Nat.div_div_eq_div_mul]
        · unfold Hid; rw [leB_snoc, ← hS.out, hce.out, hx.out, ByteArray.data_append]; simp
      case measure => simp [intOf]; omega
    · obtain rfl : i = k := by omega
      have hSl : S.size = i := by
        have : S.data.toList.length = i := by rw [hS.out, leB_len]
        simpa using this
      have h2 := h.out.keep hB
      have c1 := h2.c1
      have f1 := h2.ptr.free 1
      have hsem := Lib.hid (h2.laidsem off i S hSl hf)
      rw [hS.out] at hsem
      have hrow := Lib.hid h2.row
      have hok : Hid (ActV.Ok ⟨2, off, i, 0, 0, S⟩) := ⟨Or.inr (Or.inl rfl), by show off + i ≤ 134217728; omega, by show 0 + i ≤ 134217728; omega, fun _ => hSl⟩
      have hlen : Hid ((splice M off (leB i v)).length = M.length) := splice_len _ _ _ (by rw [leB_len]; exact hf)
      replace h2 := Lib.hid h2
      replace hB := Lib.hid hB
      clear hSl hc hc2 h hx
      go_wp2_with (at_builtin; refine wpList_append_act rfl _ _ rfl V A.length _ rfl (row_keep hrow.out (fun g hg => Below.heap_alloc wr _ g (row_lt hrow.out g hg))) wr.heap.size ⟨2, off, i, 0, 0, S⟩ rfl ?_ (by omega) ?_)
      · intro j u hu
        rw [(Blk.new wr _ _).cell, List.getElem?_toArray]
        exact hu
      · intro v' w1 hown hg hv
        obtain ⟨g', cap', rfl⟩ : ∃ g' cap', v' = .slice (some ⟨g', 0, none⟩) (A.length + 1) cap' := by
          rcases hown.2 with ⟨_, h0⟩ | ⟨g', cap', _, hv', _⟩
          · omega
          · exact ⟨g', cap', hv'⟩
        obtain ⟨c1', f1', hR, hT, hm⟩ := h2.out.added _ _ hown hg hv hok.out hlen.out hsem.out
        replace hR := Lib.hid hR
        replace hT := Lib.hid hT
        replace hm := Lib.hid hm
        clear hown hg hv c1 f1
        go_wp2_with fail
        go_ret
        exact Wrote.since hB.out ⟨_, _, rfl, hR.out, by simp, hT.out, hm.out⟩
theorem rwrite_out (h : RefAt w r V A M) (off : Int) (A0 : Option Addr) (cc : Nat) (ss : List ByteArray) (n : Nat) (hn : ss.length = n) (ha : StrsAt w A0 ss) (hs : (cat ss).size ≤ 1048576) (hl : n ≤ 1048576) (hi : insF M.length off ((cat ss).size : Int) = false) :
    Calls Try.prog 43 #[.pointer (some ⟨r, 0, none⟩), .int .i64 off, .slice A0 n cc] w fun e w' => e = .returned (.int .i64 11) ∧ w = w' := by
  have hc := Lib.hid (rinside_to h off ((cat ss).size : Int) false hi)
  replace h := Lib.hid h
  clear hi
  go_enter Try.func43, Try.ntmps43
  go_wp2_with fail
  go_loop [7, 8] (fun sv i => ∃ j : Nat, j ≤ n ∧ i = .int .i64 j ∧ sv = .string (cat (ss.take j))) (fun _ i => (n - (intOf i).toNat))
  case atStart => exact ⟨0, by omega, rfl, rfl⟩
  case round =>
    obtain ⟨j, hj, rfl, rfl⟩ := hrel
    by_cases hlt : j < n
    · obtain ⟨s, hsj⟩ : ∃ s, Hid (ss[j]? = some s) := ⟨_, List.getElem?_eq_getElem (by rw [hn]; exact hlt)⟩
      obtain ⟨g, o, rfl, hcl⟩ := ha j s hsj.out
      have hcat : Hid (cat (ss.take (j + 1)) = cat (ss.take j) ++ s) := by unfold Hid; rw [List.take_add_one, hsj.out]; exact cat_snoc _ _
      have hsz : Hid ((cat (ss.take (j + 1))).size ≤ 1048576) := Nat.le_trans (cat_take_le ss (j + 1)) hs
      obtain ⟨acc, hacc⟩ : ∃ a, Hid (a = cat (ss.take j)) := ⟨_, rfl⟩
      rw [← hacc.out]
      have hle : acc.size + s.size ≤ 1048576 := by
        have h := hsz.out
        rw [hcat.out, ← hacc.out, ByteArray.size_append] at h
        exact h
      go_wp2_with fail
      go_round
      case rel => exact ⟨j + 1, by omega, by go_num, by rw [hcat.out, hacc.out]⟩
      case measure => simp [intOf]; omega
    · obtain rfl : j = n := by omega
      rw [← hn, List.take_length, hn]
      obtain ⟨S, hS⟩ : ∃ S, Hid (S = cat ss) := ⟨_, rfl⟩
      rw [← hS.out]
      rw [← hS.out] at hc hs
      go_wp2_with fail
      refine hc.out.mono ?_
      rintro e w' ⟨rfl, rfl⟩
      go_wp2_with fail
      go_ret
      exact ⟨rfl, rfl⟩
theorem rwrite_in (h : RefAt w r V A M) (off : Nat) (A0 : Option Addr) (cc : Nat) (ss : List ByteArray) (n : Nat) (hn : ss.length = n) (ha : StrsAt w A0 ss) (hs : (cat ss).size ≤ 1048576) (hl : n ≤ 1048576) (hf : off + (cat ss).size ≤ M.length) (hl2 : A.length ≤ 100000000000) :
    Calls Try.prog 43 #[.pointer (some ⟨r, 0, none⟩), .int .i64 off, .slice A0 n cc] w (Wrote w r V A (splice M off (cat ss).data.toList)) := by
  have hc := Lib.hid (rinside_to h off ((cat ss).size : Int) true (ins_true (by omega) (by omega) (by omega)))
  have hcap := h.cap
  have hrow := Lib.hid h.row
  have c1 := h.c1
  have f1 := h.ptr.free 1
  replace h := Lib.hid h
  go_enter Try.func43, Try.ntmps43
  go_wp2_with fail
  go_loop [7, 8] (fun sv i => ∃ j : Nat, j ≤ n ∧ i = .int .i64 j ∧ sv = .string (cat (ss.take j))) (fun _ i => (n - (intOf i).toNat))
  case atStart => exact ⟨0, by omega, rfl, rfl⟩
  case round =>
    obtain ⟨j, hj, rfl, rfl⟩ := hrel
    by_cases hlt : j < n
    · obtain ⟨s, hsj⟩ : ∃ s, Hid (ss[j]? = some s) := ⟨_, List.getElem?_eq_getElem (by rw [hn]; exact hlt)⟩
      obtain ⟨g, o, rfl, hcl⟩ := ha j s hsj.out
      have hcat : Hid (cat (ss.take (j + 1)) = cat (ss.take j) ++ s) := by unfold Hid; rw [List.take_add_one, hsj.out]; exact cat_snoc _ _
      have hsz : Hid ((cat (ss.take (j + 1))).size ≤ 1048576) := Nat.le_trans (cat_take_le ss (j + 1)) hs
      obtain ⟨acc, hacc⟩ : ∃ a, Hid (a = cat (ss.take j)) := ⟨_, rfl⟩
      rw [← hacc.out]
      have hle : acc.size + s.size ≤ 1048576 := by
        have h := hsz.out
        rw [hcat.out, ← hacc.out, ByteArray.size_append] at h
        exact h
      go_wp2_with fail
      go_round
      case rel => exact ⟨j + 1, by omega, by go_num, by rw [hcat.out, hacc.out]⟩
      case measure => simp [intOf]; omega
    · obtain rfl : j = n := by omega
      rw [← hn, List.take_length, hn]
      obtain ⟨S, hS⟩ : ∃ S, Hid (S = cat ss) := ⟨_, rfl⟩
      rw [← hS.out]
      rw [← hS.out] at hc hs hf
      have hsem := Lib.hid (h.out.laidsem off S.size S rfl hf)
      have hok : Hid (ActV.Ok ⟨2, off, S.size, 0, 0, S⟩) := ⟨Or.inr (Or.inl rfl), by show off + S.size ≤ 134217728; omega, by show 0 + S.size ≤ 134217728; omega, fun _ => rfl⟩
      have hlen : Hid ((splice M off S.data.toList).length = M.length) := splice_len _ _ _ (by simpa using hf)
      go_wp2_with fail
      refine hc.out.mono ?_
      rintro e w' ⟨rfl, rfl⟩
      go_wp2_with (at_builtin; refine wpList_append_act rfl _ _ rfl V A.length _ rfl (row_keep hrow.out (fun g hg => Below.heap_alloc w _ g (row_lt hrow.out g hg))) w.heap.size ⟨2, off, S.size, 0, 0, S⟩ rfl ?_ (by omega) ?_)
      · intro j u hu
        rw [(Blk.new w _ _).cell, List.getElem?_toArray]
        exact hu
      · intro v' w1 hown hg hv
        obtain ⟨g', cap', rfl⟩ : ∃ g' cap', v' = .slice (some ⟨g', 0, none⟩) (A.length + 1) cap' := by
          rcases hown.2 with ⟨_, h0⟩ | ⟨g', cap', _, hv', _⟩
          · omega
          · exact ⟨g', cap', hv'⟩
        obtain ⟨c1', f1', hR, hT, hm⟩ := h.out.added _ _ hown hg hv hok.out hlen.out hsem.out
        replace hR := Lib.hid hR
        replace hT := Lib.hid hT
        replace hm := Lib.hid hm
        clear hown hg hv c1 f1
        go_wp2_with fail
        go_ret
        obtain rfl := hS.out
        exact ⟨_, _, rfl, hR.out, by simp, hT.out, hm.out⟩
end
end Go.Proofs.Ytkchhggbiopffaa
