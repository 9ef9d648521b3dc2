/- What is proved here: the walk of the law MemLists. Conditions: a text of at most 134217728 bytes, a script of bulk at most 1048576 that lies in memory. -/
import Derived.Test.YtkchhggbiopffaaQIn
namespace Go.Proofs.Ytkchhggbiopffaa
set_option linter.unusedVariables false
set_option linter.unusedSimpArgs false
open Go.RowKit Pm
theorem new_to (K : Int) (N : Nat) (hK : K = N) (w : World) (h1 : N ≤ 134217728) : Calls Try.prog 13 #[.int .i64 K] w fun e w' => e = .returned (.tuple #[.pointer (some ⟨w.heap.size + 1, 0, none⟩), .int .i64 0]) ∧
    MemAt w' (w.heap.size + 1) w.heap.size (List.replicate N 0) N ∧ Below w.heap.size w w' := by
  subst hK; exact new_yes N w h1
theorem len_to {w : World} {p q n : Nat} {L : List UInt8} (h : MemAt w p q L n) (K : Int) (hK : K = n) : Calls Try.prog 14 #[.pointer (some ⟨p, 0, none⟩)] w fun e w' => e = .returned (.int .i64 K) ∧ w = w' := by
  subst hK; exact len_any h
set_option maxHeartbeats 1000000 in
set_option maxRecDepth 100000 in
theorem made_one (s : ByteArray) (w : World) (hs : s.size ≤ 134217728) : Calls Try.prog 16 #[.int .i64 1, .string s] w fun e w' => ∃ n L, e = .returned (.pointer (some ⟨w.heap.size + 1, 0, none⟩)) ∧ 1 ≤ n ∧ MS w (w.heap.size + 1) w.heap.size L n w' := by
  obtain ⟨N, K, hK, hN, hN1, hN2, hc⟩ : ∃ (N : Nat) (K : Int), Hid (K = N) ∧ N ≤ 134217728 ∧ 1 ≤ N ∧ s.size ≤ N ∧ (((s.size : Int) < 1 ∧ K = 1) ∨ (¬ (s.size : Int) < 1 ∧ K = s.size)) := by
    by_cases h : (s.size : Int) < 1
    · exact ⟨1, 1, rfl, by omega, by omega, by omega, Or.inl ⟨h, rfl⟩⟩
    · exact ⟨s.size, s.size, rfl, hs, by omega, by omega, Or.inr ⟨h, rfl⟩⟩
  have hKb : K ≤ 134217728 := by have := hK.out; omega
  rcases hc with ⟨hc, rfl⟩ | ⟨hc, rfl⟩
  all_goals
    go_enter Try.func16, Try.ntmps16
    go_wp2_with fail
    refine (new_to _ N hK.out _ hN).mono ?_
    rintro e w1 ⟨rfl, hm, hb⟩
    have hsz : w.heap.size + 1 < w1.heap.size := hm.ptr.lt
    have HM := Lib.hid hm
    clear hm
    replace hb := Lib.hid hb
    go_wp2_with (first | (go_at_call 14; (with_reducible refine (len_to HM.out _ hK.out).mono ?_); rintro e w' ⟨rfl, rfl⟩) | ((with_reducible show wpList _ _ _ (⟨some 35, _, _, _, _, _⟩ :: _) _ _); refine wpList_to_bytes rfl (.tmp 34) rfl s rfl ?_; intro w2 c hz2 hb2 hc2 hf2; replace hb2 := Lib.hid hb2; replace hc2 := Lib.hid hc2; replace hf2 := Lib.hid hf2; replace hz2 := Lib.hid hz2))
    have hsz2 : w1.heap.size < w2.heap.size := by have := hz2.out; omega
    have hps : PartsAt (w2.alloc (.cells #[.slice (some ⟨w1.heap.size, 0, none⟩) s.size c] 27)) w.heap.size (some ⟨w2.heap.size, 0, none⟩) [s.data.toList] := by
      intro i t ht
      cases i with
      | zero =>
        obtain rfl : s.data.toList = t := by simpa using ht
        refine ⟨w2.heap.size, 0, _, rfl, by omega, (Blk.new w2 _ _).cell 0, some ⟨w1.heap.size, 0, none⟩, c, by simp, fun _ => ⟨w1.heap.size, 0, rfl, by omega, fun j b hb => ?_⟩⟩
        rw [Nat.zero_add]
        exact ((Below.refl w2.heap.size w2).alloc (Nat.le_refl _) _).cell (p := ⟨w1.heap.size, j, none⟩) hsz2 |>.trans (hc2.out j b hb)
      | succ i => simp at ht
    refine (write_in ((HM.out.keep hb2.out).alloc _) 0 _ _ [s.data.toList] hps (by simp) (by simp; omega)).mono ?_
    rintro e w3 ⟨rfl, hm3, ht3⟩
    have hB : Below w.heap.size w w3 := Turns.below (((hb.out.trans (hb2.out.mono (by omega))).alloc (by omega) _)) ht3 (by simp) (by simp; omega)
    replace hm3 := Lib.hid hm3
    go_wp2_with fail
    go_ret
    exact ⟨N, _, rfl, hN1, hB, hm3.out, by omega, Nat.le_refl _⟩
theorem onced_of {w0 : World} {p : Nat} {B : List PageV} {e : Ending} {w' : World} (h : ReadIn w0 p B e w') : Onced w0 p B e w' := by
  obtain ⟨q', n', L', V', B', he, hx, hl⟩ := h
  exact ⟨q', n', L', V', B', he, hx, by omega, by omega⟩
theorem once_any {w0 w : World} {p q n : Nat} {L : List UInt8} {V : Value} {B : List PageV} (h : Lst w0 w p q n L V B) (hB : B.length ≤ 100000000) (kd mm a b nn : Int) (v : Nat) (A0 : Option Addr) (cc : Nat) (ss : List ByteArray) (k : Nat) (hv : v < 2 ^ 64) (hk : ss.length = k) (hs : StrsAt w A0 ss) (hs1 : (cat ss).size ≤ 1048576) (hs2 : k ≤ 1048576) (hss : ∀ s ∈ ss, s.size ≤ 1048576) :
    Calls Try.prog 28 #[.pointer (some ⟨p, 0, none⟩), .agg (opv kd mm a b nn v (.slice A0 k cc)), V] w (Onced w0 p B) := by
  by_cases h2 : kd = 2
  · subst h2; exact once_grow h mm a b nn v _
  by_cases h4 : kd = 4
  · subst h4; exact once_store h mm a b nn v _ hv
  by_cases h5 : kd = 5
  · subst h5; exact once_fill h mm a b nn v _
  by_cases h6 : kd = 6
  · subst h6; exact once_copy h mm a b nn v _
  by_cases h9 : kd = 9
  · subst h9; exact once_write h mm a b nn v A0 cc ss k hk hs hs1 hs2 hss
  by_cases h8 : kd = 8
  · subst h8
    cases hi : insF n a nn with
    | false => exact once_read_out h mm a b nn v _ hi
    | true =>
      obtain ⟨h1, h2, h3⟩ := (insF_iff _ _ _).1 hi
      obtain ⟨a', rfl⟩ := Int.eq_ofNat_of_zero_le h1
      obtain ⟨nn', rfl⟩ := Int.eq_ofNat_of_zero_le h2
      exact (once_read_in h mm b a' nn' v _ (by omega) hB).mono (fun e w' hr => onced_of hr)
  exact once_other h kd mm a b nn v _ ⟨h2, h4, h5, h6, h9, h8⟩
theorem once_first {w0 w : World} {p q n : Nat} {L : List UInt8} (h : Lst w0 w p q n L (.slice none 0 0) []) : Calls Try.prog 28 #[.pointer (some ⟨p, 0, none⟩), .agg #[.int .i64 8, .int .i64 0, .int .i64 0, .int .i64 0, .int .i64 n, .int .u64 0, .slice none 0 0], .slice none 0 0] w (ReadIn w0 p []) :=
  once_read_in h 0 0 0 n 0 (.slice none 0 0) (by omega) (by simp)
set_option maxHeartbeats 4000000 in
set_option maxRecDepth 100000 in
theorem memLists_all (s : ByteArray) (A : Option Addr) (cc : Nat) (os : List OpV) (m : Nat) (w : World) (hn : os.length = m) (ha : OpsAt w A os) (hm : m ≤ 1048576) (hs : s.size ≤ 134217728) :
    Calls Try.prog 11 #[.string s, .slice A m cc] w fun e w' => e = .returned (.bool true) ∧ Below w.heap.size w w' := by
  go_enter Try.func11, Try.ntmps11
  go_wp2_with fail
  refine (made_one s w hs).mono ?_
  rintro e w1 ⟨n, L, rfl, hn1, hM⟩
  have hX : Hid (Lst w w1 (w.heap.size + 1) w.heap.size n L (.slice none 0 0) []) := ⟨hM.mem, ⟨World.ownsRow_nil _ _ _ _, fun a ha => by simp at ha⟩, hM.below, hM.hp, hM.hq⟩
  obtain ⟨p, hp⟩ : ∃ p, w.heap.size + 1 = p := ⟨_, rfl⟩
  rw [hp] at hX ⊢
  clear hp hM
  go_upto_region 5 with (first
    | (go_at_call 14; (with_reducible refine (len_any hX.out.mem).mono ?_); rintro e w' ⟨rfl, rfl⟩)
    | (go_at_call 28; (with_reducible refine (once_first hX.out).mono ?_); rintro e w2 ho2; obtain ⟨q2, n2, L2, V2, B2, rfl, hX2, hl2⟩ := ho2; replace hX2 := Lib.hid hX2; replace hl2 := Lib.hid hl2))
  obtain ⟨A2, cap2, rfl⟩ := hX2.out.book.lit
  have hl3 : Hid (B2.length = 2) := hl2
  rw [hl3.out]
  rw [hl3.out] at hX2
  clear hX hl2
  go_wp2_with fail
  go_loopw [6, 34] (fun bv iv wr => ∃ (j q n : Nat) (L : List UInt8) (B : List PageV), j ≤ m ∧ iv = .int .i64 j ∧ Hid (Lst w wr p q n L bv B) ∧ Hid (B.length ≤ 2 + 2 * j)) (fun _ iv _ => (m - intOf iv).toNat)
  case atStart => exact ⟨0, q2, n2, L2, B2, by omega, rfl, hX2, by unfold Hid; rw [hl3.out]; omega⟩
  case round =>
    clear hX2 hl3
    obtain ⟨j, q, n, L, B, hj, rfl, hX, hl⟩ := hrel
    have hlb : Hid (B.length ≤ 100000000) := by unfold Hid; have := hl.out; omega
    by_cases hlt : j < m
    · obtain ⟨op, hop⟩ : ∃ o, Hid (os[j]? = some o) := ⟨_, List.getElem?_eq_getElem (by rw [hn]; exact hlt)⟩
      obtain ⟨hok, g, o, rfl, c0, c1, c2, c3, c4, c5, c6⟩ := ha j op hop.out
      obtain ⟨kd, mm, a, b, nn, v, A0, ss, k9⟩ := op
      simp only at c0 c1 c2 c3 c4 c5 c6
      have hB := Lib.hid hX.out.below
      have lift : ∀ {i : Nat} {x : Value}, w.cell? ⟨g, i, none⟩ = some x → wr.cell? ⟨g, i, none⟩ = some x := fun {i x} hc => (hB.out.cell (p := ⟨g, i, none⟩) (World.block_lt_of_cell? w _ hc)).trans hc
      replace c0 := lift c0
      replace c1 := lift c1
      replace c2 := lift c2
      replace c3 := lift c3
      replace c4 := lift c4
      replace c5 := lift c5
      replace c6 := lift c6
      clear lift
      replace hok := Lib.hid hok
      have hX1 := Lib.hid (hX.out.keep ((Below.refl _ _).alloc (Nat.le_refl _) (.cells #[.int .i64 kd, .int .i64 mm, .int .i64 a, .int .i64 b, .int .i64 nn, .int .u64 v, .slice A0 ss.length k9] 59)))
      have hO := Lib.hid (Blk.new wr #[.int .i64 kd, .int .i64 mm, .int .i64 a, .int .i64 b, .int .i64 nn, .int .u64 v, .slice A0 ss.length k9] 59)
      go_upto_region 10 with (fail)
      clear c0 c1 c2 c3 c4 c5 c6
      obtain ⟨ob, hob⟩ : ∃ ob, Hid (ob = wr.heap.size) := ⟨_, rfl⟩
      rw [← hob.out] at hO
      rw [← hob.out]
      generalize World.alloc wr _ = wz at hO hX1 ⊢
      have o0 : wz.cell? ⟨ob, 0, none⟩ = some (.int .i64 kd) := hO.out.cell 0
      have o1 : wz.cell? ⟨ob, 1, none⟩ = some (.int .i64 mm) := hO.out.cell 1
      have o2 : wz.cell? ⟨ob, 2, none⟩ = some (.int .i64 a) := hO.out.cell 2
      have o3 : wz.cell? ⟨ob, 3, none⟩ = some (.int .i64 b) := hO.out.cell 3
      have o4 : wz.cell? ⟨ob, 4, none⟩ = some (.int .i64 nn) := hO.out.cell 4
      have o5 : wz.cell? ⟨ob, 5, none⟩ = some (.int .u64 v) := hO.out.cell 5
      have o6 : wz.cell? ⟨ob, 6, none⟩ = some (.slice A0 ss.length k9) := hO.out.cell 6
      have hpl := once_any hX1.out hlb.out kd mm a b nn v A0 k9 ss ss.length hok.out.hv rfl (fun i s hi => by
        obtain ⟨g', o', e', hc'⟩ := hok.out.strs i s hi
        exact ⟨g', o', e', (hX1.out.below.cell (p := ⟨g', o' + i, none⟩) (World.block_lt_of_cell? w _ hc')).trans hc'⟩) hok.out.sum hok.out.len hok.out.each
      unfold opv at hpl
      replace hpl := Lib.hid hpl
      go_wp2_with (first
        | (go_at_call 28; (with_reducible refine hpl.out.mono ?_); rintro e w5 ho5; obtain ⟨q5, n5, L5, V5, B5, rfl, hX5, h5a, h5b⟩ := ho5; replace hX5 := Lib.hid hX5; have hl5 : Hid (B5.length ≤ 2 + 2 * (j + 1)) := (by unfold Hid; have := hl.out; omega); clear h5a h5b)
        | (go_at_call 29; (with_reducible refine (holds_any hX5.out.book (by have := hl5.out; omega)).mono ?_); rintro e w6 ⟨rfl, hb6⟩; have hX6 := Lib.hid (hX5.out.keep hb6); clear hb6))
      go_roundw
      case rel => exact ⟨j + 1, q5, n5, L5, B5, by omega, by go_num, hX6, hl5⟩
      case measure => simp [intOf]; omega
    · obtain rfl : j = m := by omega
      go_wp2_with (go_at_call 29; (with_reducible refine (holds_any hX.out.book hlb.out).mono ?_); rintro e w6 ⟨rfl, hb6⟩; have hX6 := Lib.hid (hX.out.keep hb6); clear hb6)
      go_ret
      exact ⟨rfl, hX6.out.below⟩
end Go.Proofs.Ytkchhggbiopffaa
