/- What is proved here: the contracts of a memory's methods for a memory that the law itself has made; the laws' own inside. Conditions: such a memory. -/
import Derived.Test.YtkchhggbiopffaaMMade
import Derived.WalkSpells
namespace Go.Proofs.Ytkchhggbiopffaa
set_option linter.unusedVariables false
set_option linter.unusedSimpArgs false
open Go.RowKit Pm
section
variable {w0 w : World} {p q n : Nat} {L : List UInt8}
/-- a call that turns the bytes alone -/
theorem MS.wrote {L' : List UInt8} {w1 : World} (h : MS w0 p q L n w) (hm : MemAt w1 p q L' n) (ht : Turns [q] w w1) : MS w0 p q L' n w1 :=
  h.turned (ht.more (fun x hx => Or.inl (by simp at hx; simp [hx]))) hm h.hq
theorem ms_len (h : MS w0 p q L n w) : Calls Try.prog 14 #[.pointer (some ⟨p, 0, none⟩)] w fun e w' => e = .returned (.int .i64 n) ∧ MS w0 p q L n w' :=
  (len_any h.mem).mono (by rintro e w' ⟨rfl, rfl⟩; exact ⟨rfl, h⟩)
theorem ms_fill_out (h : MS w0 p q L n w) (off k v : Int) (hi : insF n off k = false) : Calls Try.prog 24 #[.pointer (some ⟨p, 0, none⟩), .int .i64 off, .int .i64 k, .int .u8 v] w fun e w' => e = .returned (.int .i64 11) ∧ MS w0 p q L n w' :=
  (fill_out h.mem off k v hi).mono (by rintro e w' ⟨rfl, rfl⟩; exact ⟨rfl, h⟩)
theorem ms_fill_in (h : MS w0 p q L n w) (off k : Nat) (c : UInt8) (hf : off + k ≤ n) : Calls Try.prog 24 #[.pointer (some ⟨p, 0, none⟩), .int .i64 off, .int .i64 k, .int .u8 (c.toNat : Int)] w fun e w' => e = .returned (.int .i64 0) ∧ MS w0 p q (splice L off (List.replicate k c)) n w' :=
  (fill_in h.mem off k c hf).mono (by rintro e w' ⟨rfl, hm, ht⟩; exact ⟨rfl, h.wrote hm ht⟩)
theorem ms_copy_out (h : MS w0 p q L n w) (dst src k : Int) (hi : insF n dst k = false ∨ insF n src k = false) : Calls Try.prog 21 #[.pointer (some ⟨p, 0, none⟩), .int .i64 dst, .int .i64 src, .int .i64 k] w fun e w' => e = .returned (.int .i64 11) ∧ MS w0 p q L n w' :=
  (copy_out h.mem dst src k hi).mono (by rintro e w' ⟨rfl, rfl⟩; exact ⟨rfl, h⟩)
theorem ms_copy_in (h : MS w0 p q L n w) (dst src k : Nat) (hd : dst + k ≤ n) (hs : src + k ≤ n) : Calls Try.prog 21 #[.pointer (some ⟨p, 0, none⟩), .int .i64 dst, .int .i64 src, .int .i64 k] w fun e w' => e = .returned (.int .i64 0) ∧ MS w0 p q (splice L dst ((L.drop src).take k)) n w' :=
  (copy_in h.mem dst src k hd hs).mono (by rintro e w' ⟨rfl, hm, ht⟩; exact ⟨rfl, h.wrote hm ht⟩)
theorem ms_store_width (h : MS w0 p q L n w) (off k v : Int) (hk : ¬ (k = 1 ∨ k = 2 ∨ k = 4 ∨ k = 8)) : Calls Try.prog 27 #[.pointer (some ⟨p, 0, none⟩), .int .i64 off, .int .i64 k, .int .u64 v] w fun e w' => e = .returned (.int .i64 10) ∧ MS w0 p q L n w' :=
  (store_width h.mem off k v hk).mono (by rintro e w' ⟨rfl, rfl⟩; exact ⟨rfl, h⟩)
theorem ms_store_out (h : MS w0 p q L n w) (off k v : Int) (hk : k = 1 ∨ k = 2 ∨ k = 4 ∨ k = 8) (hi : insF n off k = false) : Calls Try.prog 27 #[.pointer (some ⟨p, 0, none⟩), .int .i64 off, .int .i64 k, .int .u64 v] w fun e w' => e = .returned (.int .i64 11) ∧ MS w0 p q L n w' :=
  (store_out h.mem off k v hk hi).mono (by rintro e w' ⟨rfl, rfl⟩; exact ⟨rfl, h⟩)
theorem ms_store_in (h : MS w0 p q L n w) (off k v : Nat) (hk : k = 1 ∨ k = 2 ∨ k = 4 ∨ k = 8) (hf : off + k ≤ n) (hv : v < 2 ^ 64) : Calls Try.prog 27 #[.pointer (some ⟨p, 0, none⟩), .int .i64 off, .int .i64 k, .int .u64 v] w fun e w' => e = .returned (.int .i64 0) ∧ MS w0 p q (splice L off (leB k v)) n w' :=
  (store_in h.mem off k v hk hf hv).mono (by rintro e w' ⟨rfl, hm, ht⟩; exact ⟨rfl, h.wrote hm ht⟩)
theorem ms_load_width (h : MS w0 p q L n w) (off k : Int) (hk : ¬ (k = 1 ∨ k = 2 ∨ k = 4 ∨ k = 8)) : Calls Try.prog 25 #[.pointer (some ⟨p, 0, none⟩), .int .i64 off, .int .i64 k] w fun e w' => e = .returned (.tuple #[.int .u64 0, .int .i64 10]) ∧ MS w0 p q L n w' :=
  (load_width h.mem off k hk).mono (by rintro e w' ⟨rfl, rfl⟩; exact ⟨rfl, h⟩)
theorem ms_load_out (h : MS w0 p q L n w) (off k : Int) (hk : k = 1 ∨ k = 2 ∨ k = 4 ∨ k = 8) (hi : insF n off k = false) : Calls Try.prog 25 #[.pointer (some ⟨p, 0, none⟩), .int .i64 off, .int .i64 k] w fun e w' => e = .returned (.tuple #[.int .u64 0, .int .i64 11]) ∧ MS w0 p q L n w' :=
  (load_out h.mem off k hk hi).mono (by rintro e w' ⟨rfl, rfl⟩; exact ⟨rfl, h⟩)
theorem ms_load_in (h : MS w0 p q L n w) (off k : Nat) (hk : k = 1 ∨ k = 2 ∨ k = 4 ∨ k = 8) (hf : off + k ≤ n) : Calls Try.prog 25 #[.pointer (some ⟨p, 0, none⟩), .int .i64 off, .int .i64 k] w fun e w' => e = .returned (.tuple #[.int .u64 (leN ((L.drop off).take k)), .int .i64 0]) ∧ MS w0 p q L n w' :=
  (load_in h.mem off k hk hf).mono (by rintro e w' ⟨rfl, rfl⟩; exact ⟨rfl, h⟩)
theorem ms_load_to (h : MS w0 p q L n w) (off k : Nat) (K : Int) (hK : K = k) (hk : k = 1 ∨ k = 2 ∨ k = 4 ∨ k = 8) (hf : off + k ≤ n) (x : Int) (hx : (leN ((L.drop off).take k) : Int) = x) : Calls Try.prog 25 #[.pointer (some ⟨p, 0, none⟩), .int .i64 off, .int .i64 K] w fun e w' => e = .returned (.tuple #[.int .u64 x, .int .i64 0]) ∧ MS w0 p q L n w' := by
  subst hK; subst hx; exact ms_load_in h off k hk hf
theorem ms_load_any (h : MS w0 p q L n w) (off k : Nat) (O K : Int) (hO : O = off) (hK : K = k) (hk : k = 1 ∨ k = 2 ∨ k = 4 ∨ k = 8) (hf : off + k ≤ n) (x : Nat) (hx : leN ((L.drop off).take k) = x) : Calls Try.prog 25 #[.pointer (some ⟨p, 0, none⟩), .int .i64 O, .int .i64 K] w fun e w' => e = .returned (.tuple #[.int .u64 x, .int .i64 0]) ∧ MS w0 p q L n w' := by
  subst hO; subst hK; subst hx; exact ms_load_in h off k hk hf
theorem ms_read_in (h : MS w0 p q L n w) (off k : Nat) (hf : off + k ≤ n) : Calls Try.prog 15 #[.pointer (some ⟨p, 0, none⟩), .int .i64 off, .int .i64 k] w fun e w' =>
    e = .returned (.tuple #[.slice (some ⟨w.heap.size, 0, none⟩) k k, .int .i64 0]) ∧ MS w0 p q L n w' ∧ Blk w' w.heap.size (bv ((L.drop off).take k)) 5 ∧ Below w.heap.size w w' :=
  (read_in h.mem off k hf).mono (by rintro e w' ⟨rfl, hb, hB⟩; exact ⟨rfl, h.keep hB, hb, hB⟩)
theorem ms_store_to (h : MS w0 p q L n w) (off k v : Nat) (K : Int) (hK : K = k) (hk : k = 1 ∨ k = 2 ∨ k = 4 ∨ k = 8) (hf : off + k ≤ n) (hv : v < 2 ^ 64) : Calls Try.prog 27 #[.pointer (some ⟨p, 0, none⟩), .int .i64 off, .int .i64 K, .int .u64 v] w fun e w' => e = .returned (.int .i64 0) ∧ MS w0 p q (splice L off (leB k v)) n w' := by
  subst hK; exact ms_store_in h off k v hk hf hv
theorem ms_equal_out (h : MS w0 p q L n w) (x y k : Int) (hi : insF n x k = false ∨ insF n y k = false) : Calls Try.prog 23 #[.pointer (some ⟨p, 0, none⟩), .int .i64 x, .int .i64 y, .int .i64 k] w fun e w' => e = .returned (.tuple #[.bool false, .int .i64 11]) ∧ MS w0 p q L n w' :=
  (equal_out h.mem x y k hi).mono (by rintro e w' ⟨rfl, rfl⟩; exact ⟨rfl, h⟩)
theorem ms_equal_in (h : MS w0 p q L n w) (x y k : Nat) (hd : x + k ≤ n) (hs : y + k ≤ n) (r : Bool) (hr : decide ((L.drop x).take k = (L.drop y).take k) = r) : Calls Try.prog 23 #[.pointer (some ⟨p, 0, none⟩), .int .i64 x, .int .i64 y, .int .i64 k] w fun e w' => e = .returned (.tuple #[.bool r, .int .i64 0]) ∧ MS w0 p q L n w' :=
  (equal_in h.mem x y k hd hs).mono (by rintro e w' ⟨rfl, m, rfl⟩; rw [hr]; exact ⟨rfl, h.drewN m⟩)
theorem ms_read_out (h : MS w0 p q L n w) (off k : Int) (hi : insF n off k = false) : Calls Try.prog 15 #[.pointer (some ⟨p, 0, none⟩), .int .i64 off, .int .i64 k] w fun e w' => e = .returned (.tuple #[.slice none 0 0, .int .i64 11]) ∧ MS w0 p q L n w' :=
  (read_out h.mem off k hi).mono (by rintro e w' ⟨rfl, rfl⟩; exact ⟨rfl, h⟩)
theorem ms_grow_no (h : MS w0 p q L n w) (size : Int) (hb : size < n ∨ 134217728 < size) : Calls Try.prog 26 #[.pointer (some ⟨p, 0, none⟩), .int .i64 size] w fun e w' => e = .returned (.int .i64 12) ∧ MS w0 p q L n w' :=
  (grow_no h.mem size hb).mono (by rintro e w' ⟨rfl, rfl⟩; exact ⟨rfl, h⟩)
theorem ms_grow (h : MS w0 p q L n w) (size : Nat) (h1 : n ≤ size) (h2 : size ≤ 134217728) : Calls Try.prog 26 #[.pointer (some ⟨p, 0, none⟩), .int .i64 size] w fun e w' =>
    e = .returned (.int .i64 0) ∧ ∃ q' L', MS w0 p q' L' size w' ∧ L'.take size = L.take n ++ List.replicate (size - n) 0 := by
  by_cases hc : size ≤ L.length
  · refine (grow_room h.mem size h1 hc).mono ?_
    rintro e w' ⟨rfl, hm, ht⟩
    refine ⟨rfl, q, L, h.turned ht hm h.hq, ?_⟩
    have hz := zero_splice h.mem size h1 hc
    apply List.ext_getElem?
    intro i
    have hl : (L.take n).length = n := by rw [List.length_take]; exact Nat.min_eq_left h.mem.le
    rw [List.getElem?_take]
    by_cases hi : i < n
    · rw [if_pos (by omega), List.getElem?_append_left (by rw [hl]; exact hi), List.getElem?_take, if_pos hi]
    · rw [List.getElem?_append_right (by rw [hl]; omega), List.getElem?_replicate, hl]
      by_cases hi2 : i < size
      · rw [if_pos hi2, if_pos (by omega)]; exact h.mem.zer i (by omega) (by omega)
      · rw [if_neg hi2, if_neg (by omega)]
  · refine (grow_new h.mem size (by omega) h2).mono ?_
    rintro e w' ⟨rfl, L', hm, hl, ht⟩
    exact ⟨rfl, w.heap.size, L', h.turned (ht.more (fun x hx => Or.inl (by simp at hx; simp [hx]))) hm h.below.size, hl⟩
end
theorem atF_in (L : List UInt8) (n p : Nat) (h : (p : Int) < n) : atF L n p = (((L[p]?).getD 0).toNat : Int) := by
  unfold atF; rw [if_pos ⟨by omega, h⟩]; simp [List.getD]
theorem atF_out (L : List UInt8) (n : Nat) (p : Int) (h : ¬ (0 ≤ p ∧ p < n)) : atF L n p = -1 := by
  unfold atF; rw [if_neg h]
theorem atF_grown {L L' : List UInt8} {n size : Nat} (h : L'.take size = L.take n ++ List.replicate (size - n) 0) (hn : n ≤ L.length) (h1 : n ≤ size) (p : Nat) (hp : p < size) : atF L' size p = if p < n then atF L n p else 0 := by
  have hl : (L.take n).length = n := by rw [List.length_take]; exact Nat.min_eq_left hn
  have e : L'[p]? = (L.take n ++ List.replicate (size - n) 0)[p]? := by rw [← h, List.getElem?_take, if_pos hp]
  rw [atF_in _ _ _ (by omega), e]
  by_cases hp2 : p < n
  · rw [if_pos hp2, atF_in _ _ _ (by omega), List.getElem?_append_left (by rw [hl]; exact hp2), List.getElem?_take, if_pos hp2]
  · rw [if_neg hp2, List.getElem?_append_right (by rw [hl]; omega), hl, List.getElem?_replicate, if_pos (by omega)]; rfl
theorem lins_to (n : Nat) (off k : Int) (r : Bool) (hr : insF n off k = r) (w : World) (hn : n ≤ 9223372036854775807) : Calls Try.prog 19 #[.int .i64 n, .int .i64 off, .int .i64 k] w fun e w' => e = .returned (.bool r) ∧ w = w' := by
  have hi := insF_iff n off k
  rw [hr] at hi
  by_cases h1 : 0 ≤ off
  · by_cases h2 : 0 ≤ k
    · by_cases h3 : k ≤ n
      · by_cases h4 : off ≤ n - k
        · have hr2 : Hid (r = true) := hi.2 ⟨h1, h2, by omega⟩
          clear hi hr
          go_enter Try.func19, Try.ntmps19
          go_wp2_with fail
          go_ret
          exact ⟨ret_bool hr2.out.symm, rfl⟩
        · have hr2 : Hid (r = false) := by cases r with
            | false => rfl
            | true => exact absurd (hi.1 rfl).2.2 (by omega)
          clear hi hr
          go_enter Try.func19, Try.ntmps19
          go_wp2_with fail
          go_ret
          exact ⟨ret_bool hr2.out.symm, rfl⟩
      · have hr2 : Hid (r = false) := by cases r with
          | false => rfl
          | true => exact absurd (hi.1 rfl).2.2 (by omega)
        clear hi hr
        go_enter Try.func19, Try.ntmps19
        go_wp2_with fail
        go_ret
        exact ⟨ret_bool hr2.out.symm, rfl⟩
    · have hr2 : Hid (r = false) := by cases r with
        | false => rfl
        | true => exact absurd (hi.1 rfl).2.1 (by omega)
      clear hi hr
      go_enter Try.func19, Try.ntmps19
      go_wp2_with fail
      go_ret
      exact ⟨ret_bool hr2.out.symm, rfl⟩
  · have hr2 : Hid (r = false) := by cases r with
      | false => rfl
      | true => exact absurd (hi.1 rfl).1 (by omega)
    clear hi hr
    go_enter Try.func19, Try.ntmps19
    go_wp2_with fail
    go_ret
    exact ⟨ret_bool hr2.out.symm, rfl⟩
end Go.Proofs.Ytkchhggbiopffaa
