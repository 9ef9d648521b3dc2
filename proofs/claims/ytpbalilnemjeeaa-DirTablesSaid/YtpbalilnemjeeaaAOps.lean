/- What is proved here: the contracts of the arena's calls on a span inside one live block. No condition. -/
import Derived.Test.YtpbalilnemjeeaaAGood
import Derived.Lib.Strings
import Derived.Lib.ConvBytes
namespace Go.Proofs.Ytpbalilnemjeeaa
set_option linter.unusedVariables false
set_option linter.unusedSimpArgs false
open Go.RowKit Pm Pa Pl
/-- the span lies inside one live block -/
def Inside (ps : Parts) (off k : Nat) : Prop := ∃ i c, ps[i]? = some (c, true) ∧ stOf ps i ≤ off ∧ off + k ≤ stOf ps i + c
section
variable {w w' : World} {p : Nat} {x : Loc} {lim : Nat} {ps : Parts} {L : List UInt8}
theorem Inside.end_le {off k : Nat} (h : Inside ps off k) (hp : ∀ a ∈ ps, 16 ≤ a.1) : off + k ≤ endOf ps ∧ 16 ≤ off := by
  obtain ⟨i, c, hi, h1, h2⟩ := h
  have hl := (List.getElem?_eq_some_iff.1 hi).1
  have h3 := st_succ ps i _ hi
  have h4 := st_le ps hp (i + 1) ps.length (by omega) (Nat.le_refl _)
  rw [st_end] at h4
  simp only [] at h3
  have h5 : 16 ≤ stOf ps i := by unfold stOf; omega
  omega
theorem ArAt.inside (h : ArAt w p x lim ps L) {off k : Nat} (hi : Inside ps off k) : off + k ≤ endOf ps := (hi.end_le fun a ha => (h.pos a ha).1).1
theorem good_yes (h : ArAt w p x lim ps L) {off k : Nat} (hi : Inside ps off k) (O K : Int) (hO : O = off) (hK : K = k) : Calls Try.prog 66 #[.pointer (some ⟨p, 0, none⟩), .int .i64 O, .int .i64 K] w fun e w' => e = .returned (.bool true) ∧ ∃ m, w' = w.drewN m := by
  subst hO hK
  obtain ⟨i, c, hi, h1, h2⟩ := hi
  have hp : ∀ a ∈ ps, 16 ≤ a.1 := fun a ha => (h.pos a ha).1
  have hl := (List.getElem?_eq_some_iff.1 hi).1
  have h3 := st_succ ps i _ hi
  simp only [] at h3
  by_cases e1 : off = stOf ps i
  · exact good_at h i c true hi off k (by omega) (by omega) true (by rw [Bool.true_and, decide_eq_true (by omega), Bool.true_or])
  · by_cases e2 : off < stOf ps i + c
    · exact good_mid h i c true hi off k (by omega) (by omega) (.inl (by omega)) (by omega) true (by rw [Bool.true_and]; exact decide_eq_true (by omega))
    · by_cases e3 : i + 1 = ps.length
      · exact good_mid h i c true hi off k (by omega) (by omega) (.inr e3) (by omega) true (by rw [Bool.true_and]; exact decide_eq_true (by omega))
      · obtain ⟨⟨c2, l2⟩, hj⟩ : ∃ a, ps[i + 1]? = some a := ⟨_, List.getElem?_eq_getElem (by omega)⟩
        obtain rfl : k = 0 := by omega
        refine good_at h (i + 1) c2 l2 hj off ((0 : Nat) : Int) (by omega) (by omega) true ?_
        have hpr : prevLive ps (i + 1) = true := by simp [prevLive, hi]
        rw [hpr]
        simp
theorem word_yes (h : ArAt w p x lim ps L) {off k : Nat} (hi : Inside ps off k) (hk : k = 1 ∨ k = 2 ∨ k = 4 ∨ k = 8) (O K : Int) (hO : O = off) (hK : K = k) : Calls Try.prog 72 #[.pointer (some ⟨p, 0, none⟩), .int .i64 O, .int .i64 K] w fun e w' => e = .returned (.int .i64 0) ∧ ∃ m, w' = w.drewN m := by
  have hg := Lib.hid (good_yes h hi O K hO hK)
  clear h hi hO
  rcases hk with rfl | rfl | rfl | rfl <;> (subst hK; go_enter Try.func72, Try.ntmps72; go_wp2_with (first | (go_at_call 66; refine hg.out.mono ?_; rintro e w' ⟨rfl, m, rfl⟩) | fail); go_ret; exact ⟨rfl, _, rfl⟩)
theorem ArAt.wrote {L' : List UInt8} (h : ArAt w p x lim ps L) (hm : MemAt w' x.m x.q L' (endOf ps)) (ht : Turns [x.q] w w') : ArAt w' p x lim ps L' := by
  obtain ⟨lab, l0, l1, l2, l3, l4, l5, l6, l7⟩ := h.nd
  have hne : ∀ y, y ∈ [x.q] → lab y = 2 := fun y hy => by simp only [List.mem_singleton] at hy; rw [hy]; exact l2
  exact ⟨h.hd.turn ht (fun hk => by have := hne _ hk; omega), hm, row_turn h.st ht (fun g hg hk => by have := hne _ hk; have := l5 g hg; omega), row_turn h.cl ht (fun g hg hk => by have := hne _ hk; have := l6 g hg; omega),
    h.sz.turn ht (fun hk => by have := hne _ hk; omega), free_turn h.fr ht (fun hk => by have := hne _ hk; omega) (fun g hg hk => by have := hne _ hk; have := l7 g hg; omega), h.nd, fun k hk => Nat.lt_of_lt_of_le (h.fl k hk) ht.size, h.pos, h.lv, h.lm⟩
theorem ArAt.q_all (x : Loc) (p : Nat) : ∀ y, y ∈ [x.q] → y ∈ x.all p := fun y hy => by simp only [List.mem_singleton] at hy; rw [hy]; simp [Loc.all]
set_option maxHeartbeats 1000000 in
theorem ar_fill (h : ArAt w p x lim ps L) {off k : Nat} (hi : Inside ps off k) (c : UInt8) (O K : Int) (hO : O = off) (hK : K = k) : Calls Try.prog 26 #[.pointer (some ⟨p, 0, none⟩), .int .i64 O, .int .i64 K, .int .u8 (c.toNat : Int)] w fun e w' =>
    e = .returned (.int .i64 0) ∧ ArAt w' p x lim ps (splice L off (List.replicate k c)) ∧ Turns [x.q] w w' := by
  have hA := Lib.hid h
  subst hO hK
  obtain ⟨c0, c1, c2, c3, c4, c5, c6⟩ := h.cells
  clear h c0 c1 c3 c4 c5 c6
  have tok1 : True := trivial
  have tok2 : True := trivial
  go_enter Try.func26, Try.ntmps26
  go_wp2_with (first
    | (go_at_call 66; have _t := tok1; refine (good_yes hA.out hi _ _ (by first | rfl | omega) (by first | rfl | omega)).mono ?_; rintro e w' ⟨rfl, m1, rfl⟩; clear tok1)
    | (go_at_call 71; refine (fill_in (hA.out.drewN _).mem off k c (hA.out.inside hi)).mono ?_; rintro e w9 ⟨rfl, hm9, ht9⟩)
    | fail)
  go_ret
  have hT := ((Turns.refl [x.q] w).drewN _).trans ht9
  exact ⟨rfl, hA.out.wrote hm9 hT, hT⟩
set_option maxHeartbeats 1000000 in
theorem ar_store (h : ArAt w p x lim ps L) {off k : Nat} (hi : Inside ps off k) (hk : k = 1 ∨ k = 2 ∨ k = 4 ∨ k = 8) (v : Nat) (hv : v < 2 ^ 64) (O K : Int) (hO : O = off) (hK : K = k) : Calls Try.prog 29 #[.pointer (some ⟨p, 0, none⟩), .int .i64 O, .int .i64 K, .int .u64 v] w fun e w' =>
    e = .returned (.int .i64 0) ∧ ArAt w' p x lim ps (splice L off (leB k v)) ∧ Turns [x.q] w w' := by
  have hA := Lib.hid h
  subst hO hK
  obtain ⟨c0, c1, c2, c3, c4, c5, c6⟩ := h.cells
  clear h c0 c1 c3 c4 c5 c6
  have tok1 : True := trivial
  have tok2 : True := trivial
  go_enter Try.func29, Try.ntmps29
  go_wp2_with (first
    | (go_at_call 72; refine (word_yes hA.out hi hk _ _ (by first | rfl | omega) (by first | rfl | omega)).mono ?_; rintro e w' ⟨rfl, m1, rfl⟩)
    | (go_at_call 73; refine (store_in (hA.out.drewN _).mem off k v hk (hA.out.inside hi) hv).mono ?_; rintro e w9 ⟨rfl, hm9, ht9⟩)
    | fail)
  go_ret
  have hT := ((Turns.refl [x.q] w).drewN _).trans ht9
  exact ⟨rfl, hA.out.wrote hm9 hT, hT⟩
set_option maxHeartbeats 1000000 in
theorem ar_copy (h : ArAt w p x lim ps L) {dst src k : Nat} (hi : Inside ps dst k) (hj : Inside ps src k) (D S K : Int) (hD : D = dst) (hS : S = src) (hK : K = k) : Calls Try.prog 24 #[.pointer (some ⟨p, 0, none⟩), .int .i64 D, .int .i64 S, .int .i64 K] w fun e w' =>
    e = .returned (.int .i64 0) ∧ ArAt w' p x lim ps (splice L dst ((L.drop src).take k)) ∧ Turns [x.q] w w' := by
  have hA := Lib.hid h
  subst hD hS hK
  obtain ⟨c0, c1, c2, c3, c4, c5, c6⟩ := h.cells
  clear h c0 c1 c3 c4 c5 c6
  have tok1 : True := trivial
  have tok2 : True := trivial
  go_enter Try.func24, Try.ntmps24
  go_wp2_with (first
    | (go_at_call 66; have _t := tok1; refine (good_yes hA.out hi _ _ (by first | rfl | omega) (by first | rfl | omega)).mono ?_; rintro e w' ⟨rfl, m1, rfl⟩; clear tok1)
    | (go_at_call 66; have _t := tok2; refine (good_yes (hA.out.drewN _) hj _ _ (by first | rfl | omega) (by first | rfl | omega)).mono ?_; rintro e w' ⟨rfl, m2, rfl⟩; clear tok2)
    | (go_at_call 69; refine (copy_in (hA.out.drewN _).mem dst src k (hA.out.inside hi) (hA.out.inside hj)).mono ?_; rintro e w9 ⟨rfl, hm9, ht9⟩)
    | fail)
  go_ret
  have hT := ((Turns.refl [x.q] w).drewN _).trans ht9
  exact ⟨rfl, hA.out.wrote hm9 hT, hT⟩
set_option maxHeartbeats 1000000 in
theorem ar_load (h : ArAt w p x lim ps L) {off k : Nat} (hi : Inside ps off k) (hk : k = 1 ∨ k = 2 ∨ k = 4 ∨ k = 8) (O K : Int) (hO : O = off) (hK : K = k) (r : Int) (hr : (leN ((L.drop off).take k) : Int) = r) : Calls Try.prog 30 #[.pointer (some ⟨p, 0, none⟩), .int .i64 O, .int .i64 K] w fun e w' =>
    e = .returned (.tuple #[.int .u64 r, .int .i64 0]) ∧ ∃ m, w' = w.drewN m := by
  subst hr
  subst hO hK
  have hA := Lib.hid h
  obtain ⟨c0, c1, c2, c3, c4, c5, c6⟩ := h.cells
  clear h c0 c1 c3 c4 c5 c6
  go_enter Try.func30, Try.ntmps30
  go_wp2_with (first
    | (go_at_call 72; refine (word_yes hA.out hi hk _ _ (by first | rfl | omega) (by first | rfl | omega)).mono ?_; rintro e w' ⟨rfl, m1, rfl⟩)
    | (go_at_call 74; refine (load_in (hA.out.drewN _).mem off k hk (hA.out.inside hi)).mono ?_; rintro e w9 ⟨rfl, rfl⟩)
    | fail)
  go_ret2
  exact ⟨rfl, _, rfl⟩
set_option maxHeartbeats 1000000 in
theorem ar_equal (h : ArAt w p x lim ps L) {dst src k : Nat} (hi : Inside ps dst k) (hj : Inside ps src k) (D S K : Int) (hD : D = dst) (hS : S = src) (hK : K = k) (r : Bool) (hr : decide ((L.drop dst).take k = (L.drop src).take k) = r) : Calls Try.prog 23 #[.pointer (some ⟨p, 0, none⟩), .int .i64 D, .int .i64 S, .int .i64 K] w fun e w' =>
    e = .returned (.tuple #[.bool r, .int .i64 0]) ∧ ∃ m, w' = w.drewN m := by
  subst hr
  subst hD hS hK
  have hA := Lib.hid h
  obtain ⟨c0, c1, c2, c3, c4, c5, c6⟩ := h.cells
  clear h c0 c1 c3 c4 c5 c6
  have tok1 : True := trivial
  have tok2 : True := trivial
  go_enter Try.func23, Try.ntmps23
  go_wp2_with (first
    | (go_at_call 66; have _t := tok1; refine (good_yes hA.out hi _ _ (by first | rfl | omega) (by first | rfl | omega)).mono ?_; rintro e w' ⟨rfl, m1, rfl⟩; clear tok1)
    | (go_at_call 66; have _t := tok2; refine (good_yes (hA.out.drewN _) hj _ _ (by first | rfl | omega) (by first | rfl | omega)).mono ?_; rintro e w' ⟨rfl, m2, rfl⟩; clear tok2)
    | (go_at_call 68; refine (equal_in (hA.out.drewN _).mem dst src k (hA.out.inside hi) (hA.out.inside hj)).mono ?_; rintro e w9 ⟨rfl, m9, rfl⟩)
    | fail)
  go_ret2
  exact ⟨rfl, _, rfl⟩
theorem conv_bytes (w : World) (g k c : Nat) (X : List UInt8) (S : ByteArray) (hX : S.data.toList = X) (hl : X.length = k) (hb : Blk w g (bv X) 5) : (convert 131 9 (.slice (some ⟨g, 0, none⟩) k c)).run Try.prog w = .ok (.string S) w := by
  have h := run_convert_bytes_arg (P := Try.prog) w 131 5 Try.underlying131 Try.underlying5 g 0 k c (X.map fun b => (b.toNat : Int)) (by simp [hl]) (fun i hi => by
    rw [Nat.zero_add, hb.cell, bv_get?, List.getElem?_eq_getElem (by omega)]
    simp [List.getD, List.getElem?_eq_getElem (show i < X.length by omega)]) 9 Try.underlying9
  rw [h]
  have e : strOfNums (X.map fun b => (b.toNat : Int)) = S := by
    unfold strOfNums
    subst hX
    obtain ⟨⟨l⟩⟩ := S
    have e2 : ((fun n : Int => UInt8.ofNat n.toNat) ∘ fun b : UInt8 => (b.toNat : Int)) = id := by funext b; simp
    simp only [List.map_map, e2, List.map_id]
  rw [e]
set_option maxHeartbeats 1000000 in
theorem ar_read (h : ArAt w p x lim ps L) {off k : Nat} (hi : Inside ps off k) (O K : Int) (hO : O = off) (hK : K = k) (S : ByteArray) (hS : S.data.toList = (L.drop off).take k) : Calls Try.prog 25 #[.pointer (some ⟨p, 0, none⟩), .int .i64 O, .int .i64 K] w fun e w' =>
    e = .returned (.tuple #[.string S, .int .i64 0]) ∧ Below w.heap.size w w' := by
  subst hO hK
  have hA := Lib.hid h
  obtain ⟨c0, c1, c2, c3, c4, c5, c6⟩ := h.cells
  have hl : ((L.drop off).take k).length = k := by
    have := h.inside hi
    have := h.mem.le
    rw [List.length_take, List.length_drop]; omega
  clear h c0 c1 c3 c4 c5 c6
  have tok1 : True := trivial
  replace hS := Lib.hid hS
  replace hl := Lib.hid hl
  go_enter Try.func25, Try.ntmps25
  go_wp2_with (first
    | (go_at_call 66; have _t := tok1; refine (good_yes hA.out hi _ _ (by first | rfl | omega) (by first | rfl | omega)).mono ?_; rintro e w' ⟨rfl, m1, rfl⟩; clear tok1)
    | (go_at_call 70; refine (read_in (hA.out.drewN _).mem off k (hA.out.inside hi)).mono ?_; rintro e w9 ⟨rfl, hb9, hw9⟩; have hcv := conv_bytes w9 _ k k _ S hS.out hl.out hb9; simp only [World.heap_drewN] at hcv)
    | fail)
  go_ret2
  exact ⟨rfl, Below.then (below_drewN (Below.refl _ _) _) hw9⟩
end
end Go.Proofs.Ytpbalilnemjeeaa
