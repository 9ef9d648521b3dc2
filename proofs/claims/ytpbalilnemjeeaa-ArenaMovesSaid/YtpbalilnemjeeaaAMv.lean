/- What is proved here: an arena of the call's own beside a list of offsets; windows of bytes behind a store. No condition. -/
import Derived.Test.YtpbalilnemjeeaaARepeat
namespace Go.Proofs.Ytpbalilnemjeeaa
set_option linter.unusedVariables false
set_option linter.unusedSimpArgs false
open Go.RowKit Pm Pa Pl
namespace Pa
theorem window_in (L : List UInt8) (o d m : Nat) (cs : List UInt8) (h : d + cs.length ≤ m) (hL : o + m ≤ L.length) : ((splice L (o + d) cs).drop o).take m = splice ((L.drop o).take m) d cs := by
  have hl : ((L.drop o).take m).length = m := by rw [List.length_take, List.length_drop]; omega
  apply List.ext_getElem?
  intro i
  rw [List.getElem?_take, List.getElem?_drop]
  by_cases hi : i < m
  · rw [if_pos hi]
    by_cases hin : d ≤ i ∧ i < d + cs.length
    · rw [splice_in _ _ _ (by omega) _ (by omega) (by omega), splice_in _ _ _ (by rw [hl]; exact h) _ hin.1 hin.2, show o + i - (o + d) = i - d by omega]
    · have e1 : (splice ((L.drop o).take m) d cs)[i]? = ((L.drop o).take m)[i]? := splice_out _ _ _ (by rw [hl]; exact h) _ (by omega)
      rw [e1, splice_out _ _ _ (by omega) _ (by omega), List.getElem?_take, if_pos hi, List.getElem?_drop]
  · rw [if_neg hi]
    symm
    rw [List.getElem?_eq_none_iff, splice_len _ _ _ (by rw [hl]; exact h), hl]; omega
theorem window_out (L : List UInt8) (o d m : Nat) (cs : List UInt8) (h : d + cs.length ≤ o ∨ o + m ≤ d) (hL : d + cs.length ≤ L.length) : ((splice L d cs).drop o).take m = (L.drop o).take m := by
  apply List.ext_getElem?
  intro i
  rw [List.getElem?_take, List.getElem?_take, List.getElem?_drop, List.getElem?_drop]
  by_cases hi : i < m
  · rw [if_pos hi, if_pos hi, splice_out _ _ _ hL _ (by omega)]
  · rw [if_neg hi, if_neg hi]
theorem window_sub (L : List UInt8) (o m d k : Nat) (h : d + k ≤ m) : (L.drop (o + d)).take k = (((L.drop o).take m).drop d).take k := by
  apply List.ext_getElem?
  intro i
  rw [List.getElem?_take, List.getElem?_take, List.getElem?_drop, List.getElem?_drop, List.getElem?_take, List.getElem?_drop]
  by_cases hi : i < k
  · rw [if_pos hi, if_pos hi, if_pos (by omega), Nat.add_assoc]
  · rw [if_neg hi, if_neg hi]
theorem zero_window (L L0 : List UInt8) (e n o m : Nat) (h : L.take (e + n) = L0.take e ++ List.replicate n 0) (he : e ≤ L0.length) (ho : e ≤ o) (hm : o + m ≤ e + n) : (L.drop o).take m = List.replicate m 0 := by
  have hl : (L0.take e).length = e := by rw [List.length_take]; omega
  apply List.ext_getElem?
  intro i
  rw [List.getElem?_take, List.getElem?_drop, List.getElem?_replicate]
  by_cases hi : i < m
  · rw [if_pos hi, if_pos hi]
    have h1 : (L.take (e + n))[o + i]? = L[o + i]? := by rw [List.getElem?_take, if_pos (by omega)]
    rw [← h1, h, List.getElem?_append_right (by rw [hl]; omega), List.getElem?_replicate, if_pos (by rw [hl]; omega)]
  · rw [if_neg hi, if_neg hi]
end Pa
/-- the arena, and a list of three offsets in a block of its own -/
structure Mv (w0 : World) (p : Nat) (x : Loc) (lim : Nat) (ps : Parts) (g cap : Nat) (offs : List Nat) (L : List UInt8) (w : World) : Prop where
  me : AS w0 p x lim ps L w
  row : w.ownsRow w0.heap.size 3 1 (.slice (some ⟨g, 0, none⟩) 3 cap) 3 (ints offs)
  gq : g ≠ x.q
section
variable {w0 w w' : World} {p : Nat} {x : Loc} {lim : Nat} {ps : Parts} {g cap : Nat} {offs : List Nat} {L L' : List UInt8}
theorem Mv.keep (h : Mv w0 p x lim ps g cap offs L w) (hb : Below w.heap.size w w') : Mv w0 p x lim ps g cap offs L w' := ⟨h.me.keep hb, row_turn (S := []) h.row (Turns.of_below hb) (by simp), h.gq⟩
theorem Mv.drewN (h : Mv w0 p x lim ps g cap offs L w) (m : Nat) : Mv w0 p x lim ps g cap offs L (w.drewN m) := h.keep (below_drewN (Below.refl _ _) m)
theorem Mv.drew (h : Mv w0 p x lim ps g cap offs L w) : Mv w0 p x lim ps g cap offs L w.drew := h.keep (Below.refl _ _).drew
theorem Mv.alloc (h : Mv w0 p x lim ps g cap offs L w) (o : Obj) : Mv w0 p x lim ps g cap offs L (w.alloc o) := h.keep ((Below.refl _ _).alloc (Nat.le_refl _) o)
theorem Mv.wrote (h : Mv w0 p x lim ps g cap offs L w) (ha : AS w0 p x lim ps L' w') (ht : Turns [x.q] w w') : Mv w0 p x lim ps g cap offs L' w' :=
  ⟨ha, row_turn h.row ht (fun y hy hk => by simp [rows, Value.ownBlock] at hy hk; exact h.gq (by rw [← hy, hk])), h.gq⟩
theorem Mv.nth (h : Mv w0 p x lim ps g cap offs L w) (i : Nat) (hi : i < 3) (v : Nat) (hv : offs[i]? = some v) : w.cell? ⟨g, i, none⟩ = some (.int .i64 (v : Int)) := by
  rw [h.row.cellAt i (by omega)]
  simp [ints, hv]
theorem mv_write (h : Mv w0 p x lim ps g cap offs L w) (ss : List ByteArray) (A : Option Addr) (cc : Nat) (ha : StrsAt w A ss) (hl : ss.length ≤ 100000000) {off : Nat} {T : List UInt8} (hT : (ss.map fun s => s.data.toList).flatten = T)
    (hi : Inside ps off T.length) (O : Int) (hO : O = off) (N : Nat) (hN : ss.length = N) : Calls Try.prog 22 #[.pointer (some ⟨p, 0, none⟩), .int .i64 O, .slice A N cc] w fun e w' => e = .returned (.int .i64 0) ∧ Mv w0 p x lim ps g cap offs (splice L off T) w' := by
  refine (as_write h.me ss A cc ha hl hT hi O hO N hN).mono ?_
  rintro e w' ⟨rfl, h1, h2⟩
  exact ⟨rfl, h.wrote h1 h2⟩
theorem mv_fill (h : Mv w0 p x lim ps g cap offs L w) {off k : Nat} (hi : Inside ps off k) (c : UInt8) (O K : Int) (hO : O = off) (hK : K = k) : Calls Try.prog 26 #[.pointer (some ⟨p, 0, none⟩), .int .i64 O, .int .i64 K, .int .u8 (c.toNat : Int)] w fun e w' =>
    e = .returned (.int .i64 0) ∧ Mv w0 p x lim ps g cap offs (splice L off (List.replicate k c)) w' := by
  refine (ar_fill h.me.ar hi c O K hO hK).mono ?_
  rintro e w' ⟨rfl, h1, h2⟩
  exact ⟨rfl, h.wrote (h.me.wrote h2 h1) h2⟩
theorem mv_copy (h : Mv w0 p x lim ps g cap offs L w) {dst src k : Nat} (hi : Inside ps dst k) (hj : Inside ps src k) (D S K : Int) (hD : D = dst) (hS : S = src) (hK : K = k) : Calls Try.prog 24 #[.pointer (some ⟨p, 0, none⟩), .int .i64 D, .int .i64 S, .int .i64 K] w fun e w' =>
    e = .returned (.int .i64 0) ∧ Mv w0 p x lim ps g cap offs (splice L dst ((L.drop src).take k)) w' := by
  refine (ar_copy h.me.ar hi hj D S K hD hS hK).mono ?_
  rintro e w' ⟨rfl, h1, h2⟩
  exact ⟨rfl, h.wrote (h.me.wrote h2 h1) h2⟩
theorem mv_equal (h : Mv w0 p x lim ps g cap offs L w) {dst src k : Nat} (hi : Inside ps dst k) (hj : Inside ps src k) (D S K : Int) (hD : D = dst) (hS : S = src) (hK : K = k) (r : Bool) (hr : decide ((L.drop dst).take k = (L.drop src).take k) = r) : Calls Try.prog 23 #[.pointer (some ⟨p, 0, none⟩), .int .i64 D, .int .i64 S, .int .i64 K] w fun e w' =>
    e = .returned (.tuple #[.bool r, .int .i64 0]) ∧ Mv w0 p x lim ps g cap offs L w' := by
  refine (ar_equal h.me.ar hi hj D S K hD hS hK r hr).mono ?_
  rintro e w' ⟨rfl, m, rfl⟩
  exact ⟨rfl, h.drewN m⟩
theorem mv_read (h : Mv w0 p x lim ps g cap offs L w) {off k : Nat} (hi : Inside ps off k) (O K : Int) (hO : O = off) (hK : K = k) (S : ByteArray) (hS : S.data.toList = (L.drop off).take k) : Calls Try.prog 25 #[.pointer (some ⟨p, 0, none⟩), .int .i64 O, .int .i64 K] w fun e w' =>
    e = .returned (.tuple #[.string S, .int .i64 0]) ∧ Mv w0 p x lim ps g cap offs L w' := by
  refine (ar_read h.me.ar hi O K hO hK S hS).mono ?_
  rintro e w' ⟨rfl, h1⟩
  exact ⟨rfl, h.keep h1⟩
theorem mv_repeat (h : Mv w0 p x lim ps g cap offs L w) (b : UInt8) (n : Nat) (hn : n ≤ 4096) (S : ByteArray) (hS : S.data.toList = List.replicate n b) (B N : Int) (hB : B = b.toNat) (hN : N = n) :
    Calls Try.prog 27 #[.int .u8 B, .int .i64 N] w fun e w' => e = .returned (.string S) ∧ Mv w0 p x lim ps g cap offs L w' := by
  refine (repeat_to b n hn S hS w B N hB hN).mono ?_
  rintro e w' ⟨rfl, h1⟩
  exact ⟨rfl, h.keep h1⟩
/-- AllocAll of three sizes, in a new arena -/
theorem mv_allocs (h : AS w0 p x lim [] L w) (n0 c : Nat) (hn : 1 ≤ n0 ∧ n0 ≤ 1048576) (hc : clsN (n0 : Int) = c) (hl : 32 + c ≤ lim) (A : Nat) (hA : IntsIn w (some ⟨A, 0, none⟩) [16, (n0 : Int), 16]) (hAp : ¬ A ∈ x.all p) :
    Calls Try.prog 21 #[.pointer (some ⟨p, 0, none⟩), .slice (some ⟨A, 0, none⟩) 3 3] w fun e w' => ∃ x' L' g cap, e = .returned (.tuple #[.slice (some ⟨g, 0, none⟩) 3 cap, .int .i64 0]) ∧
      Mv w0 p x' lim [(16, true), (c, true), (16, true)] g cap [16, 32, 32 + c] L' w' ∧ L'.take (16 + (32 + c)) = L.take 16 ++ List.replicate (32 + c) 0 := by
  have c16 : clsN 16 = 16 := by unfold clsN; rw [cls16 (by decide) (by decide)]; rfl
  have hnd : need [16, (n0 : Int), 16] = 32 + c := by simp [need, c16, hc]; omega
  have hnw : news [16, (n0 : Int), 16] = [(16, true), (c, true), (16, true)] := by simp [news, c16, hc]
  have hcb := (clsN_is (n := (n0 : Int)) (by omega)).2
  rw [hc] at hcb
  refine (allocs_yes h.ar (by intro a ha; cases ha) [16, (n0 : Int), 16] _ 3 hA (fun g o e => by cases e; exact hAp) (by intro n hm; simp at hm; omega) (by rw [hnd]; simp [liveSum]; omega) (by rw [hnd]; simp [endOf, total]; have := h.ar.lm; omega) 3 rfl).mono ?_
  rintro e w' ⟨v, x', L', rfl, h1, h2, h3, h4, h5, h6⟩
  obtain ⟨g, cap, rfl⟩ := ownsRow_succ (k := 2) h5
  refine ⟨x', L', g, cap, rfl, ⟨h.turned h3 (by rw [hnw] at h1; exact h1) h4, ?_, ?_⟩, ?_⟩
  · have h7 := h5.mono (base' := w0.heap.size) h.below.size
    rw [hnw] at h7
    have e : startsFrom (endOf []) [(16, true), (c, true), (16, true)] = [16, 32, 32 + c] := by simp [startsFrom, endOf, total]
    rw [e] at h7
    exact h7
  · intro e
    exact h6 g (by simp [rows, Value.ownBlock]) (by rw [e]; simp [Loc.all])
  · rw [hnd] at h2; exact h2
end
end Go.Proofs.Ytpbalilnemjeeaa
