/- What is proved here: Place of a directory. Conditions: the directory is there. -/
import Derived.Test.YtpbalilnemjeeaaDRun
namespace Go.Proofs.Ytpbalilnemjeeaa
set_option linter.unusedVariables false
set_option linter.unusedSimpArgs false
open Go.RowKit Pm Pa Pl Pd
def putN (es : List Int) (f : Nat) : Nat → Int → List Int
  | 0, _ => es
  | k + 1, t => (putN es f k t).set (f + k) t
theorem putN_len (es : List Int) (f k : Nat) (t : Int) : (putN es f k t).length = es.length := by
  induction k with
  | zero => rfl
  | succ k ih => unfold putN; rw [List.length_set, ih]
theorem putN_get (es : List Int) (f k : Nat) (t : Int) (j : Nat) : (putN es f k t)[j]? = if f ≤ j ∧ j < f + k ∧ j < es.length then some t else es[j]? := by
  induction k with
  | zero => rw [if_neg (by omega)]; rfl
  | succ k ih =>
    unfold putN
    rw [List.getElem?_set, putN_len]
    by_cases e : f + k = j
    · subst e
      rw [if_pos rfl]
      by_cases h : f + k < es.length
      · rw [if_pos h, if_pos (by omega)]
      · rw [if_neg h, if_neg (by omega), List.getElem?_eq_none (by omega)]
    · rw [if_neg e, ih]
      by_cases h : f ≤ j ∧ j < f + k ∧ j < es.length
      · rw [if_pos h, if_pos (by omega)]
      · rw [if_neg h, if_neg (by omega)]
theorem DirAt.put {ps : Parts} {L : List UInt8} {off d : Nat} {es : List Int} (hD : DirAt ps L off d es) (i : Nat) (hi : i < 2 ^ d) (t : Int) (ht : isI t) (hl : ∀ j, j < 2 ^ d → off + 8 * j + 8 ≤ L.length) : DirAt ps (splice L (off + 8 * i) (leB 8 (uN t))) off d (es.set i t) := by
  have hli := hl i hi
  have hll : (leB 8 (uN t)).length = 8 := leB_len 8 _
  refine ⟨by rw [List.length_set, hD.len], hD.dl, fun e he => ?_, hD.ins, fun j e he => ?_, hD.ob⟩
  · rcases List.mem_or_eq_of_mem_set he with h | h
    · exact hD.rng e h
    · rw [h]; exact ht
  · rw [List.getElem?_set] at he
    by_cases hj : i = j
    · subst hj
      rw [if_pos rfl, if_pos (by rw [hD.len]; exact hi)] at he
      cases he
      have := splice_mid L (off + 8 * i) (leB 8 (uN t)) (by rw [hll]; exact hli)
      rw [hll] at this
      exact this
    · rw [if_neg hj] at he
      rw [← hD.wd j e he]
      have hjl : j < 2 ^ d := by rw [← hD.len]; exact (List.getElem?_eq_some_iff.1 he).1
      refine List.ext_getElem? fun m => ?_
      rw [List.getElem?_take, List.getElem?_take, List.getElem?_drop, List.getElem?_drop]
      by_cases hm : m < 8
      · rw [if_pos hm, if_pos hm]
        exact splice_out L _ _ (by rw [hll]; exact hli) _ (by rw [hll]; omega)
      · rw [if_neg hm, if_neg hm]
theorem run_in {i s d : Nat} (hi : i < 2 ^ d) (hs : s ≤ d) : i / 2 ^ s * 2 ^ s + 2 ^ s ≤ 2 ^ d := by
  have h1 : i / 2 ^ s < 2 ^ (d - s) := by
    rw [Nat.div_lt_iff_lt_mul (Nat.two_pow_pos _), ← Nat.pow_add, show d - s + s = d by omega]
    exact hi
  have h2 : (i / 2 ^ s + 1) * 2 ^ s ≤ 2 ^ (d - s) * 2 ^ s := Nat.mul_le_mul_right _ h1
  rw [← Nat.pow_add, show d - s + s = d by omega, Nat.add_mul, Nat.one_mul] at h2
  exact h2
set_option maxHeartbeats 4000000 in
set_option maxRecDepth 100000 in
theorem dir_place {w : World} {p : Nat} {x : Loc} {lim : Nat} {ps : Parts} {L : List UInt8} (h : ArAt w p x lim ps L) {off d : Nat} {es : List Int} (hD : DirAt ps L off d es) (i s : Nat) (hi : i < 2 ^ d) (I D T : Int) (hI : I = i) (hs : (d : Int) = D + s) (hD0 : 0 ≤ D) (hT : isI T) :
    Calls Try.prog 57 #[dirV p off d, .int .i64 I, .int .i64 D, .int .i64 T] w fun r w' => r = .returned (.int .i64 0) ∧ ∃ L', ArAt w' p x lim ps L' ∧ DirAt ps L' off d (putN es (i / 2 ^ s * 2 ^ s) (2 ^ s) T) ∧ Turns (x.all p) w w' := by
  have hdl := hD.dl
  have hob := hD.ob
  have hlen := hD.len
  have hsd : s ≤ d := by omega
  have hrn := run_in hi hsd
  have hN64 : 2 ^ d ≤ 64 := pow64 hdl
  have hrun := fun w => dir_run w p off d hdl I D i s hi hI hs hD0
  obtain ⟨F, hF⟩ : ∃ F : Nat, Hid (F = i / 2 ^ s * 2 ^ s) := ⟨_, rfl⟩
  obtain ⟨N, hN⟩ : ∃ N : Nat, Hid (N = 2 ^ s) := ⟨_, rfl⟩
  obtain ⟨M, hM⟩ : ∃ M : Nat, Hid (M = 2 ^ d) := ⟨_, rfl⟩
  rw [← hF.out, ← hN.out, ← hM.out] at hrn
  rw [← hF.out, ← hN.out]
  simp only [← hF.out] at hrun
  simp only [← hN.out] at hrun
  rw [← hM.out] at hN64 hlen
  have hK := Blk.new w #[.pointer (some ⟨p, 0, none⟩), .int .i64 (off : Int), .int .i64 (d : Int)] 92
  have hg4 : ¬ w.heap.size ∈ x.all p := fun hk => Nat.lt_irrefl _ (h.lt _ hk)
  have hA := h.alloc (.cells #[.pointer (some ⟨p, 0, none⟩), .int .i64 (off : Int), .int .i64 (d : Int)] 92)
  have hT0 : Turns (x.all p) w (w.alloc (.cells #[.pointer (some ⟨p, 0, none⟩), .int .i64 (off : Int), .int .i64 (d : Int)] 92)) := (Turns.refl _ w).alloc _
  clear h
  replace hD := Lib.hid hD
  replace hrun := Lib.hid hrun
  replace hlen := Lib.hid hlen
  replace hT := Lib.hid hT
  clear hs hI
  unfold dirV
  go_enter Try.func57, Try.ntmps57
  go_upto_region 1 with (fail)
  generalize World.alloc w _ = wa at hK hA hT0 ⊢
  obtain ⟨g4, hg4e⟩ : ∃ g, Hid (g = w.heap.size) := ⟨_, rfl⟩
  rw [← hg4e.out] at hK hg4 ⊢
  have c0 := hK.cell 0
  have c1 := hK.cell 1
  have c2 := hK.cell 2
  replace hK := Lib.hid hK
  replace hA := Lib.hid hA
  replace hT0 := Lib.hid hT0
  replace hg4 := Lib.hid hg4
  go_upto_region 5 with (first
    | (go_at_call 56; refine (hrun.out _).mono ?_; rintro r w1 ⟨rfl, hb⟩; replace hK := Lib.hid (hK.out.keep hb); replace hA := Lib.hid (hA.out.keep hb); replace hT0 := Lib.hid (hT0.out.thenB hb); clear c0 c1 c2 hb)
    | fail)
  go_loopw [29] (fun a29 wr => ∃ k : Nat, k ≤ N ∧ a29 = .int .i64 (k : Int) ∧ Hid (ArAt wr p x lim ps L) ∧ Hid (Turns (x.all p) w wr) ∧ Hid (Blk wr g4 #[.pointer (some ⟨p, 0, none⟩), .int .i64 (off : Int), .int .i64 (d : Int)] 92)) (fun i _ => (N - (intOf i).toNat))
  case atStart => exact ⟨0, Nat.zero_le _, rfl, hA, hT0, hK⟩
  case round =>
    obtain ⟨k, hk, rfl, hA, hT0, hK⟩ := hrel
    have c0 := hK.out.cell 0
    have c1 := hK.out.cell 1
    have c2 := hK.out.cell 2
    by_cases hlt : k < N
    · have k0 : (k : Int) < N := by omega
      obtain ⟨e, he⟩ : ∃ e, Hid (es[F + k]? = some e) := ⟨_, List.getElem?_eq_getElem (by rw [hlen.out]; omega)⟩
      have hFk : F + k < 2 ^ d := by rw [← hM.out]; omega
      go_wp2_with (first
        | (go_at_call 88; refine (dir_word' hA.out off d (F + k) e (hD.out.ins _ hFk) (by omega) (hD.out.wd _ e he.out) (hD.out.rng e (List.mem_of_getElem? he.out)) _ _ rfl (by omega)).mono ?_; rintro r w2 ⟨rfl, hb2⟩)
        | fail)
      go_roundw
      case rel => exact ⟨k + 1, by omega, by go_num, hA.out.keep hb2, hT0.out.thenB hb2, hK.out.keep hb2⟩
      case measure => simp [intOf]; omega
    · obtain rfl : k = N := by omega
      clear c0 c1 c2
      go_upto_region 12 with (fail)
      go_loopw [45] (fun a45 ws => ∃ (m : Nat) (Lm : List UInt8), m ≤ k ∧ a45 = .int .i64 (m : Int) ∧ Hid (ArAt ws p x lim ps Lm) ∧ Hid (DirAt ps Lm off d (putN es F m T)) ∧ Hid (Turns (x.all p) w ws) ∧ Hid (Blk ws g4 #[.pointer (some ⟨p, 0, none⟩), .int .i64 (off : Int), .int .i64 (d : Int)] 92)) (fun i _ => (k - (intOf i).toNat))
      case atStart => exact ⟨0, L, Nat.zero_le _, rfl, hA, hD, hT0, hK⟩
      case round =>
        obtain ⟨m, Lm, hm, rfl, hA, hD, hT0, hK⟩ := hrel
        by_cases hlt2 : m < k
        · have c0 := hK.out.cell 0
          have c1 := hK.out.cell 1
          have c2 := hK.out.cell 2
          have k0 : (m : Int) < k := by omega
          have hFk : F + m < 2 ^ d := by rw [← hM.out]; omega
          go_wp2_with (first
            | (go_at_call 86; refine (dir_set' hA.out off d (F + m) T (hD.out.ins _ hFk) (by omega) _ _ rfl (by omega)).mono ?_; rintro r w2 ⟨rfl, h2, t2⟩)
            | fail)
          go_roundw
          case rel =>
            refine ⟨m + 1, _, by omega, by go_num, h2, ?_, hT0.out.next t2 (fun y hy => .inl ?_), hK.out.turn t2 (fun hk => ?_)⟩
            · exact hD.out.put (F + m) hFk T hT.out (fun j hj => by have h1 := hA.out.inside (hD.out.ins j hj); have h2 := hA.out.mem.le; omega)
            · simp only [List.mem_singleton] at hy; subst hy; exact ArAt.q_all x p _ (by simp)
            · simp only [List.mem_singleton] at hk; exact hg4.out (by rw [hk]; exact ArAt.q_all x p _ (by simp))
          case measure => simp [intOf]; omega
        · obtain rfl : m = k := by omega
          go_wp2_with fail
          go_ret
          exact ⟨rfl, Lm, hA.out, hD.out, hT0.out⟩
theorem dir_place_no (w : World) (p off d : Nat) (hdl : d ≤ 6) (I D T : Int) (hout : I < 0 ∨ ((2 ^ d : Nat) : Int) ≤ I ∨ D < 0 ∨ (d : Int) < D) :
    Calls Try.prog 57 #[dirV p off d, .int .i64 I, .int .i64 D, .int .i64 T] w fun r w' => r = .returned (.int .i64 101) ∧ Below w.heap.size w w' := by
  have hrun := Lib.hid (fun w => dir_run_out w p off d hdl I D hout)
  clear hout
  unfold dirV
  have hB := (Below.refl w.heap.size w).alloc (Nat.le_refl _) (.cells #[.pointer (some ⟨p, 0, none⟩), .int .i64 (off : Int), .int .i64 (d : Int)] 92)
  go_enter Try.func57, Try.ntmps57
  go_wp2_with (first
    | (go_at_call 56; refine (hrun.out _).mono ?_; rintro r w1 ⟨rfl, hb⟩; replace hB := Below.then hB hb)
    | fail)
  go_ret
  exact ⟨rfl, hB⟩
end Go.Proofs.Ytpbalilnemjeeaa
