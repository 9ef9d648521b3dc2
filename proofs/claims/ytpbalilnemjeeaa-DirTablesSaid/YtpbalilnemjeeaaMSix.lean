/- What is proved here: the contract of a memory's Write. Conditions: a memory that is there, parts that lie in other blocks, whose lengths add up to an int. -/
import Derived.Test.YtpbalilnemjeeaaMFive
namespace Go.Proofs.Ytpbalilnemjeeaa
set_option linter.unusedVariables false
set_option linter.unusedSimpArgs false
open Go.RowKit Pm
/-- a slice value that reads as these bytes, outside block q -/
def PartAt (w : World) (q : Nat) (v : Value) (s : List UInt8) : Prop :=
  ∃ A c, v = .slice A s.length c ∧ (0 < s.length → ∃ g o, A = some ⟨g, o, none⟩ ∧ g ≠ q ∧ ∀ j b, s[j]? = some b → w.cell? ⟨g, o + j, none⟩ = some (.int .u8 (b.toNat : Int)))
/-- a row of such slices -/
def PartsAt (w : World) (q : Nat) (PA : Option Addr) (ps : List (List UInt8)) : Prop :=
  ∀ i s, ps[i]? = some s → ∃ g o v, PA = some ⟨g, o, none⟩ ∧ g ≠ q ∧ w.cell? ⟨g, o + i, none⟩ = some v ∧ PartAt w q v s
theorem turn_cell {S : List Nat} {w w1 : World} (h : Turns S w w1) {g o : Nat} {v : Value} (hg : ¬ g ∈ S) (hc : w.cell? ⟨g, o, none⟩ = some v) : w1.cell? ⟨g, o, none⟩ = some v := by
  have hlt := World.block_lt_of_cell? w _ hc
  have e := h.block g hlt hg
  have : w1.cell? ⟨g, o, none⟩ = w.cell? ⟨g, o, none⟩ := by unfold World.cell?; simp only [e]
  rw [this]; exact hc
theorem PartAt.turn {w w1 : World} {q : Nat} {v : Value} {s : List UInt8} (h : PartAt w q v s) (ht : Turns [q] w w1) : PartAt w1 q v s := by
  obtain ⟨A, c, rfl, hp⟩ := h
  refine ⟨A, c, rfl, fun h0 => ?_⟩
  obtain ⟨g, o, rfl, hq, hc⟩ := hp h0
  exact ⟨g, o, rfl, hq, fun j b hb => turn_cell ht (by simp; exact hq) (hc j b hb)⟩
theorem PartsAt.turn {w w1 : World} {q : Nat} {PA : Option Addr} {ps : List (List UInt8)} (h : PartsAt w q PA ps) (ht : Turns [q] w w1) : PartsAt w1 q PA ps := by
  intro i s hs
  obtain ⟨g, o, v, rfl, hq, hc, hp⟩ := h i s hs
  exact ⟨g, o, v, rfl, hq, turn_cell ht (by simp; exact hq) hc, hp.turn ht⟩
theorem flat_succ (ps : List (List UInt8)) (i : Nat) (s : List UInt8) (h : ps[i]? = some s) : (ps.take (i + 1)).flatten = (ps.take i).flatten ++ s := by
  rw [List.take_add_one, h]; simp
theorem flat_le (ps : List (List UInt8)) (i : Nat) : (ps.take i).flatten.length ≤ ps.flatten.length := by
  have h : (ps.take i).flatten ++ (ps.drop i).flatten = ps.flatten := by rw [← List.flatten_append, List.take_append_drop]
  rw [← h]; simp
section
variable {w : World} {p q n : Nat} {L : List UInt8}
set_option maxHeartbeats 1000000 in
set_option maxRecDepth 100000 in
theorem write_out (h : MemAt w p q L n) (off : Int) (PA : Option Addr) (pc : Nat) (ps : List (List UInt8)) (hps : PartsAt w q PA ps) (hm : ps.length ≤ 4611686018427387904) (hT : ps.flatten.length ≤ 4611686018427387904) (hi : insF n off ps.flatten.length = false) :
    Calls Try.prog 67 #[.pointer (some ⟨p, 0, none⟩), .int .i64 off, .slice PA ps.length pc] w fun e w' => e = .returned (.int .i64 11) ∧ w = w' := by
  replace h := Lib.hid h
  replace hi := Lib.hid hi
  go_enter Try.func67, Try.ntmps67
  go_wp2_with fail
  go_loop [7, 14] (fun s i => ∃ j : Nat, j ≤ ps.length ∧ i = .int .i64 j ∧ s = .int .i64 (ps.take j).flatten.length) (fun _ i => (ps.length - (intOf i).toNat))
  case atStart => exact ⟨0, by omega, rfl, by simp⟩
  case round =>
    obtain ⟨j, hj, rfl, rfl⟩ := hrel
    by_cases hlt : j < ps.length
    · obtain ⟨s, hs⟩ : ∃ s, Hid (ps[j]? = some s) := ⟨_, List.getElem?_eq_getElem hlt⟩
      obtain ⟨g, o, v, rfl, hq, hc, A, c, rfl, hpp⟩ := hps j s hs.out
      have hF := Lib.hid (flat_succ ps j s hs.out)
      have hb1 : (ps.take j).flatten.length + s.length ≤ 4611686018427387904 := by
        have := flat_le ps (j + 1); rw [hF.out, List.length_append] at this; omega
      replace hpp := Lib.hid hpp
      obtain ⟨T, hT2⟩ : ∃ T, Hid (T = (ps.take j).flatten.length) := ⟨_, rfl⟩
      rw [← hT2.out] at hb1
      rw [← hT2.out]
      go_wp2_with fail
      go_round
      case rel => exact ⟨j + 1, by omega, by go_num, by rw [hF.out, List.length_append, ← hT2.out]; go_num⟩
      case measure => simp [intOf]; omega
    · have hje : j = ps.length := by omega
      have he : Hid ((ps.take j).flatten.length = ps.flatten.length) := by unfold Hid; rw [List.take_of_length_le (by omega)]
      obtain ⟨T, hT2⟩ : ∃ T, Hid (T = ps.flatten.length) := ⟨_, rfl⟩
      have hi' : Hid (insF n off (T : Int) = false) := by rw [hT2.out]; exact hi.out
      have hT' : T ≤ 4611686018427387904 := by rw [hT2.out]; exact hT
      rw [he.out, ← hT2.out]
      clear hje hT
      go_wp2_with (go_at_call 104; (with_reducible refine (inside_to h.out off _ false hi'.out).mono ?_); rintro e w' ⟨rfl, rfl⟩)
      go_ret
      exact ⟨rfl, rfl⟩
set_option maxHeartbeats 2000000 in
set_option maxRecDepth 100000 in
theorem write_in (h : MemAt w p q L n) (off : Nat) (PA : Option Addr) (pc : Nat) (ps : List (List UInt8)) (hps : PartsAt w q PA ps) (hm : ps.length ≤ 4611686018427387904) (hi : off + ps.flatten.length ≤ n) :
    Calls Try.prog 67 #[.pointer (some ⟨p, 0, none⟩), .int .i64 off, .slice PA ps.length pc] w fun e w' => e = .returned (.int .i64 0) ∧ MemAt w' p q (splice L off ps.flatten) n ∧ Turns [q] w w' := by
  have hn : n ≤ L.length := h.le
  have hn2 : L.length ≤ 134217728 := h.cap
  have hne := Lib.hid h.ne
  have hT : ps.flatten.length ≤ 4611686018427387904 := by omega
  replace h := Lib.hid h
  have hi2 := Lib.hid hi
  clear hi
  go_enter Try.func67, Try.ntmps67
  go_wp2_with fail
  go_loop [7, 14] (fun s i => ∃ j : Nat, j ≤ ps.length ∧ i = .int .i64 j ∧ s = .int .i64 (ps.take j).flatten.length) (fun _ i => (ps.length - (intOf i).toNat))
  case atStart => exact ⟨0, by omega, rfl, by simp⟩
  case round =>
    obtain ⟨j, hj, rfl, rfl⟩ := hrel
    by_cases hlt : j < ps.length
    · obtain ⟨s, hs⟩ : ∃ s, Hid (ps[j]? = some s) := ⟨_, List.getElem?_eq_getElem hlt⟩
      obtain ⟨g, o, v, rfl, hq, hc, A, c, rfl, hpp⟩ := hps j s hs.out
      have hF := Lib.hid (flat_succ ps j s hs.out)
      have hb1 : (ps.take j).flatten.length + s.length ≤ 4611686018427387904 := by
        have := flat_le ps (j + 1); rw [hF.out, List.length_append] at this; omega
      replace hpp := Lib.hid hpp
      obtain ⟨T, hT2⟩ : ∃ T, Hid (T = (ps.take j).flatten.length) := ⟨_, rfl⟩
      rw [← hT2.out] at hb1
      rw [← hT2.out]
      go_wp2_with fail
      go_round
      case rel => exact ⟨j + 1, by omega, by go_num, by rw [hF.out, List.length_append, ← hT2.out]; go_num⟩
      case measure => simp [intOf]; omega
    · have hje : j = ps.length := by omega
      have he : Hid ((ps.take j).flatten.length = ps.flatten.length) := by unfold Hid; rw [List.take_of_length_le (by omega)]
      obtain ⟨T, hT2⟩ : ∃ T, Hid (T = ps.flatten.length) := ⟨_, rfl⟩
      have hi' : off + T ≤ n := by rw [hT2.out]; exact hi2.out
      rw [he.out, ← hT2.out]
      clear hje hT
      go_wp2_with (go_at_call 104; (with_reducible refine (inside_to h.out off T true (ins_true (by omega) (by omega) (by omega))).mono ?_); rintro e w' ⟨rfl, rfl⟩)


      go_loopw [1, 30] (fun s i wr => ∃ j : Nat, j ≤ ps.length ∧ i = .int .i64 j ∧ s = .int .i64 ((off + (ps.take j).flatten.length : Nat) : Int) ∧ MemAt wr p q (splice L off (ps.take j).flatten) n ∧ Turns [q] w wr) (fun _ i _ => (ps.length - (intOf i).toNat))
      case atStart => exact ⟨0, by omega, rfl, by simp, by simpa [splice_nil] using h.out, Turns.refl _ _⟩
      case round =>
        obtain ⟨j, hj, rfl, rfl, hm2, ht⟩ := hrel
        replace ht := Lib.hid ht
        by_cases hlt : j < ps.length
        · obtain ⟨s, hs⟩ : ∃ s, Hid (ps[j]? = some s) := ⟨_, List.getElem?_eq_getElem hlt⟩
          obtain ⟨g, o, v, rfl, hq, hc, A, c, rfl, hpp⟩ := (hps.turn ht.out) j s hs.out
          replace hpp := Lib.hid hpp
          have hF := Lib.hid (flat_succ ps j s hs.out)
          have hb1 : off + (ps.take j).flatten.length + s.length ≤ n := by
            have := flat_le ps (j + 1); rw [hF.out, List.length_append] at this; have := hi2.out; omega
          have hlen := Lib.hid (splice_len L off (ps.take j).flatten (by omega))
          have hnx := Lib.hid (splice_splice_next L off (ps.take j).flatten s (by omega))
          obtain ⟨T2, hT3⟩ : ∃ T2, Hid (T2 = off + (ps.take j).flatten.length) := ⟨_, rfl⟩
          obtain ⟨D, hD⟩ : ∃ D, Hid (D = splice L off (ps.take j).flatten) := ⟨_, rfl⟩
          rw [← hD.out] at hm2
          rw [← hD.out, ← hT3.out, ← hF.out] at hnx
          rw [← hD.out] at hlen
          rw [← hT3.out] at hb1
          rw [← hT3.out]
          have hmc := hm2.ptrc
          have hD2 : D.length = L.length := hlen.out
          rw [hD2] at hmc
          have hdat := Lib.hid hm2.dat
          have hpp2 := Lib.hid hm2.ptr
          replace hm2 := Lib.hid hm2
          replace hD2 := Lib.hid hD2
          by_cases hs0 : s.length = 0
          · obtain rfl : s = [] := List.eq_nil_of_length_eq_zero hs0
            have hz : L.length = T2 ∨ ¬ L.length = T2 := by omega
            clear hs0
            rcases hz with rfl | hz
            all_goals
              go_wp2_with (((with_reducible show wpList _ _ _ (⟨some 42, _, _, _, _, _⟩ :: _) _ _); refine wpList_copy_bytes rfl (.tmp 40) (.tmp 41) rfl _ _ _ _ _ _ rfl rfl q 0 D [] hdat.out (by simp [Nat.min_def]) ⟨q, 0, none⟩ (fun h0 => absurd h0 (by simp)) (fun h0 => absurd h0 (by simp)) (fun j b hb => by simp at hb) (by simp) ?_; intro w2 hb ht2; replace hb := Lib.hid hb; replace ht2 := Lib.hid ht2))
              go_roundw
              case rel =>
                have hb' := hb.out
                rw [splice_nil] at hb'
                have e1 : (ps.take (j + 1)).flatten = (ps.take j).flatten := by rw [hF.out, List.append_nil]
                refine ⟨j + 1, by omega, by go_num, by rw [e1, ← hT3.out], ?_, ht.out.next ht2.out (fun x hx => Or.inl hx)⟩
                rw [e1, ← hD.out]
                exact ⟨hpp2.out.turn ht2.out (by have := hne.out; simp; exact this), hb', hne.out, hm2.out.le, hm2.out.cap, hm2.out.zer⟩
              case measure => simp [intOf]; omega
          · obtain ⟨g2, o2, rfl, hq2, hcs⟩ := hpp.out (by omega)
            have hz : ¬ L.length = T2 := by omega
            have hsrc : Hid (∀ j b, s[j]? = some b → wr.cell? ((⟨g2, o2, none⟩ : Addr).add j) = some (.int .u8 (b.toNat : Int))) := by
              intro j b hb
              have e : (⟨g2, o2, none⟩ : Addr).add j = ⟨g2, o2 + j, none⟩ := by unfold Addr.add; split <;> simp_all
              rw [e]; exact hcs j b hb
            clear hcs
            go_wp2_with (((with_reducible show wpList _ _ _ (⟨some 42, _, _, _, _, _⟩ :: _) _ _); refine wpList_copy_bytes rfl (.tmp 40) (.tmp 41) rfl _ _ _ _ _ _ rfl rfl q T2 D s hdat.out (by simp only [Nat.min_def]; split <;> omega) ⟨g2, o2, none⟩ (fun _ => rfl) (fun _ => rfl) hsrc.out (by have := hD2.out; omega) ?_; intro w2 hb ht2; replace hb := Lib.hid hb; replace ht2 := Lib.hid ht2))
            go_roundw
            case rel =>
              have hm3 := hm2.out.spliced T2 s hb1 (hpp2.out.turn ht2.out (by have := hne.out; simp; exact this)) hb.out
              rw [hnx.out] at hm3
              exact ⟨j + 1, by omega, by go_num, by rw [hF.out, List.length_append]; have := hT3.out; go_num, hm3, ht.out.next ht2.out (fun x hx => Or.inl hx)⟩
            case measure => simp [intOf]; omega
        · have hje : j = ps.length := by omega
          have he2 : Hid (MemAt wr p q (splice L off ps.flatten) n) := by
            rw [List.take_of_length_le (by omega)] at hm2; exact hm2
          clear hje hm2
          go_wp2_with fail
          go_ret
          exact ⟨rfl, he2.out, ht.out⟩
end
end Go.Proofs.Ytpbalilnemjeeaa
