/- What is proved here: the walk of the law MemNews. The numbers are ints. -/
import Derived.Test.YtkchhggbiopffaaMMade
import Derived.WalkSpells
namespace Go.Proofs.Ytkchhggbiopffaa
set_option linter.unusedVariables false
set_option linter.unusedSimpArgs false
open Go.RowKit Pm
set_option maxHeartbeats 1000000 in
set_option maxRecDepth 100000 in
theorem news_all (size p : Int) (w : World) : Calls Try.prog 3 #[.int .i64 size, .int .i64 p] w fun e w' => e = .returned (.bool true) ∧ Below w.heap.size w w' := by
  have hnil := fun (w : World) => Lib.run_eql_slice_nil (P := Try.prog) w 27 5 none 0 0 0 0 Try.underlying27
  by_cases hs : size < 0 ∨ 134217728 < size
  · rcases hs with hs | hs
    · go_enter Try.func3, Try.ntmps3
      go_wp2_with (go_at_call 13; (with_reducible refine (new_no size _ (Or.inl (by omega))).mono ?_); rintro e w' ⟨rfl, rfl⟩)
      go_ret
      exact ⟨rfl, Below.refl _ _⟩
    · have h0 : ¬ size < 0 := by omega
      go_enter Try.func3, Try.ntmps3
      go_wp2_with (go_at_call 13; (with_reducible refine (new_no size _ (Or.inr (by omega))).mono ?_); rintro e w' ⟨rfl, rfl⟩)
      go_ret
      exact ⟨rfl, Below.refl _ _⟩
  · obtain ⟨s, rfl⟩ := Int.eq_ofNat_of_zero_le (by omega : 0 ≤ size)
    have hs2 : s ≤ 134217728 := by omega
    clear hs
    go_enter Try.func3, Try.ntmps3
    go_wp2_with fail
    refine (new_yes s _ hs2).mono ?_
    rintro e w1 ⟨rfl, hm, hb⟩
    have hM : MS w (w.heap.size + 1) w.heap.size (List.replicate s 0) s w1 := ⟨hb, hm, by omega, Nat.le_refl _⟩
    clear hm hb
    replace hM := Lib.hid hM
    by_cases hp : 0 ≤ p ∧ p < s
    · obtain ⟨h0, h1⟩ := hp
      obtain ⟨j, rfl⟩ := Int.eq_ofNat_of_zero_le h0
      have hone : Hid (((List.replicate s (0 : UInt8)).drop j).take 1 = [0]) := by
        unfold Hid; rw [List.drop_replicate, List.take_replicate, Nat.min_eq_left (by omega)]; rfl
      go_wp2_with (first | (go_at_call 14; (with_reducible refine (len_any hM.out.mem).mono ?_); rintro e w' ⟨rfl, rfl⟩) | (go_at_call 15; (refine (read_in hM.out.mem j 1 (by omega)).mono ?_); rintro e w2 ⟨rfl, hbk, hbl⟩; rw [hone.out] at hbk; have hc : w2.cell? ⟨w1.heap.size, 0, none⟩ = some (.int .u8 0) := hbk.cell 0; have hB := Lib.hid (Below.then hM.out.below hbl); replace hbk := Lib.hid hbk; replace hbl := Lib.hid hbl))
      go_ret
      exact ⟨rfl, hB.out⟩
    · rcases (by omega : p < 0 ∨ (¬ p < 0 ∧ s ≤ p)) with hp1 | ⟨hp1, hp2⟩
      all_goals
        clear hp
        have hn : Hid (insF s p 1 = false) := ins_false (by omega)
        go_wp2_with (first | (go_at_call 14; (with_reducible refine (len_any hM.out.mem).mono ?_); rintro e w' ⟨rfl, rfl⟩) | (go_at_call 15; (with_reducible refine (read_out hM.out.mem p 1 hn.out).mono ?_); rintro e w2 ⟨rfl, rfl⟩))
        go_ret
        exact ⟨rfl, hM.out.below⟩
end Go.Proofs.Ytkchhggbiopffaa
