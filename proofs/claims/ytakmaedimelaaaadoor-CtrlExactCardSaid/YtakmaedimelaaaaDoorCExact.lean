/- What is proved here: the walk of the law CtrlExact. The library's table lies in its variable. -/
import Derived.Test.YtakmaedimelaaaaDoorCToldAll
set_option linter.unusedVariables false
set_option linter.unusedSimpArgs false
namespace Go.Proofs.YtakmaedimelaaaaDoor
open Go.RowKit Pl
structure Ex (w0 : World) (a f n : Nat) (i c t : Int) (w : World) : Prop where
  below : Below w0.heap.size w0 w
  ask : Blk w a #[.int .u64 n, .int .i64 i, .int .i64 c, .int .i64 t] 24
  bit : Blk w f #[.int .u64 (mask (ful n) : Nat)] 26
section
variable {w0 w w' : World} {a f n : Nat} {i c t : Int}
theorem Ex.keep (h : Ex w0 a f n i c t w) (hb : Below w.heap.size w w') : Ex w0 a f n i c t w' := ⟨Below.then h.below hb, h.ask.keep hb, h.bit.keep hb⟩
theorem Ex.drew (h : Ex w0 a f n i c t w) : Ex w0 a f n i c t w.drew := ⟨h.below.drew, h.ask.drew, h.bit.drew⟩
theorem Ex.drewN (h : Ex w0 a f n i c t w) (m : Nat) : Ex w0 a f n i c t (w.drewN m) := ⟨below_drewN h.below m, h.ask.drewN m, h.bit.drewN m⟩
theorem Ex.all (h : Ex w0 a f n i c t w) : Ex w0 a f n i c t w ∧ w.cell? ⟨a, 0, none⟩ = some (.int .u64 n) ∧ w.cell? ⟨a, 1, none⟩ = some (.int .i64 i) ∧ w.cell? ⟨a, 2, none⟩ = some (.int .i64 c) ∧ w.cell? ⟨a, 3, none⟩ = some (.int .i64 t) ∧ w.cell? ⟨f, 0, none⟩ = some (.int .u64 (mask (ful n) : Nat)) :=
  ⟨h, h.ask.cell 0, h.ask.cell 1, h.ask.cell 2, h.ask.cell 3, h.bit.cell 0⟩
end
theorem get_below (n : Nat) (i : Int) (w : World) (h : n < 18446744073709551616) : Calls Tryd.prog 22 #[.int .u64 n, .int .i64 i] w fun e w' => e = .returned (.int .i64 (getF n i)) ∧ Below w.heap.size w w' :=
  (get_any n i w h).mono (by rintro e w' ⟨rfl, m, rfl⟩; exact ⟨rfl, below_drewN (Below.refl _ _) m⟩)
theorem set_below (n : Nat) (i c : Int) (w : World) (h : n < 18446744073709551616) : Calls Tryd.prog 18 #[.int .u64 n, .int .i64 i, .int .i64 c] w fun e w' => e = .returned (.int .u64 (setF n i c : Nat)) ∧ Below w.heap.size w w' :=
  (set_any n i c w h).mono (by rintro e w' ⟨rfl, m, rfl⟩; exact ⟨rfl, below_drewN (Below.refl _ _) m⟩)
theorem told_none (w : World) (hTab : Tab w) : Calls Tryd.prog 27 #[.agg #[.int .u64 0], .agg #[.bool false, .bool false, .bool false, .bool false, .bool false, .bool false, .bool false, .bool false]] w fun e w' => e = .returned (.bool true) ∧ Below w.heap.size w w' := by
  have h := told_any (fun _ => false) w hTab
  rw [mask_none] at h
  exact h
set_option maxHeartbeats 4000000 in
set_option maxRecDepth 100000 in
theorem exact_from (n : Nat) (i c t : Int) (w : World) (hTab : Tab w) (h : n < 18446744073709551616) (hf : ∀ w, Calls Tryd.prog 21 #[.agg #[.int .u64 (mask (ful n) : Nat)], .int .i64 i] w fun e w' => e = .returned (.bool (decide (0 ≤ i) && (decide (i ≤ 7) && decide (getF n i ≤ 127)))) ∧ Below w.heap.size w w') :
    Calls Tryd.prog 5 #[.agg #[.int .u64 n, .int .i64 i, .int .i64 c, .int .i64 t]] w fun e w' => e = .returned (.bool true) ∧ Below w.heap.size w w' := by
  replace hf := Lib.hid hf
  replace hTab := Lib.hid hTab
  have hst := Lib.hid (setF_lt h i c)
  go_enter Tryd.func5, Tryd.ntmps5
  go_wp2_with fail
  refine (matchFull_any n _ h).mono ?_
  rintro e w1 ⟨rfl, hb⟩
  have hX : Ex w w.heap.size w1.heap.size n i c t (w1.alloc (.cells #[.int .u64 (mask (ful n) : Nat)] 26)) :=
    ⟨(Below.then ((Below.refl _ _).alloc (Nat.le_refl _) _) hb).alloc (by have := hb.size; simp at this; omega) _, ((Blk.new _ _ _).keep hb).alloc _, Blk.new _ _ _⟩
  go_upto_region 2 with (fail)
  obtain ⟨f, hfe⟩ : ∃ f, Hid (f = w1.heap.size) := ⟨_, rfl⟩
  obtain ⟨a, hae⟩ : ∃ a, Hid (a = w.heap.size) := ⟨_, rfl⟩
  rw [← hfe.out] at hX
  rw [← hfe.out]
  have hX2 : Ex w a f n i c t (w1.alloc (.cells #[.int .u64 (mask (ful n) : Nat)] 26)) := by rw [hae.out]; exact hX
  rw [← hae.out]
  replace hX := hX2
  clear hX2 hb
  generalize World.alloc w1 _ = wz at hX ⊢
  go_cut [27] (fun v wc => v = .bool false ∧ Ex w a f n i c t wc)
  case rest =>
    obtain ⟨rfl, hX⟩ := hcut
    clear hf
    go_upto_region 4 with (fail)
    go_cut [43] (fun v wc => v = .bool false ∧ Ex w a f n i c t wc)
    case first =>
      obtain ⟨_, q0, q1, q2, q3, q4⟩ := hX.all
      go_region_held3 (fun w' => Ex w a f n i c t w' ∧ w'.cell? ⟨a, 0, none⟩ = some (.int .u64 n) ∧ w'.cell? ⟨a, 1, none⟩ = some (.int .i64 i) ∧ w'.cell? ⟨a, 2, none⟩ = some (.int .i64 c) ∧ w'.cell? ⟨a, 3, none⟩ = some (.int .i64 t) ∧ w'.cell? ⟨f, 0, none⟩ = some (.int .u64 (mask (ful n) : Nat)))
        (first | exact hX.all | exact hX.drew.all | exact ⟨by assumption, by assumption, by assumption, by assumption, by assumption, by assumption⟩ | go_keep)
        ((first
          | (go_at_call 16; (with_reducible refine (keeps (empty_below _) (fun w' hb => Ex.keep (by first | exact hX | exact hX.drew | exact hX.drewN _) hb)).mono ?_); rintro e w' ⟨rfl, hX⟩)
          | (go_at_call 24; (with_reducible refine (rempty_any _).mono ?_); rintro e w' ⟨rfl, rfl⟩)
          | (go_at_call 22; (with_reducible refine (keeps (get_below n i _ h) (fun w' hb => Ex.keep (by first | exact hX | exact hX.drew | exact hX.drewN _) hb)).mono ?_); rintro e w' ⟨rfl, hX⟩)
          | (go_at_call 23; (with_reducible refine (rget_any n i _ h).mono ?_); rintro e w' ⟨rfl, rfl⟩)))
      all_goals
        go_wp2_with fail
        go_meet
        case rel => exact ⟨rfl, by first | exact hX | exact hX.drew | exact hX.drewN _⟩
    case rest =>
      obtain ⟨rfl, hX⟩ := hcut
      go_upto_region 6 with (fail)
      go_cut [67] (fun v wc => v = .bool false ∧ Ex w a f n i c t wc)
      case first =>
        obtain ⟨_, q0, q1, q2, q3, q4⟩ := hX.all
        go_region_held3 (fun w' => Ex w a f n i c t w' ∧ w'.cell? ⟨a, 0, none⟩ = some (.int .u64 n) ∧ w'.cell? ⟨a, 1, none⟩ = some (.int .i64 i) ∧ w'.cell? ⟨a, 2, none⟩ = some (.int .i64 c) ∧ w'.cell? ⟨a, 3, none⟩ = some (.int .i64 t) ∧ w'.cell? ⟨f, 0, none⟩ = some (.int .u64 (mask (ful n) : Nat)))
          (first | exact hX.all | exact hX.drew.all | exact ⟨by assumption, by assumption, by assumption, by assumption, by assumption, by assumption⟩ | go_keep)
          ((first
            | (go_at_call 18; (with_reducible refine (keeps (set_below n i c _ h) (fun w' hb => Ex.keep (by first | exact hX | exact hX.drew | exact hX.drewN _) hb)).mono ?_); rintro e w' ⟨rfl, hX⟩)
            | (go_at_call 25; (with_reducible refine (rput_any n i c _ h).mono ?_); rintro e w' ⟨rfl, rfl⟩)
            | (go_at_call 20; (with_reducible refine (keeps (clear_any n _ h) (fun w' hb => Ex.keep (by first | exact hX | exact hX.drew | exact hX.drewN _) hb)).mono ?_); rintro e w' ⟨rfl, hX⟩)
            | (go_at_call 26; (with_reducible refine (rclear_any n _ h).mono ?_); rintro e w' ⟨rfl, rfl⟩)))
        all_goals
          go_wp2_with fail
          go_meet
          case rel => exact ⟨rfl, by first | exact hX | exact hX.drew | exact hX.drewN _⟩
      case rest =>
        obtain ⟨rfl, hX⟩ := hcut
        go_upto_region 8 with (fail)
        go_cut [89] (fun v wc => v = .bool false ∧ Ex w a f n i c t wc)
        case first =>
          obtain ⟨_, q0, q1, q2, q3, q4⟩ := hX.all
          go_region_held3 (fun w' => Ex w a f n i c t w' ∧ w'.cell? ⟨a, 0, none⟩ = some (.int .u64 n) ∧ w'.cell? ⟨a, 1, none⟩ = some (.int .i64 i) ∧ w'.cell? ⟨a, 2, none⟩ = some (.int .i64 c) ∧ w'.cell? ⟨a, 3, none⟩ = some (.int .i64 t) ∧ w'.cell? ⟨f, 0, none⟩ = some (.int .u64 (mask (ful n) : Nat)))
            (first | exact hX.all | exact hX.drew.all | exact ⟨by assumption, by assumption, by assumption, by assumption, by assumption, by assumption⟩ | go_keep)
            ((first
              | (go_at_call 6; (with_reducible refine (keeps (match_any n t _ h) (fun w' hb => Ex.keep (by first | exact hX | exact hX.drew | exact hX.drewN _) hb)).mono ?_); rintro e w' ⟨rfl, hX⟩)
              | (go_at_call 7; (with_reducible refine (keeps (rmatch_any n t _ h) (fun w' hb => Ex.keep (by first | exact hX | exact hX.drew | exact hX.drewN _) hb)).mono ?_); rintro e w' ⟨rfl, hX⟩)
              | (go_at_call 12; (with_reducible refine (keeps (matchEmpty_any n _ h) (fun w' hb => Ex.keep (by first | exact hX | exact hX.drew | exact hX.drewN _) hb)).mono ?_); rintro e w' ⟨rfl, hX⟩)
              | (go_at_call 13; (with_reducible refine (keeps (rmatchEmpty_any n _ h) (fun w' hb => Ex.keep (by first | exact hX | exact hX.drew | exact hX.drewN _) hb)).mono ?_); rintro e w' ⟨rfl, hX⟩)
              | (go_at_call 27; (first | with_reducible refine (keeps (told_any (matF n t) _ (hTab.out.since (by first | exact hX.below | exact hX.drew.below | exact (hX.drewN _).below))) (fun w' hb => Ex.keep (by first | exact hX | exact hX.drew | exact hX.drewN _) hb)).mono ?_ | with_reducible refine (keeps (told_any (mat n 128) _ (hTab.out.since (by first | exact hX.below | exact hX.drew.below | exact (hX.drewN _).below))) (fun w' hb => Ex.keep (by first | exact hX | exact hX.drew | exact hX.drewN _) hb)).mono ?_); rintro e w' ⟨rfl, hX⟩)))
          all_goals
            go_wp2_with fail
            go_meet
            case rel => exact ⟨rfl, by first | exact hX | exact hX.drew | exact hX.drewN _⟩
        case rest =>
          obtain ⟨rfl, hX⟩ := hcut
          go_upto_region 10 with (fail)
          obtain ⟨_, q0, q1, q2, q3, q4⟩ := hX.all
          go_region_held3 (fun w' => Ex w a f n i c t w' ∧ w'.cell? ⟨a, 0, none⟩ = some (.int .u64 n) ∧ w'.cell? ⟨a, 1, none⟩ = some (.int .i64 i) ∧ w'.cell? ⟨a, 2, none⟩ = some (.int .i64 c) ∧ w'.cell? ⟨a, 3, none⟩ = some (.int .i64 t) ∧ w'.cell? ⟨f, 0, none⟩ = some (.int .u64 (mask (ful n) : Nat)))
            (first | exact hX.all | exact hX.drew.all | exact ⟨by assumption, by assumption, by assumption, by assumption, by assumption, by assumption⟩ | go_keep)
            ((first
              | (go_at_call 10; (with_reducible refine (keeps (matchVacant_any n _ h) (fun w' hb => Ex.keep (by first | exact hX | exact hX.drew | exact hX.drewN _) hb)).mono ?_); rintro e w' ⟨rfl, hX⟩)
              | (go_at_call 11; (with_reducible refine (keeps (rmatchVacant_any n _ h) (fun w' hb => Ex.keep (by first | exact hX | exact hX.drew | exact hX.drewN _) hb)).mono ?_); rintro e w' ⟨rfl, hX⟩)
              | (go_at_call 8; (with_reducible refine (keeps (matchFull_any n _ h) (fun w' hb => Ex.keep (by first | exact hX | exact hX.drew | exact hX.drewN _) hb)).mono ?_); rintro e w' ⟨rfl, hX⟩)
              | (go_at_call 9; (with_reducible refine (keeps (rmatchFull_any n _ h) (fun w' hb => Ex.keep (by first | exact hX | exact hX.drew | exact hX.drewN _) hb)).mono ?_); rintro e w' ⟨rfl, hX⟩)
              | (go_at_call 27; (first | with_reducible refine (keeps (told_none _ (hTab.out.since (by first | exact hX.below | exact hX.drew.below | exact (hX.drewN _).below))) (fun w' hb => Ex.keep (by first | exact hX | exact hX.drew | exact hX.drewN _) hb)).mono ?_ | with_reducible refine (keeps (told_any (vac n) _ (hTab.out.since (by first | exact hX.below | exact hX.drew.below | exact (hX.drewN _).below))) (fun w' hb => Ex.keep (by first | exact hX | exact hX.drew | exact hX.drewN _) hb)).mono ?_ | with_reducible refine (keeps (told_any (ful n) _ (hTab.out.since (by first | exact hX.below | exact hX.drew.below | exact (hX.drewN _).below))) (fun w' hb => Ex.keep (by first | exact hX | exact hX.drew | exact hX.drewN _) hb)).mono ?_); rintro e w' ⟨rfl, hX⟩)))
          all_goals
            go_wp2_with fail
            go_ret
            exact ⟨rfl, by first | exact hX.below | exact hX.drew.below | exact (hX.drewN _).below⟩
  have hc : ∃ b1 b2 b3 : Bool, Hid (decide (0 ≤ i) = b1 ∧ decide (i ≤ 7) = b2 ∧ decide (getF n i ≤ 127) = b3) ∧ ((b1 = false) ∨ (b1 = true ∧ b2 = false) ∨ (b1 = true ∧ b2 = true)) := by
    refine ⟨_, _, _, ⟨rfl, rfl, rfl⟩, ?_⟩
    simp only [decide_eq_true_eq, decide_eq_false_iff_not]; omega
  obtain ⟨b1, b2, b3, hb, hc⟩ := hc
  obtain ⟨g1, g2, g3⟩ := hb.out
  rw [g1, g2, g3] at hf
  clear hb
  rcases hc with rfl | ⟨rfl, rfl⟩ | ⟨rfl, rfl⟩
  · clear g2 g3
    replace hf : Hid (∀ w, Calls Tryd.prog 21 #[.agg #[.int .u64 (mask (ful n) : Nat)], .int .i64 i] w fun e w' => e = .returned (.bool false) ∧ Below w.heap.size w w') := hf.out
    refine wp_region_held_drew (S := (fun w' => Ex w a f n i c t w' ∧ w'.cell? ⟨a, 0, none⟩ = some (.int .u64 n) ∧ w'.cell? ⟨a, 1, none⟩ = some (.int .i64 i) ∧ w'.cell? ⟨a, 2, none⟩ = some (.int .i64 c) ∧ w'.cell? ⟨a, 3, none⟩ = some (.int .i64 t) ∧ w'.cell? ⟨f, 0, none⟩ = some (.int .u64 (mask (ful n) : Nat)))) (by kernel_rfl) ?_ (fun hHeld => ?_)
    · (first | exact hX.all | exact hX.drew.all | exact ⟨by assumption, by assumption, by assumption, by assumption, by assumption, by assumption⟩ | go_keep)
    refine wpAnyH_take (i := 0) (oi := { dst := some 7, op := Go.Op.load 26 (Go.Operand.tmp 3), type := 26, pos := "law.go:51", after := #[], guard := none }) (v := ?_) rfl (by kernel_rfl) (by kernel_rfl) (by kernel_rfl) (fun _ _ _ h => h) (Or.inl ⟨by rfl, ?_⟩) (by assumption) ?_
    rotate_left
    · intro w hSw; (try dsimp only at hSw); go_simp
      try with_reducible rfl
    try simp only [Act.put, List.setIfInBounds_toArray, List.set_cons_zero, List.set_cons_succ]
    refine wpAnyH_take (i := 1) (oi := { dst := some 8, op := Go.Op.fieldAddr 24 (Go.Operand.tmp 1) 1, type := 0, pos := "law.go:51", after := #[], guard := none }) (v := ?_) rfl (by kernel_rfl) (by kernel_rfl) (by kernel_rfl) (fun _ _ _ h => h) (Or.inl ⟨by rfl, ?_⟩) (by assumption) ?_
    rotate_left
    · intro w hSw; (try dsimp only at hSw); go_simp
      try with_reducible rfl
    try simp only [Act.put, List.setIfInBounds_toArray, List.set_cons_zero, List.set_cons_succ]
    refine wpAnyH_take (i := 2) (oi := { dst := some 9, op := Go.Op.load 3 (Go.Operand.tmp 8), type := 3, pos := "law.go:51", after := #[{ on := 1, ground := Go.Ground.data }], guard := none }) (v := ?_) rfl (by kernel_rfl) (by kernel_rfl) (by kernel_rfl) (fun _ _ _ h => h) (Or.inl ⟨by rfl, ?_⟩) (by assumption) ?_
    rotate_left
    · intro w hSw; (try dsimp only at hSw); go_simp
      try with_reducible rfl
    try simp only [Act.put, List.setIfInBounds_toArray, List.set_cons_zero, List.set_cons_succ]
    refine wpAnyH_take (i := 4) (oi := { dst := some 11, op := Go.Op.fieldAddr 24 (Go.Operand.tmp 1) 1, type := 0, pos := "law.go:51", after := #[], guard := none }) (v := ?_) rfl (by kernel_rfl) (by kernel_rfl) (by kernel_rfl) (fun _ _ _ h => h) (Or.inl ⟨by rfl, ?_⟩) (by assumption) ?_
    rotate_left
    · intro w hSw; (try dsimp only at hSw); go_simp
      try with_reducible rfl
    try simp only [Act.put, List.setIfInBounds_toArray, List.set_cons_zero, List.set_cons_succ]
    refine wpAnyH_take (i := 5) (oi := { dst := some 12, op := Go.Op.load 3 (Go.Operand.tmp 11), type := 3, pos := "law.go:51", after := #[{ on := 4, ground := Go.Ground.data }], guard := none }) (v := ?_) rfl (by kernel_rfl) (by kernel_rfl) (by kernel_rfl) (fun _ _ _ h => h) (Or.inl ⟨by rfl, ?_⟩) (by assumption) ?_
    rotate_left
    · intro w hSw; (try dsimp only at hSw); go_simp
      try with_reducible rfl
    try simp only [Act.put, List.setIfInBounds_toArray, List.set_cons_zero, List.set_cons_succ]
    refine wpAnyH_take (i := 6) (oi := { dst := some 13, op := Go.Op.binOp Go.BinOp.geq 3 (Go.Operand.tmp 12) (Go.Operand.const (Go.Value.int Go.IntKind.i64 0)) 3, type := 4, pos := "law.go:51", after := #[{ on := 5, ground := Go.Ground.data }], guard := none }) (v := ?_) rfl (by kernel_rfl) (by kernel_rfl) (by kernel_rfl) (fun _ _ _ h => h) (Or.inl ⟨by rfl, ?_⟩) (by assumption) ?_
    rotate_left
    · intro w hSw; (try dsimp only at hSw); go_simp
      try with_reducible rfl
    try simp only [Act.put, List.setIfInBounds_toArray, List.set_cons_zero, List.set_cons_succ]
    refine wpAnyH_ready (rs := [3]) (by kernel_rfl) (by simp) ?_
    refine AllReadyH.cons (o := { dst := some 10, op := Go.Op.call { callee := Go.Callee.value (Go.Operand.func 21), args := #[Go.Operand.tmp 7, Go.Operand.tmp 9], argTypes := #[26, 3] }, type := 4, pos := "law.go:51", after := #[{ on := 0, ground := Go.Ground.data }, { on := 2, ground := Go.Ground.data }], guard := none }) rfl (fun K hK => ?_) AllReadyH.nil
    go_simp
    (go_at_call 21; (with_reducible refine (keeps (hf.out _) (fun w' hb => Ex.keep (by first | exact hX | exact hX.drew | exact hX.drewN _) hb)).mono ?_); rintro e w' ⟨rfl, hX⟩)
    try go_wp2_with fail
    refine hK.out _ _ ?_ (fun hHeld => ?_)
    · (first | exact hX.all | exact hX.drew.all | exact ⟨by assumption, by assumption, by assumption, by assumption, by assumption, by assumption⟩ | go_keep)
    clear hK K
    try simp only [Act.put, List.setIfInBounds_toArray, List.set_cons_zero, List.set_cons_succ]
    refine wpAnyH_take (i := 7) (oi := { dst := some 14, op := Go.Op.move (Go.Operand.tmp 13), type := 4, pos := "law.go:51", after := #[{ on := 6, ground := Go.Ground.data }, { on := 3, ground := Go.Ground.chain }], guard := none }) (v := ?_) rfl (by kernel_rfl) (by kernel_rfl) (by kernel_rfl) (fun _ _ _ h => h) (Or.inl ⟨by rfl, ?_⟩) (by assumption) ?_
    rotate_left
    · intro w hSw; (try dsimp only at hSw); go_simp
      try with_reducible rfl
    try simp only [Act.put, List.setIfInBounds_toArray, List.set_cons_zero, List.set_cons_succ]
    refine wpAnyH_take (i := 8) (oi := { dst := some 15, op := Go.Op.fieldAddr 24 (Go.Operand.tmp 1) 1, type := 0, pos := "law.go:51", after := #[{ on := 7, ground := Go.Ground.guard }], guard := some (7, true) }) (v := undef) rfl (by kernel_rfl) (by kernel_rfl) (by kernel_rfl) (fun _ _ _ h => h) (Or.inr ⟨by rfl, rfl⟩) (by assumption) ?_
    try simp only [Act.put, List.setIfInBounds_toArray, List.set_cons_zero, List.set_cons_succ]
    refine wpAnyH_take (i := 9) (oi := { dst := some 16, op := Go.Op.load 3 (Go.Operand.tmp 15), type := 3, pos := "law.go:51", after := #[{ on := 8, ground := Go.Ground.data }, { on := 7, ground := Go.Ground.guard }], guard := some (7, true) }) (v := undef) rfl (by kernel_rfl) (by kernel_rfl) (by kernel_rfl) (fun _ _ _ h => h) (Or.inr ⟨by rfl, rfl⟩) (by assumption) ?_
    try simp only [Act.put, List.setIfInBounds_toArray, List.set_cons_zero, List.set_cons_succ]
    refine wpAnyH_take (i := 10) (oi := { dst := some 17, op := Go.Op.binOp Go.BinOp.leq 3 (Go.Operand.tmp 16) (Go.Operand.const (Go.Value.int Go.IntKind.i64 7)) 3, type := 4, pos := "law.go:51", after := #[{ on := 9, ground := Go.Ground.data }, { on := 7, ground := Go.Ground.guard }], guard := some (7, true) }) (v := undef) rfl (by kernel_rfl) (by kernel_rfl) (by kernel_rfl) (fun _ _ _ h => h) (Or.inr ⟨by rfl, rfl⟩) (by assumption) ?_
    try simp only [Act.put, List.setIfInBounds_toArray, List.set_cons_zero, List.set_cons_succ]
    refine wpAnyH_take (i := 11) (oi := { dst := some 18, op := Go.Op.pick (Go.Operand.tmp 14) (Go.Operand.tmp 17) (Go.Operand.const (Go.Value.bool false)), type := 4, pos := "law.go:51", after := #[{ on := 7, ground := Go.Ground.data }, { on := 10, ground := Go.Ground.data }], guard := none }) (v := ?_) rfl (by kernel_rfl) (by kernel_rfl) (by kernel_rfl) (fun _ _ _ h => h) (Or.inl ⟨by rfl, ?_⟩) (by assumption) ?_
    rotate_left
    · intro w hSw; (try dsimp only at hSw); go_simp
      try with_reducible rfl
    try simp only [Act.put, List.setIfInBounds_toArray, List.set_cons_zero, List.set_cons_succ]
    refine wpAnyH_take (i := 12) (oi := { dst := some 19, op := Go.Op.move (Go.Operand.tmp 18), type := 4, pos := "law.go:51", after := #[{ on := 11, ground := Go.Ground.data }, { on := 7, ground := Go.Ground.chain }], guard := none }) (v := ?_) rfl (by kernel_rfl) (by kernel_rfl) (by kernel_rfl) (fun _ _ _ h => h) (Or.inl ⟨by rfl, ?_⟩) (by assumption) ?_
    rotate_left
    · intro w hSw; (try dsimp only at hSw); go_simp
      try with_reducible rfl
    try simp only [Act.put, List.setIfInBounds_toArray, List.set_cons_zero, List.set_cons_succ]
    refine wpAnyH_take (i := 13) (oi := { dst := some 20, op := Go.Op.fieldAddr 24 (Go.Operand.tmp 1) 0, type := 0, pos := "law.go:51", after := #[{ on := 12, ground := Go.Ground.guard }], guard := some (12, true) }) (v := undef) rfl (by kernel_rfl) (by kernel_rfl) (by kernel_rfl) (fun _ _ _ h => h) (Or.inr ⟨by rfl, rfl⟩) (by assumption) ?_
    try simp only [Act.put, List.setIfInBounds_toArray, List.set_cons_zero, List.set_cons_succ]
    refine wpAnyH_take (i := 14) (oi := { dst := some 21, op := Go.Op.load 22 (Go.Operand.tmp 20), type := 22, pos := "law.go:51", after := #[{ on := 13, ground := Go.Ground.data }, { on := 12, ground := Go.Ground.guard }], guard := some (12, true) }) (v := undef) rfl (by kernel_rfl) (by kernel_rfl) (by kernel_rfl) (fun _ _ _ h => h) (Or.inr ⟨by rfl, rfl⟩) (by assumption) ?_
    try simp only [Act.put, List.setIfInBounds_toArray, List.set_cons_zero, List.set_cons_succ]
    refine wpAnyH_take (i := 15) (oi := { dst := some 22, op := Go.Op.fieldAddr 24 (Go.Operand.tmp 1) 1, type := 0, pos := "law.go:51", after := #[{ on := 12, ground := Go.Ground.guard }], guard := some (12, true) }) (v := undef) rfl (by kernel_rfl) (by kernel_rfl) (by kernel_rfl) (fun _ _ _ h => h) (Or.inr ⟨by rfl, rfl⟩) (by assumption) ?_
    try simp only [Act.put, List.setIfInBounds_toArray, List.set_cons_zero, List.set_cons_succ]
    refine wpAnyH_take (i := 16) (oi := { dst := some 23, op := Go.Op.load 3 (Go.Operand.tmp 22), type := 3, pos := "law.go:51", after := #[{ on := 15, ground := Go.Ground.data }, { on := 12, ground := Go.Ground.guard }], guard := some (12, true) }) (v := undef) rfl (by kernel_rfl) (by kernel_rfl) (by kernel_rfl) (fun _ _ _ h => h) (Or.inr ⟨by rfl, rfl⟩) (by assumption) ?_
    try simp only [Act.put, List.setIfInBounds_toArray, List.set_cons_zero, List.set_cons_succ]
    refine wpAnyH_take (i := 17) (oi := { dst := some 24, op := Go.Op.call { callee := Go.Callee.value (Go.Operand.func 23), args := #[Go.Operand.tmp 21, Go.Operand.tmp 23], argTypes := #[22, 3] }, type := 3, pos := "law.go:51", after := #[{ on := 14, ground := Go.Ground.data }, { on := 16, ground := Go.Ground.data }, { on := 12, ground := Go.Ground.chain }, { on := 12, ground := Go.Ground.guard }], guard := some (12, true) }) (v := undef) rfl (by kernel_rfl) (by kernel_rfl) (by kernel_rfl) (fun _ _ _ h => h) (Or.inr ⟨by rfl, rfl⟩) (by assumption) ?_
    try simp only [Act.put, List.setIfInBounds_toArray, List.set_cons_zero, List.set_cons_succ]
    refine wpAnyH_take (i := 18) (oi := { dst := some 25, op := Go.Op.binOp Go.BinOp.leq 3 (Go.Operand.tmp 24) (Go.Operand.const (Go.Value.int Go.IntKind.i64 127)) 3, type := 4, pos := "law.go:51", after := #[{ on := 17, ground := Go.Ground.data }, { on := 12, ground := Go.Ground.guard }], guard := some (12, true) }) (v := undef) rfl (by kernel_rfl) (by kernel_rfl) (by kernel_rfl) (fun _ _ _ h => h) (Or.inr ⟨by rfl, rfl⟩) (by assumption) ?_
    try simp only [Act.put, List.setIfInBounds_toArray, List.set_cons_zero, List.set_cons_succ]
    refine wpAnyH_take (i := 19) (oi := { dst := some 26, op := Go.Op.pick (Go.Operand.tmp 19) (Go.Operand.tmp 25) (Go.Operand.const (Go.Value.bool false)), type := 4, pos := "law.go:51", after := #[{ on := 12, ground := Go.Ground.data }, { on := 18, ground := Go.Ground.data }], guard := none }) (v := ?_) rfl (by kernel_rfl) (by kernel_rfl) (by kernel_rfl) (fun _ _ _ h => h) (Or.inl ⟨by rfl, ?_⟩) (by assumption) ?_
    rotate_left
    · intro w hSw; (try dsimp only at hSw); go_simp
      try with_reducible rfl
    try simp only [Act.put, List.setIfInBounds_toArray, List.set_cons_zero, List.set_cons_succ]
    refine wpAnyH_take (i := 20) (oi := { dst := some 27, op := Go.Op.binOp Go.BinOp.neq 4 (Go.Operand.tmp 10) (Go.Operand.tmp 26) 4, type := 4, pos := "law.go:51", after := #[{ on := 3, ground := Go.Ground.data }, { on := 19, ground := Go.Ground.data }], guard := none }) (v := ?_) rfl (by kernel_rfl) (by kernel_rfl) (by kernel_rfl) (fun _ _ _ h => h) (Or.inl ⟨by rfl, ?_⟩) (by assumption) ?_
    rotate_left
    · intro w hSw; (try dsimp only at hSw); go_simp
      try with_reducible rfl
    try simp only [Act.put, List.setIfInBounds_toArray, List.set_cons_zero, List.set_cons_succ]
    refine wpAnyH_done (by kernel_rfl) ?_ _
    go_wp2_with fail
    go_meet
    case rel => exact ⟨rfl, by first | exact hX | exact hX.drew | exact hX.drewN _⟩
  · clear g3
    replace hf : Hid (∀ w, Calls Tryd.prog 21 #[.agg #[.int .u64 (mask (ful n) : Nat)], .int .i64 i] w fun e w' => e = .returned (.bool false) ∧ Below w.heap.size w w') := hf.out
    obtain ⟨_, q0, q1, q2, q3, q4⟩ := hX.all
    refine wp_region_held_drew (S := (fun w' => Ex w a f n i c t w' ∧ w'.cell? ⟨a, 0, none⟩ = some (.int .u64 n) ∧ w'.cell? ⟨a, 1, none⟩ = some (.int .i64 i) ∧ w'.cell? ⟨a, 2, none⟩ = some (.int .i64 c) ∧ w'.cell? ⟨a, 3, none⟩ = some (.int .i64 t) ∧ w'.cell? ⟨f, 0, none⟩ = some (.int .u64 (mask (ful n) : Nat)))) (by kernel_rfl) ?_ (fun hHeld => ?_)
    · (first | exact hX.all | exact hX.drew.all | exact ⟨by assumption, by assumption, by assumption, by assumption, by assumption, by assumption⟩ | go_keep)
    refine wpAnyH_take (i := 0) (oi := { dst := some 7, op := Go.Op.load 26 (Go.Operand.tmp 3), type := 26, pos := "law.go:51", after := #[], guard := none }) (v := ?_) rfl (by kernel_rfl) (by kernel_rfl) (by kernel_rfl) (fun _ _ _ h => h) (Or.inl ⟨by rfl, ?_⟩) (by assumption) ?_
    rotate_left
    · intro w hSw; (try dsimp only at hSw); go_simp
      try with_reducible rfl
    try simp only [Act.put, List.setIfInBounds_toArray, List.set_cons_zero, List.set_cons_succ]
    refine wpAnyH_take (i := 1) (oi := { dst := some 8, op := Go.Op.fieldAddr 24 (Go.Operand.tmp 1) 1, type := 0, pos := "law.go:51", after := #[], guard := none }) (v := ?_) rfl (by kernel_rfl) (by kernel_rfl) (by kernel_rfl) (fun _ _ _ h => h) (Or.inl ⟨by rfl, ?_⟩) (by assumption) ?_
    rotate_left
    · intro w hSw; (try dsimp only at hSw); go_simp
      try with_reducible rfl
    try simp only [Act.put, List.setIfInBounds_toArray, List.set_cons_zero, List.set_cons_succ]
    refine wpAnyH_take (i := 2) (oi := { dst := some 9, op := Go.Op.load 3 (Go.Operand.tmp 8), type := 3, pos := "law.go:51", after := #[{ on := 1, ground := Go.Ground.data }], guard := none }) (v := ?_) rfl (by kernel_rfl) (by kernel_rfl) (by kernel_rfl) (fun _ _ _ h => h) (Or.inl ⟨by rfl, ?_⟩) (by assumption) ?_
    rotate_left
    · intro w hSw; (try dsimp only at hSw); go_simp
      try with_reducible rfl
    try simp only [Act.put, List.setIfInBounds_toArray, List.set_cons_zero, List.set_cons_succ]
    refine wpAnyH_take (i := 4) (oi := { dst := some 11, op := Go.Op.fieldAddr 24 (Go.Operand.tmp 1) 1, type := 0, pos := "law.go:51", after := #[], guard := none }) (v := ?_) rfl (by kernel_rfl) (by kernel_rfl) (by kernel_rfl) (fun _ _ _ h => h) (Or.inl ⟨by rfl, ?_⟩) (by assumption) ?_
    rotate_left
    · intro w hSw; (try dsimp only at hSw); go_simp
      try with_reducible rfl
    try simp only [Act.put, List.setIfInBounds_toArray, List.set_cons_zero, List.set_cons_succ]
    refine wpAnyH_take (i := 5) (oi := { dst := some 12, op := Go.Op.load 3 (Go.Operand.tmp 11), type := 3, pos := "law.go:51", after := #[{ on := 4, ground := Go.Ground.data }], guard := none }) (v := ?_) rfl (by kernel_rfl) (by kernel_rfl) (by kernel_rfl) (fun _ _ _ h => h) (Or.inl ⟨by rfl, ?_⟩) (by assumption) ?_
    rotate_left
    · intro w hSw; (try dsimp only at hSw); go_simp
      try with_reducible rfl
    try simp only [Act.put, List.setIfInBounds_toArray, List.set_cons_zero, List.set_cons_succ]
    refine wpAnyH_take (i := 6) (oi := { dst := some 13, op := Go.Op.binOp Go.BinOp.geq 3 (Go.Operand.tmp 12) (Go.Operand.const (Go.Value.int Go.IntKind.i64 0)) 3, type := 4, pos := "law.go:51", after := #[{ on := 5, ground := Go.Ground.data }], guard := none }) (v := ?_) rfl (by kernel_rfl) (by kernel_rfl) (by kernel_rfl) (fun _ _ _ h => h) (Or.inl ⟨by rfl, ?_⟩) (by assumption) ?_
    rotate_left
    · intro w hSw; (try dsimp only at hSw); go_simp
      try with_reducible rfl
    try simp only [Act.put, List.setIfInBounds_toArray, List.set_cons_zero, List.set_cons_succ]
    refine wpAnyH_ready (rs := [3]) (by kernel_rfl) (by simp) ?_
    refine AllReadyH.cons (o := { dst := some 10, op := Go.Op.call { callee := Go.Callee.value (Go.Operand.func 21), args := #[Go.Operand.tmp 7, Go.Operand.tmp 9], argTypes := #[26, 3] }, type := 4, pos := "law.go:51", after := #[{ on := 0, ground := Go.Ground.data }, { on := 2, ground := Go.Ground.data }], guard := none }) rfl (fun K hK => ?_) AllReadyH.nil
    go_simp
    (go_at_call 21; (with_reducible refine (keeps (hf.out _) (fun w' hb => Ex.keep (by first | exact hX | exact hX.drew | exact hX.drewN _) hb)).mono ?_); rintro e w' ⟨rfl, hX⟩)
    try go_wp2_with fail
    refine hK.out _ _ ?_ (fun hHeld => ?_)
    · (first | exact hX.all | exact hX.drew.all | exact ⟨by assumption, by assumption, by assumption, by assumption, by assumption, by assumption⟩ | go_keep)
    clear hK K
    try simp only [Act.put, List.setIfInBounds_toArray, List.set_cons_zero, List.set_cons_succ]
    refine wpAnyH_take (i := 7) (oi := { dst := some 14, op := Go.Op.move (Go.Operand.tmp 13), type := 4, pos := "law.go:51", after := #[{ on := 6, ground := Go.Ground.data }, { on := 3, ground := Go.Ground.chain }], guard := none }) (v := ?_) rfl (by kernel_rfl) (by kernel_rfl) (by kernel_rfl) (fun _ _ _ h => h) (Or.inl ⟨by rfl, ?_⟩) (by assumption) ?_
    rotate_left
    · intro w hSw; (try dsimp only at hSw); go_simp
      try with_reducible rfl
    try simp only [Act.put, List.setIfInBounds_toArray, List.set_cons_zero, List.set_cons_succ]
    refine wpAnyH_take (i := 8) (oi := { dst := some 15, op := Go.Op.fieldAddr 24 (Go.Operand.tmp 1) 1, type := 0, pos := "law.go:51", after := #[{ on := 7, ground := Go.Ground.guard }], guard := some (7, true) }) (v := ?_) rfl (by kernel_rfl) (by kernel_rfl) (by kernel_rfl) (fun _ _ _ h => h) (Or.inl ⟨by rfl, ?_⟩) (by assumption) ?_
    rotate_left
    · intro w hSw; (try dsimp only at hSw); go_simp
      try with_reducible rfl
    try simp only [Act.put, List.setIfInBounds_toArray, List.set_cons_zero, List.set_cons_succ]
    refine wpAnyH_take (i := 9) (oi := { dst := some 16, op := Go.Op.load 3 (Go.Operand.tmp 15), type := 3, pos := "law.go:51", after := #[{ on := 8, ground := Go.Ground.data }, { on := 7, ground := Go.Ground.guard }], guard := some (7, true) }) (v := ?_) rfl (by kernel_rfl) (by kernel_rfl) (by kernel_rfl) (fun _ _ _ h => h) (Or.inl ⟨by rfl, ?_⟩) (by assumption) ?_
    rotate_left
    · intro w hSw; (try dsimp only at hSw); go_simp
      try with_reducible rfl
    try simp only [Act.put, List.setIfInBounds_toArray, List.set_cons_zero, List.set_cons_succ]
    refine wpAnyH_take (i := 10) (oi := { dst := some 17, op := Go.Op.binOp Go.BinOp.leq 3 (Go.Operand.tmp 16) (Go.Operand.const (Go.Value.int Go.IntKind.i64 7)) 3, type := 4, pos := "law.go:51", after := #[{ on := 9, ground := Go.Ground.data }, { on := 7, ground := Go.Ground.guard }], guard := some (7, true) }) (v := ?_) rfl (by kernel_rfl) (by kernel_rfl) (by kernel_rfl) (fun _ _ _ h => h) (Or.inl ⟨by rfl, ?_⟩) (by assumption) ?_
    rotate_left
    · intro w hSw; (try dsimp only at hSw); go_simp
      try with_reducible rfl
    try simp only [Act.put, List.setIfInBounds_toArray, List.set_cons_zero, List.set_cons_succ]
    refine wpAnyH_take (i := 11) (oi := { dst := some 18, op := Go.Op.pick (Go.Operand.tmp 14) (Go.Operand.tmp 17) (Go.Operand.const (Go.Value.bool false)), type := 4, pos := "law.go:51", after := #[{ on := 7, ground := Go.Ground.data }, { on := 10, ground := Go.Ground.data }], guard := none }) (v := ?_) rfl (by kernel_rfl) (by kernel_rfl) (by kernel_rfl) (fun _ _ _ h => h) (Or.inl ⟨by rfl, ?_⟩) (by assumption) ?_
    rotate_left
    · intro w hSw; (try dsimp only at hSw); go_simp
      try with_reducible rfl
    try simp only [Act.put, List.setIfInBounds_toArray, List.set_cons_zero, List.set_cons_succ]
    refine wpAnyH_take (i := 12) (oi := { dst := some 19, op := Go.Op.move (Go.Operand.tmp 18), type := 4, pos := "law.go:51", after := #[{ on := 11, ground := Go.Ground.data }, { on := 7, ground := Go.Ground.chain }], guard := none }) (v := ?_) rfl (by kernel_rfl) (by kernel_rfl) (by kernel_rfl) (fun _ _ _ h => h) (Or.inl ⟨by rfl, ?_⟩) (by assumption) ?_
    rotate_left
    · intro w hSw; (try dsimp only at hSw); go_simp
      try with_reducible rfl
    try simp only [Act.put, List.setIfInBounds_toArray, List.set_cons_zero, List.set_cons_succ]
    refine wpAnyH_take (i := 13) (oi := { dst := some 20, op := Go.Op.fieldAddr 24 (Go.Operand.tmp 1) 0, type := 0, pos := "law.go:51", after := #[{ on := 12, ground := Go.Ground.guard }], guard := some (12, true) }) (v := undef) rfl (by kernel_rfl) (by kernel_rfl) (by kernel_rfl) (fun _ _ _ h => h) (Or.inr ⟨by rfl, rfl⟩) (by assumption) ?_
    try simp only [Act.put, List.setIfInBounds_toArray, List.set_cons_zero, List.set_cons_succ]
    refine wpAnyH_take (i := 14) (oi := { dst := some 21, op := Go.Op.load 22 (Go.Operand.tmp 20), type := 22, pos := "law.go:51", after := #[{ on := 13, ground := Go.Ground.data }, { on := 12, ground := Go.Ground.guard }], guard := some (12, true) }) (v := undef) rfl (by kernel_rfl) (by kernel_rfl) (by kernel_rfl) (fun _ _ _ h => h) (Or.inr ⟨by rfl, rfl⟩) (by assumption) ?_
    try simp only [Act.put, List.setIfInBounds_toArray, List.set_cons_zero, List.set_cons_succ]
    refine wpAnyH_take (i := 15) (oi := { dst := some 22, op := Go.Op.fieldAddr 24 (Go.Operand.tmp 1) 1, type := 0, pos := "law.go:51", after := #[{ on := 12, ground := Go.Ground.guard }], guard := some (12, true) }) (v := undef) rfl (by kernel_rfl) (by kernel_rfl) (by kernel_rfl) (fun _ _ _ h => h) (Or.inr ⟨by rfl, rfl⟩) (by assumption) ?_
    try simp only [Act.put, List.setIfInBounds_toArray, List.set_cons_zero, List.set_cons_succ]
    refine wpAnyH_take (i := 16) (oi := { dst := some 23, op := Go.Op.load 3 (Go.Operand.tmp 22), type := 3, pos := "law.go:51", after := #[{ on := 15, ground := Go.Ground.data }, { on := 12, ground := Go.Ground.guard }], guard := some (12, true) }) (v := undef) rfl (by kernel_rfl) (by kernel_rfl) (by kernel_rfl) (fun _ _ _ h => h) (Or.inr ⟨by rfl, rfl⟩) (by assumption) ?_
    try simp only [Act.put, List.setIfInBounds_toArray, List.set_cons_zero, List.set_cons_succ]
    refine wpAnyH_take (i := 17) (oi := { dst := some 24, op := Go.Op.call { callee := Go.Callee.value (Go.Operand.func 23), args := #[Go.Operand.tmp 21, Go.Operand.tmp 23], argTypes := #[22, 3] }, type := 3, pos := "law.go:51", after := #[{ on := 14, ground := Go.Ground.data }, { on := 16, ground := Go.Ground.data }, { on := 12, ground := Go.Ground.chain }, { on := 12, ground := Go.Ground.guard }], guard := some (12, true) }) (v := undef) rfl (by kernel_rfl) (by kernel_rfl) (by kernel_rfl) (fun _ _ _ h => h) (Or.inr ⟨by rfl, rfl⟩) (by assumption) ?_
    try simp only [Act.put, List.setIfInBounds_toArray, List.set_cons_zero, List.set_cons_succ]
    refine wpAnyH_take (i := 18) (oi := { dst := some 25, op := Go.Op.binOp Go.BinOp.leq 3 (Go.Operand.tmp 24) (Go.Operand.const (Go.Value.int Go.IntKind.i64 127)) 3, type := 4, pos := "law.go:51", after := #[{ on := 17, ground := Go.Ground.data }, { on := 12, ground := Go.Ground.guard }], guard := some (12, true) }) (v := undef) rfl (by kernel_rfl) (by kernel_rfl) (by kernel_rfl) (fun _ _ _ h => h) (Or.inr ⟨by rfl, rfl⟩) (by assumption) ?_
    try simp only [Act.put, List.setIfInBounds_toArray, List.set_cons_zero, List.set_cons_succ]
    refine wpAnyH_take (i := 19) (oi := { dst := some 26, op := Go.Op.pick (Go.Operand.tmp 19) (Go.Operand.tmp 25) (Go.Operand.const (Go.Value.bool false)), type := 4, pos := "law.go:51", after := #[{ on := 12, ground := Go.Ground.data }, { on := 18, ground := Go.Ground.data }], guard := none }) (v := ?_) rfl (by kernel_rfl) (by kernel_rfl) (by kernel_rfl) (fun _ _ _ h => h) (Or.inl ⟨by rfl, ?_⟩) (by assumption) ?_
    rotate_left
    · intro w hSw; (try dsimp only at hSw); go_simp
      try with_reducible rfl
    try simp only [Act.put, List.setIfInBounds_toArray, List.set_cons_zero, List.set_cons_succ]
    refine wpAnyH_take (i := 20) (oi := { dst := some 27, op := Go.Op.binOp Go.BinOp.neq 4 (Go.Operand.tmp 10) (Go.Operand.tmp 26) 4, type := 4, pos := "law.go:51", after := #[{ on := 3, ground := Go.Ground.data }, { on := 19, ground := Go.Ground.data }], guard := none }) (v := ?_) rfl (by kernel_rfl) (by kernel_rfl) (by kernel_rfl) (fun _ _ _ h => h) (Or.inl ⟨by rfl, ?_⟩) (by assumption) ?_
    rotate_left
    · intro w hSw; (try dsimp only at hSw); go_simp
      try with_reducible rfl
    try simp only [Act.put, List.setIfInBounds_toArray, List.set_cons_zero, List.set_cons_succ]
    refine wpAnyH_done (by kernel_rfl) ?_ _
    go_wp2_with fail
    go_meet
    case rel => exact ⟨rfl, by first | exact hX | exact hX.drew | exact hX.drewN _⟩
  · cases b3 with
    | true =>
      replace hf : Hid (∀ w, Calls Tryd.prog 21 #[.agg #[.int .u64 (mask (ful n) : Nat)], .int .i64 i] w fun e w' => e = .returned (.bool true) ∧ Below w.heap.size w w') := hf.out
      obtain ⟨_, q0, q1, q2, q3, q4⟩ := hX.all
      go_region_held3 (fun w' => Ex w a f n i c t w' ∧ w'.cell? ⟨a, 0, none⟩ = some (.int .u64 n) ∧ w'.cell? ⟨a, 1, none⟩ = some (.int .i64 i) ∧ w'.cell? ⟨a, 2, none⟩ = some (.int .i64 c) ∧ w'.cell? ⟨a, 3, none⟩ = some (.int .i64 t) ∧ w'.cell? ⟨f, 0, none⟩ = some (.int .u64 (mask (ful n) : Nat)))
        (first | exact hX.all | exact hX.drew.all | exact ⟨by assumption, by assumption, by assumption, by assumption, by assumption, by assumption⟩ | go_keep)
        ((first
          | (go_at_call 21; (with_reducible refine (keeps (hf.out _) (fun w' hb => Ex.keep (by first | exact hX | exact hX.drew | exact hX.drewN _) hb)).mono ?_); rintro e w' ⟨rfl, hX⟩)
          | (go_at_call 23; (with_reducible refine (rget_any n i _ h).mono ?_); rintro e w' ⟨rfl, rfl⟩)))
      go_wp2_with fail
      go_meet
      case rel => exact ⟨rfl, by first | exact hX | exact hX.drew | exact hX.drewN _⟩
    | false =>
      replace hf : Hid (∀ w, Calls Tryd.prog 21 #[.agg #[.int .u64 (mask (ful n) : Nat)], .int .i64 i] w fun e w' => e = .returned (.bool false) ∧ Below w.heap.size w w') := hf.out
      obtain ⟨_, q0, q1, q2, q3, q4⟩ := hX.all
      go_region_held3 (fun w' => Ex w a f n i c t w' ∧ w'.cell? ⟨a, 0, none⟩ = some (.int .u64 n) ∧ w'.cell? ⟨a, 1, none⟩ = some (.int .i64 i) ∧ w'.cell? ⟨a, 2, none⟩ = some (.int .i64 c) ∧ w'.cell? ⟨a, 3, none⟩ = some (.int .i64 t) ∧ w'.cell? ⟨f, 0, none⟩ = some (.int .u64 (mask (ful n) : Nat)))
        (first | exact hX.all | exact hX.drew.all | exact ⟨by assumption, by assumption, by assumption, by assumption, by assumption, by assumption⟩ | go_keep)
        ((first
          | (go_at_call 21; (with_reducible refine (keeps (hf.out _) (fun w' hb => Ex.keep (by first | exact hX | exact hX.drew | exact hX.drewN _) hb)).mono ?_); rintro e w' ⟨rfl, hX⟩)
          | (go_at_call 23; (with_reducible refine (rget_any n i _ h).mono ?_); rintro e w' ⟨rfl, rfl⟩)))
      go_wp2_with fail
      go_meet
      case rel => exact ⟨rfl, by first | exact hX | exact hX.drew | exact hX.drewN _⟩
theorem exact_all (n i c t : Int) (w : World) (hTab : Tab w) (hn : 0 ≤ n ∧ n < 18446744073709551616) :
    Calls Tryd.prog 5 #[.agg #[.int .u64 n, .int .i64 i, .int .i64 c, .int .i64 t]] w fun e w' => e = .returned (.bool true) ∧ Below w.heap.size w w' := by
  obtain ⟨n, rfl⟩ := Int.eq_ofNat_of_zero_le hn.1
  have h : n < 18446744073709551616 := by omega
  refine exact_from n i c t w hTab h (fun w => ?_)
  by_cases hi : 0 ≤ i ∧ i ≤ 7
  · obtain ⟨k, rfl⟩ := Int.eq_ofNat_of_zero_le hi.1
    have hk : k < 8 := by omega
    refine has_is (ful n) k _ w hk ?_
    have e : getF n k = (byt n k : Nat) := by unfold getF; rw [if_pos hi, Int.toNat_natCast]
    rw [e]
    unfold ful
    rw [Bool.eq_iff_iff]; simp; omega
  · have h1 := has_no (ful n) i w (by omega)
    have e : (decide (0 ≤ i) && (decide (i ≤ 7) && decide (getF n i ≤ 127))) = false := by
      rw [Bool.eq_false_iff]; simp; omega
    rw [e]; exact h1
end Go.Proofs.YtakmaedimelaaaaDoor
