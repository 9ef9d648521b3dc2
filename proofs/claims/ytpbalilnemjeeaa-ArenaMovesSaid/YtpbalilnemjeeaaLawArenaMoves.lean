/- What is proved: the given statement ArenaMovesSaid: for every text, places, number and byte the law ArenaMoves answers true. No condition. -/
import Derived.Test.YtpbalilnemjeeaaRow
import Derived.Test.YtpbalilnemjeeaaAMoves
namespace Go.Proofs.Ytpbalilnemjeeaa.arenaMoves
open Go.ChangeShapes Go.WideShapes Go.ChangeAt Go.RowKit Go.Joins Pl
open Go.ChangeMaps (open_string shut_string)
set_option linter.unusedVariables false
set_option linter.unusedSimpArgs false
set_option maxRecDepth 100000 in
theorem lifted (os : Os) (started : os.Started) (H : Type) (enc : TypeId × Value → H) :
    ReturnsInHanded {} Try.checked os 3 .any (Rows.arenaMovesSpec.pre6 enc Try.prog Try.f3 Rows.arenaMovesRow.domain false) (Rows.arenaMovesSpec.post enc Try.prog Try.f3 false true false false) := by
  refine returnsInHanded_of_change_sized (C := Try.checked) own started (by kernel_rfl) Try.func3
    (ChangeSpec.witness6 (enc := enc) (C := Try.checked) false ⟨#[], #[.agg #[.string { data := #[] }, .int .i64 0, .int .i64 0, .int .i64 0, .int .u8 0]], []⟩ 8 (by kernel_rfl) (by kernel_rfl) (by kernel_rfl) (by kernel_rfl)) ?_
  intro W base args ds gs before hval0 hW hcnd hsz0 _
  have hsz : (DataW.weightsEach Try.prog (Try.f3.params.toList ++ Rows.arenaMovesSpec.plain.varTypes Try.prog) (ds ++ gs)).all (· ≤ reachBytes) = true := hsz0
  have hval : ∀ (j : Nat) t v, Try.f3.params[j]? = some t → args[j]? = some v → Value.okWide Try.prog W .any base t v := hval0
  have hW' := hW
  obtain ⟨p, q, hA0, hV, rfl, hfz, hnd⟩ := hW
  have hA : DataW.TrodAll enc Try.prog W 0 (fun _ => true) true Try.f3.params.toList args.toList ds p := hA0
  rw [Try.params3] at hA hval hsz
  have hA1 := hA
  obtain ⟨v0, vs0, d0, ds0, p0, q0, hargs, rfl, rfl, h0, r0⟩ := trodAll_cons hA
  obtain ⟨rfl, rfl, rfl⟩ := trodAll_nil r0
  obtain rfl : args = #[v0] := by cases args; simp_all
  obtain ⟨rfl, rfl⟩ := trodVars_none hV
  obtain ⟨xcs, rfl, xsz, xfl⟩ := open_struct Try.underlying23 (by kernel_rfl) (by kernel_rfl) (hval 0 23 v0 rfl rfl) h0
  obtain ⟨xc0, xc1, xc2, xc3, xc4, rfl⟩ := arr5 xsz
  obtain ⟨_, _, xt0⟩ := xfl 0 _ _ rfl rfl
  obtain ⟨x0, xe0, _, xw0⟩ := DataW.trod_string Try.underlying9 xt0
  obtain rfl := (List.cons.inj xe0).1
  obtain ⟨_, _, xt1⟩ := xfl 1 _ _ rfl rfl
  obtain ⟨x1, xe1, _, xw1⟩ := DataW.trod_int Try.underlying3 xt1
  obtain rfl := (List.cons.inj xe1).1
  obtain ⟨_, _, xt2⟩ := xfl 2 _ _ rfl rfl
  obtain ⟨x2, xe2, _, xw2⟩ := DataW.trod_int Try.underlying3 xt2
  obtain rfl := (List.cons.inj xe2).1
  obtain ⟨_, _, xt3⟩ := xfl 3 _ _ rfl rfl
  obtain ⟨x3, xe3, _, xw3⟩ := DataW.trod_int Try.underlying3 xt3
  obtain rfl := (List.cons.inj xe3).1
  obtain ⟨_, _, xt4⟩ := xfl 4 _ _ rfl rfl
  obtain ⟨x4, xe4, _, xw4⟩ := DataW.trod_int Try.underlying5 xt4
  obtain rfl := (List.cons.inj xe4).1
  have xb4 := bounds_u8 xw4
  obtain ⟨c, rfl⟩ : ∃ c : UInt8, x4 = (c.toNat : Int) := ⟨UInt8.ofNat x4.toNat, by simp; omega⟩
  refine (moves_all _ _ _ _ _ W (by have := bounds_i64 xw3; omega)).mono fun e W' ⟨he, bel⟩ => ?_
  subst he
  exact ⟨_, rfl, _, _, _, [], _, [], hW', trodAll_mk1 (shut_bool Try.underlying4 _), trodAll_below bel _ _ _ _ (by kernel_rfl) hA1 (fun x hx => hW'.lt x (List.mem_append.2 (Or.inl hx))), rfl, bel.frame _, fun h => by cases h⟩
theorem over : Rows.arenaMovesRow.holds Try.pinned (OpenSpec.ofChange Rows.arenaMovesSpec) :=
  OpenClaim.holds_of_wide 3 Try.f3 rfl rfl rfl rfl rfl rfl rfl ⟨rfl, rfl, rfl, rfl, rfl⟩ rfl rfl rfl rfl rfl (by kernel_rfl) Try.func3 (by kernel_rfl)
    (of_decide_eq_true (by kernel_rfl)) (by unfold Func.isWrapper; first | (rw [if_pos (by decide +kernel)]; kernel_rfl) | (rw [if_neg (by decide +kernel)]; exact ⟨rfl, rfl⟩))
    (fun os started H enc _ => lifted os started H enc)
end Go.Proofs.Ytpbalilnemjeeaa.arenaMoves
namespace Go.Proofs.Ytpbalilnemjeeaa
theorem arenaMoves_holds : Rows.ArenaMovesSaid := arenaMoves.over
#print axioms arenaMoves_holds
end Go.Proofs.Ytpbalilnemjeeaa
