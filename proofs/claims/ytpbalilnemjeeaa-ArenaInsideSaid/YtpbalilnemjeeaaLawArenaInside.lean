/- What is proved: the given statement ArenaInsideSaid: for every list of sizes, set of dead blocks and span the law ArenaInside answers true. No condition. -/
import Derived.Test.YtpbalilnemjeeaaRow
import Derived.Test.YtpbalilnemjeeaaRowField
import Derived.Test.YtpbalilnemjeeaaAInside
namespace Go.Proofs.Ytpbalilnemjeeaa.arenaInside
open Go.ChangeShapes Go.WideShapes Go.ChangeAt Go.RowKit Go.Joins Pl Pd
open Go.ChangeMaps (open_string shut_string)
set_option linter.unusedVariables false
set_option linter.unusedSimpArgs false
set_option maxRecDepth 100000 in
theorem lifted (os : Os) (started : os.Started) (H : Type) (enc : TypeId × Value → H) :
    ReturnsInHanded {} Try.checked os 7 .any (Rows.arenaInsideSpec.pre6 enc Try.prog Try.f7 Rows.arenaInsideRow.domain false) (Rows.arenaInsideSpec.post enc Try.prog Try.f7 false true false false) := by
  refine returnsInHanded_of_change_sized (C := Try.checked) own started (by kernel_rfl) Try.func7
    (ChangeSpec.witness6 (enc := enc) (C := Try.checked) false ⟨#[], #[.agg #[.slice none 0 0, .int .u64 0, .int .i64 0, .int .i64 0]], []⟩ 8 (by kernel_rfl) (by kernel_rfl) (by kernel_rfl) (by kernel_rfl)) ?_
  intro W base args ds gs before hval0 hW hcnd hsz0 _
  have hsz : (DataW.weightsEach Try.prog (Try.f7.params.toList ++ Rows.arenaInsideSpec.plain.varTypes Try.prog) (ds ++ gs)).all (· ≤ reachBytes) = true := hsz0
  have hval : ∀ (j : Nat) t v, Try.f7.params[j]? = some t → args[j]? = some v → Value.okWide Try.prog W .any base t v := hval0
  have hW' := hW
  obtain ⟨p, q, hA0, hV, rfl, hfz, hnd⟩ := hW
  have hA : DataW.TrodAll enc Try.prog W 0 (fun _ => true) true Try.f7.params.toList args.toList ds p := hA0
  rw [Try.params7] at hA hval hsz
  have hA1 := hA
  obtain ⟨v0, vs0, d0, ds0, p0, q0, hargs, rfl, rfl, h0, r0⟩ := trodAll_cons hA
  obtain ⟨rfl, rfl, rfl⟩ := trodAll_nil r0
  obtain rfl : args = #[v0] := by cases args; simp_all
  obtain ⟨rfl, rfl⟩ := trodVars_none hV
  obtain ⟨xcs, rfl, xsz, xfl⟩ := open_struct_w Try.underlying68 (by kernel_rfl) (by kernel_rfl) (hval 0 68 v0 rfl rfl) h0 0 hsz rfl rfl
  obtain ⟨xc0, xc1, xc2, xc3, rfl⟩ := arr4 xsz
  obtain ⟨_, _, xt0, xw0⟩ := xfl 0 _ _ rfl rfl
  obtain ⟨A, zs, c, rfl, hz, hA9, hal, hrg⟩ := open_list_cell xt0 xw0
  obtain ⟨_, _, xt1, _⟩ := xfl 1 _ _ rfl rfl
  obtain ⟨x1, xe1, _, xw1⟩ := DataW.trod_int Try.underlying41 xt1
  obtain rfl := (List.cons.inj xe1).1
  obtain ⟨_, _, xt2, _⟩ := xfl 2 _ _ rfl rfl
  obtain ⟨x2, xe2, _, xw2⟩ := DataW.trod_int Try.underlying3 xt2
  obtain rfl := (List.cons.inj xe2).1
  obtain ⟨_, _, xt3, _⟩ := xfl 3 _ _ rfl rfl
  obtain ⟨x3, xe3, _, xw3⟩ := DataW.trod_int Try.underlying3 xt3
  obtain rfl := (List.cons.inj xe3).1
  have xb1 := bounds_u64 xw1
  have xb2 := bounds_i64 xw2
  have xb3 := bounds_i64 xw3
  obtain ⟨x1, rfl⟩ := Int.eq_ofNat_of_zero_le (show 0 ≤ x1 by omega)
  refine (inside_all W A c zs x1 (by omega) x2 x3 (by omega) (by omega) hz hal).mono fun e W' ⟨he, bel⟩ => ?_
  subst he
  exact ⟨_, rfl, _, _, _, [], _, [], hW', trodAll_mk1 (shut_bool Try.underlying4 _), trodAll_below bel _ _ _ _ (by kernel_rfl) hA1 (fun x hx => hW'.lt x (List.mem_append.2 (Or.inl hx))), rfl, bel.frame _, fun h => by cases h⟩
theorem over : Rows.arenaInsideRow.holds Try.pinned (OpenSpec.ofChange Rows.arenaInsideSpec) :=
  OpenClaim.holds_of_wide 7 Try.f7 rfl rfl rfl rfl rfl rfl rfl ⟨rfl, rfl, rfl, rfl, rfl⟩ rfl rfl rfl rfl rfl (by kernel_rfl) Try.func7 (by kernel_rfl)
    (of_decide_eq_true (by kernel_rfl)) (by unfold Func.isWrapper; first | (rw [if_pos (by decide +kernel)]; kernel_rfl) | (rw [if_neg (by decide +kernel)]; exact ⟨rfl, rfl⟩))
    (fun os started H enc _ => lifted os started H enc)
end Go.Proofs.Ytpbalilnemjeeaa.arenaInside
namespace Go.Proofs.Ytpbalilnemjeeaa
theorem arenaInside_holds : Rows.ArenaInsideSaid := arenaInside.over
#print axioms arenaInside_holds
end Go.Proofs.Ytpbalilnemjeeaa
