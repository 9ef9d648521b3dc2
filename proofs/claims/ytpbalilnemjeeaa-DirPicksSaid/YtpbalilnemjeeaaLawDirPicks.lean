/- What is proved: the given statement DirPicksSaid: for every list of offsets and hash the law DirPicks answers true. No condition. -/
import Derived.Test.YtpbalilnemjeeaaRow
import Derived.Test.YtpbalilnemjeeaaRowInts
import Derived.Test.YtpbalilnemjeeaaDPicks
namespace Go.Proofs.Ytpbalilnemjeeaa.dirPicks
open Go.ChangeShapes Go.WideShapes Go.ChangeAt Go.RowKit Go.Joins Pl Pd
open Go.ChangeMaps (open_string shut_string)
set_option linter.unusedVariables false
set_option linter.unusedSimpArgs false
set_option maxRecDepth 100000 in
theorem lifted (os : Os) (started : os.Started) (H : Type) (enc : TypeId × Value → H) :
    ReturnsInHanded {} Try.checked os 14 .any (Rows.dirPicksSpec.pre6 enc Try.prog Try.f14 Rows.dirPicksRow.domain false) (Rows.dirPicksSpec.post enc Try.prog Try.f14 false true false false) := by
  refine returnsInHanded_of_change_sized (C := Try.checked) own started (by kernel_rfl) Try.func14
    (ChangeSpec.witness6 (enc := enc) (C := Try.checked) false ⟨#[], #[.slice none 0 0, .int .u64 0], []⟩ 8 (by kernel_rfl) (by kernel_rfl) (by kernel_rfl) (by kernel_rfl)) ?_
  intro W base args ds gs before hval0 hW hcnd hsz0 _
  have hsz : (DataW.weightsEach Try.prog (Try.f14.params.toList ++ Rows.dirPicksSpec.plain.varTypes Try.prog) (ds ++ gs)).all (· ≤ reachBytes) = true := hsz0
  have hval : ∀ (j : Nat) t v, Try.f14.params[j]? = some t → args[j]? = some v → Value.okWide Try.prog W .any base t v := hval0
  have hW' := hW
  obtain ⟨p, q, hA0, hV, rfl, hfz, hnd⟩ := hW
  have hA : DataW.TrodAll enc Try.prog W 0 (fun _ => true) true Try.f14.params.toList args.toList ds p := hA0
  rw [Try.params14] at hA hval hsz
  have hA1 := hA
  obtain ⟨v0, vs0, d0, ds0, p0, q0, hargs, rfl, rfl, h0, r0⟩ := trodAll_cons hA
  obtain ⟨v1, vs1, d1, ds1, p1, q1, rfl, rfl, rfl, h1, r1⟩ := trodAll_cons r0
  obtain ⟨rfl, rfl, rfl⟩ := trodAll_nil r1
  obtain rfl : args = #[v0, v1] := by cases args; simp_all
  obtain ⟨rfl, rfl⟩ := trodVars_none hV
  obtain ⟨A, zs, c, rfl, hz, hA9, hal, hrg⟩ := open_list (hval 0 29 v0 rfl rfl) h0 0 hsz rfl rfl
  obtain ⟨a1, rfl, rfl, rfl, w1⟩ := open_int Try.underlying41 (hval 1 41 v1 rfl rfl) h1
  have b1 := bounds_u64 w1
  obtain ⟨a1, rfl⟩ := Int.eq_ofNat_of_zero_le (show 0 ≤ a1 by omega)
  refine (picks_all W A c zs a1 (by omega) hz hA9 hal hrg).mono fun e W' ⟨he, bel⟩ => ?_
  subst he
  exact ⟨_, rfl, _, _, _, [], _, [], hW', trodAll_mk1 (shut_bool Try.underlying4 _), trodAll_below bel _ _ _ _ (by kernel_rfl) hA1 (fun x hx => hW'.lt x (List.mem_append.2 (Or.inl hx))), rfl, bel.frame _, fun h => by cases h⟩
theorem over : Rows.dirPicksRow.holds Try.pinned (OpenSpec.ofChange Rows.dirPicksSpec) :=
  OpenClaim.holds_of_wide 14 Try.f14 rfl rfl rfl rfl rfl rfl rfl ⟨rfl, rfl, rfl, rfl, rfl⟩ rfl rfl rfl rfl rfl (by kernel_rfl) Try.func14 (by kernel_rfl)
    (of_decide_eq_true (by kernel_rfl)) (by unfold Func.isWrapper; first | (rw [if_pos (by decide +kernel)]; kernel_rfl) | (rw [if_neg (by decide +kernel)]; exact ⟨rfl, rfl⟩))
    (fun os started H enc _ => lifted os started H enc)
end Go.Proofs.Ytpbalilnemjeeaa.dirPicks
namespace Go.Proofs.Ytpbalilnemjeeaa
theorem dirPicks_holds : Rows.DirPicksSaid := dirPicks.over
#print axioms dirPicks_holds
end Go.Proofs.Ytpbalilnemjeeaa
