/- What is proved: the given statement CtrlSetsSaid: for every word and every two asks the law CtrlSets answers true. Its conditions: none. -/
import Derived.Test.YtakmaedimelaaaaRow
import Derived.Test.YtakmaedimelaaaaCSets
namespace Go.Proofs.Ytakmaedimelaaaa.ctrlSets
open Go.ChangeShapes Go.WideShapes Go.ChangeAt Go.RowKit Go.Joins Pl
open Go.ChangeMaps (open_string shut_string)
set_option linter.unusedVariables false
set_option linter.unusedSimpArgs false
set_option maxRecDepth 100000 in
theorem lifted (os : Os) (started : os.Started) (H : Type) (enc : TypeId × Value → H) :
    ReturnsInHanded {} Try.checked os 3 .any (Rows.ctrlSetsSpec.pre6 enc Try.prog Try.f3 Rows.ctrlSetsRow.domain false) (Rows.ctrlSetsSpec.post enc Try.prog Try.f3 false true false false) := by
  refine returnsInHanded_of_change_sized (C := Try.checked) own started (by kernel_rfl) Try.func3
    (ChangeSpec.witness6 (enc := enc) (C := Try.checked) false ⟨#[], #[.int .u64 0, .agg #[.int .u64 0, .int .i64 0, .int .i64 0, .int .i64 0], .agg #[.int .u64 0, .int .i64 0, .int .i64 0, .int .i64 0]], []⟩ 8 (by kernel_rfl) (by kernel_rfl) (by kernel_rfl) (by kernel_rfl)) ?_
  intro W base args ds gs before hval0 hW hcnd hsz0 _
  have hsz : (DataW.weightsEach Try.prog (Try.f3.params.toList ++ Rows.ctrlSetsSpec.plain.varTypes Try.prog) (ds ++ gs)).all (· ≤ reachBytes) = true := hsz0
  have hval : ∀ (j : Nat) t v, Try.f3.params[j]? = some t → args[j]? = some v → Value.okWide Try.prog W .any base t v := hval0
  have hW' := hW
  obtain ⟨p, q, hA0, hV, rfl, hfz, hnd⟩ := hW
  have hA : DataW.TrodAll enc Try.prog W 0 (fun _ => true) true Try.f3.params.toList args.toList ds p := hA0
  rw [Try.params3] at hA hval hsz
  have hA1 := hA
  obtain ⟨v0, vs0, d0, ds0, p0, q0, hargs, rfl, rfl, h0, r0⟩ := trodAll_cons hA
  obtain ⟨v1, vs1, d1, ds1, p1, q1, rfl, rfl, rfl, h1, r1⟩ := trodAll_cons r0
  obtain ⟨v2, vs2, d2, ds2, p2, q2, rfl, rfl, rfl, h2, r2⟩ := trodAll_cons r1
  obtain ⟨rfl, rfl, rfl⟩ := trodAll_nil r2
  obtain rfl : args = #[v0, v1, v2] := by cases args; simp_all
  obtain ⟨rfl, rfl⟩ := trodVars_none hV
  obtain ⟨a0, rfl, rfl, rfl, w0⟩ := open_int Try.underlying22 (hval 0 22 v0 rfl rfl) h0
  have b0 := bounds_u64 w0
  obtain ⟨a0, rfl⟩ := Int.eq_ofNat_of_zero_le b0.1
  obtain ⟨xc0, xc1, xc2, xc3, xy0, xy1, xy2, xy3, xm, rfl, rfl, rfl, xh0, xh1, xh2, xh3⟩ := open_agg4 Try.underlying24 (by kernel_rfl) (by kernel_rfl) (hval 1 24 v1 rfl rfl) h1
  obtain ⟨x0, xe0, xd0, xw0⟩ := DataW.trod_int Try.underlying22 xh0
  simp at xe0
  subst xe0
  obtain ⟨x1, xe1, xd1, xw1⟩ := DataW.trod_int Try.underlying3 xh1
  simp at xe1
  subst xe1
  obtain ⟨x2, xe2, xd2, xw2⟩ := DataW.trod_int Try.underlying3 xh2
  simp at xe2
  subst xe2
  obtain ⟨x3, xe3, xd3, xw3⟩ := DataW.trod_int Try.underlying3 xh3
  simp at xe3
  subst xe3
  obtain ⟨yc0, yc1, yc2, yc3, yy0, yy1, yy2, yy3, ym, rfl, rfl, rfl, yh0, yh1, yh2, yh3⟩ := open_agg4 Try.underlying24 (by kernel_rfl) (by kernel_rfl) (hval 2 24 v2 rfl rfl) h2
  obtain ⟨y0, ye0, yd0, yw0⟩ := DataW.trod_int Try.underlying22 yh0
  simp at ye0
  subst ye0
  obtain ⟨y1, ye1, yd1, yw1⟩ := DataW.trod_int Try.underlying3 yh1
  simp at ye1
  subst ye1
  obtain ⟨y2, ye2, yd2, yw2⟩ := DataW.trod_int Try.underlying3 yh2
  simp at ye2
  subst ye2
  obtain ⟨y3, ye3, yd3, yw3⟩ := DataW.trod_int Try.underlying3 yh3
  simp at ye3
  subst ye3
  refine (sets_all a0 _ _ _ _ _ _ _ _ W (by omega) (bounds_i64 xw1) (bounds_i64 xw2)).mono fun e W' ⟨he, bel⟩ => ?_
  subst he
  exact ⟨_, rfl, _, _, _, [], _, [], hW', trodAll_mk1 (shut_bool Try.underlying4 _), trodAll_below bel _ _ _ _ (by kernel_rfl) hA1 (fun x hx => hW'.lt x (List.mem_append.2 (Or.inl hx))), rfl, bel.frame _, fun h => by cases h⟩
theorem over : Rows.ctrlSetsRow.holds Try.pinned (OpenSpec.ofChange Rows.ctrlSetsSpec) :=
  OpenClaim.holds_of_wide 3 Try.f3 rfl rfl rfl rfl rfl rfl rfl ⟨rfl, rfl, rfl, rfl, rfl⟩ rfl rfl rfl rfl rfl (by kernel_rfl) Try.func3 (by kernel_rfl)
    (of_decide_eq_true (by kernel_rfl)) (by unfold Func.isWrapper; first | (rw [if_pos (by decide +kernel)]; kernel_rfl) | (rw [if_neg (by decide +kernel)]; exact ⟨rfl, rfl⟩))
    (fun os started H enc _ => lifted os started H enc)
end Go.Proofs.Ytakmaedimelaaaa.ctrlSets
namespace Go.Proofs.Ytakmaedimelaaaa
theorem ctrlSets_holds : Rows.CtrlSetsSaid := ctrlSets.over
#print axioms ctrlSets_holds
end Go.Proofs.Ytakmaedimelaaaa
