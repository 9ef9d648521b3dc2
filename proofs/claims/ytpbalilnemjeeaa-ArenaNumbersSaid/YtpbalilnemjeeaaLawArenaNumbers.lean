/- What is proved: the given statement ArenaNumbersSaid: for every place, width, number and byte the law ArenaNumbers answers true. No condition. -/
import Derived.Test.YtpbalilnemjeeaaRow
import Derived.Test.YtpbalilnemjeeaaANumbers
namespace Go.Proofs.Ytpbalilnemjeeaa.arenaNumbers
open Go.ChangeShapes Go.WideShapes Go.ChangeAt Go.RowKit Go.Joins Pl
open Go.ChangeMaps (open_string shut_string)
set_option linter.unusedVariables false
set_option linter.unusedSimpArgs false
set_option maxRecDepth 100000 in
theorem lifted (os : Os) (started : os.Started) (H : Type) (enc : TypeId × Value → H) :
    ReturnsInHanded {} Try.checked os 4 .any (Rows.arenaNumbersSpec.pre6 enc Try.prog Try.f4 Rows.arenaNumbersRow.domain false) (Rows.arenaNumbersSpec.post enc Try.prog Try.f4 false true false false) := by
  refine returnsInHanded_of_change_sized (C := Try.checked) own started (by kernel_rfl) Try.func4
    (ChangeSpec.witness6 (enc := enc) (C := Try.checked) false ⟨#[], #[.agg #[.int .i64 0, .int .i64 0, .int .u64 0, .int .u8 0]], []⟩ 8 (by kernel_rfl) (by kernel_rfl) (by kernel_rfl) (by kernel_rfl)) ?_
  intro W base args ds gs before hval0 hW hcnd hsz0 _
  have hsz : (DataW.weightsEach Try.prog (Try.f4.params.toList ++ Rows.arenaNumbersSpec.plain.varTypes Try.prog) (ds ++ gs)).all (· ≤ reachBytes) = true := hsz0
  have hval : ∀ (j : Nat) t v, Try.f4.params[j]? = some t → args[j]? = some v → Value.okWide Try.prog W .any base t v := hval0
  have hW' := hW
  obtain ⟨p, q, hA0, hV, rfl, hfz, hnd⟩ := hW
  have hA : DataW.TrodAll enc Try.prog W 0 (fun _ => true) true Try.f4.params.toList args.toList ds p := hA0
  rw [Try.params4] at hA hval hsz
  have hA1 := hA
  obtain ⟨v0, vs0, d0, ds0, p0, q0, hargs, rfl, rfl, h0, r0⟩ := trodAll_cons hA
  obtain ⟨rfl, rfl, rfl⟩ := trodAll_nil r0
  obtain rfl : args = #[v0] := by cases args; simp_all
  obtain ⟨rfl, rfl⟩ := trodVars_none hV
  obtain ⟨xc0, xc1, xc2, xc3, xy0, xy1, xy2, xy3, xm, rfl, rfl, rfl, xh0, xh1, xh2, xh3⟩ := open_agg4 Try.underlying43 (by kernel_rfl) (by kernel_rfl) (hval 0 43 v0 rfl rfl) h0
  obtain ⟨x0, xe0, xd0, xw0⟩ := DataW.trod_int Try.underlying3 xh0
  simp at xe0
  subst xe0
  obtain ⟨x1, xe1, xd1, xw1⟩ := DataW.trod_int Try.underlying3 xh1
  simp at xe1
  subst xe1
  obtain ⟨x2, xe2, xd2, xw2⟩ := DataW.trod_int Try.underlying41 xh2
  simp at xe2
  subst xe2
  obtain ⟨x3, xe3, xd3, xw3⟩ := DataW.trod_int Try.underlying5 xh3
  simp at xe3
  subst xe3
  have xb3 := bounds_u8 xw3
  obtain ⟨c, rfl⟩ : ∃ c : UInt8, x3 = (c.toNat : Int) := ⟨UInt8.ofNat x3.toNat, by simp; omega⟩
  refine (numbers_all _ _ _ _ W (by have := bounds_u64 xw2; omega)).mono fun e W' ⟨he, bel⟩ => ?_
  subst he
  exact ⟨_, rfl, _, _, _, [], _, [], hW', trodAll_mk1 (shut_bool Try.underlying4 _), trodAll_below bel _ _ _ _ (by kernel_rfl) hA1 (fun x hx => hW'.lt x (List.mem_append.2 (Or.inl hx))), rfl, bel.frame _, fun h => by cases h⟩
theorem over : Rows.arenaNumbersRow.holds Try.pinned (OpenSpec.ofChange Rows.arenaNumbersSpec) :=
  OpenClaim.holds_of_wide 4 Try.f4 rfl rfl rfl rfl rfl rfl rfl ⟨rfl, rfl, rfl, rfl, rfl⟩ rfl rfl rfl rfl rfl (by kernel_rfl) Try.func4 (by kernel_rfl)
    (of_decide_eq_true (by kernel_rfl)) (by unfold Func.isWrapper; first | (rw [if_pos (by decide +kernel)]; kernel_rfl) | (rw [if_neg (by decide +kernel)]; exact ⟨rfl, rfl⟩))
    (fun os started H enc _ => lifted os started H enc)
end Go.Proofs.Ytpbalilnemjeeaa.arenaNumbers
namespace Go.Proofs.Ytpbalilnemjeeaa
theorem arenaNumbers_holds : Rows.ArenaNumbersSaid := arenaNumbers.over
#print axioms arenaNumbers_holds
end Go.Proofs.Ytpbalilnemjeeaa
