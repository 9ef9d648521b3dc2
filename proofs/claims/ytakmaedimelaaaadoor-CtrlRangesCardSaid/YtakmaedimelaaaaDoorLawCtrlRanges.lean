/- What is proved: the given card CtrlRangesCardSaid: for every word, kind of set, tag and bound the law CtrlRanges answers true. Its conditions: none; the library table lies as its initialiser lays it (tied). -/
import Derived.Test.YtakmaedimelaaaaDoorRowLaid
import Derived.Test.YtakmaedimelaaaaDoorCRanges
import Derived.Test.YtakmaedimelaaaaDoorCards
import Derived.SevenTiedAt
namespace Go.Proofs.YtakmaedimelaaaaDoor.ctrlRanges
open Go Go.ChangeShapes Go.WideShapes Go.ChangeAt Go.RowKit Go.Joins Pl
open Go.ChangeMaps (open_string shut_string)
set_option linter.unusedVariables false
set_option linter.unusedSimpArgs false
set_option maxRecDepth 100000 in
theorem lifted (os : Os) (started : os.Started) (H : Type) (enc : TypeId × Value → H) :
    ReturnsInHanded {} Tryd.checked os 3 .any (fun w args => (Rows.ctrlRangesSpec.pre enc Tryd.prog Tryd.f3 [] false w args ∧ laidMetH Tryd.prog laid1 w) ∧ sizedMet enc Tryd.prog Tryd.f3 (OpenSpec.ofChange Rows.ctrlRangesSpec) false w args)
      (Rows.ctrlRangesSpec.post enc Tryd.prog Tryd.f3 false true false false) := by
  refine returnsInHanded_of_change_and (C := Tryd.checked) (X := fun w _ => laidMetH Tryd.prog laid1 w) (fun _ _ _ hh h => h.of_heap hh) own started (by kernel_rfl) Tryd.func3
    (ChangeSpec.witness_shaped (enc := enc) (C := Tryd.checked) (os := os) (X := fun w _ => laidMetH Tryd.prog laid1 w) false (World.doorLaid Tryd.prog 14 os) #[.agg #[.int .u64 0, .int .i64 0, .int .i64 0, .int .i64 0], .int .i64 0] 8 rfl (World.shaped_of_RefB (by kernel_rfl) (by kernel_rfl)) (by kernel_rfl) (by kernel_rfl) (by kernel_rfl) (door_met os _ rfl)) ?_
  intro W base args ds gs before hval0 hW hcnd hsz0 hL _
  have hsz : (DataW.weightsEach Tryd.prog (Tryd.f3.params.toList ++ Rows.ctrlRangesSpec.plain.varTypes Tryd.prog) (ds ++ gs)).all (· ≤ reachBytes) = true := hsz0
  have hval : ∀ (j : Nat) t v, Tryd.f3.params[j]? = some t → args[j]? = some v → Value.okWide Tryd.prog W .any base t v := hval0
  have hW' := hW
  obtain ⟨p, q, hA0, hV, rfl, hfz, hnd⟩ := hW
  have hA : DataW.TrodAll enc Tryd.prog W 0 (fun _ => true) true Tryd.f3.params.toList args.toList ds p := hA0
  rw [Tryd.params3] at hA hval hsz
  have hA1 := hA
  have hTab := tab_of_laid hL
  obtain ⟨v0, vs0, d0, ds0, p0, q0, hargs, rfl, rfl, h0, r0⟩ := trodAll_cons hA
  obtain ⟨v1, vs1, d1, ds1, p1, q1, rfl, rfl, rfl, h1, r1⟩ := trodAll_cons r0
  obtain ⟨rfl, rfl, rfl⟩ := trodAll_nil r1
  obtain rfl : args = #[v0, v1] := by cases args; simp_all
  obtain ⟨rfl, rfl⟩ := trodVars_none hV
  obtain ⟨xc0, xc1, xc2, xc3, xy0, xy1, xy2, xy3, xm, rfl, rfl, rfl, xh0, xh1, xh2, xh3⟩ := open_agg4 Tryd.underlying24 (by kernel_rfl) (by kernel_rfl) (hval 0 24 v0 rfl rfl) h0
  obtain ⟨x0, xe0, xd0, xw0⟩ := DataW.trod_int Tryd.underlying22 xh0
  simp at xe0
  subst xe0
  obtain ⟨x1, xe1, xd1, xw1⟩ := DataW.trod_int Tryd.underlying3 xh1
  simp at xe1
  subst xe1
  obtain ⟨x2, xe2, xd2, xw2⟩ := DataW.trod_int Tryd.underlying3 xh2
  simp at xe2
  subst xe2
  obtain ⟨x3, xe3, xd3, xw3⟩ := DataW.trod_int Tryd.underlying3 xh3
  simp at xe3
  subst xe3
  obtain ⟨a1, rfl, rfl, rfl, w1⟩ := open_int Tryd.underlying3 (hval 1 3 v1 rfl rfl) h1
  refine (ranges_any _ _ _ _ _ W hTab (by have := bounds_u64 xw0; omega)).mono fun e W' ⟨he, bel⟩ => ?_
  subst he
  exact ⟨_, rfl, _, _, _, [], _, [], hW', trodAll_mk1 (shut_bool Tryd.underlying4 _), trodAll_below bel _ _ _ _ (by kernel_rfl) hA1 (fun x hx => hW'.lt x (List.mem_append.2 (Or.inl hx))), rfl, bel.frame _, fun h => by cases h⟩
theorem over : Rows.CtrlRangesSaid :=
  OpenClaim.holds_of_wide 3 Tryd.f3 rfl rfl rfl rfl rfl rfl rfl ⟨rfl, rfl, rfl, rfl, rfl⟩ rfl rfl rfl rfl rfl (by kernel_rfl) Tryd.func3 (by kernel_rfl)
    (of_decide_eq_true (by kernel_rfl)) (by unfold Func.isWrapper; first | (rw [if_pos (by decide +kernel)]; kernel_rfl) | (rw [if_neg (by decide +kernel)]; exact ⟨rfl, rfl⟩))
    (fun os started H enc _ => lifted os started H enc)
theorem card : Rows.CtrlRangesCardSaid :=
  Claim7.holds_tied_plain_at .later [] [.data] true (true, "0b9de0dd84034b9a6f48cadad435ad8824156a12b7ecff655edd30c0b8e335a4") false
    over (fun _ h => by cases h) (by kernel_rfl) (fun _ h => by cases h) ctrlRanges_row_tie rfl ⟨rfl, rfl⟩ (by kernel_rfl) rfl
    (fun f fn hf hfn => by
      obtain rfl : f = 3 := Option.some.inj ((show Tryd.prog.funcNamed "larder/larderlaw05.CtrlRanges" = some 3 by kernel_rfl).symm.trans hf) |>.symm
      obtain rfl : fn = Tryd.f3 := (Option.some.inj (Tryd.func3.symm.trans hfn)).symm
      exact ⟨by kernel_rfl, fun j t ht => by
        rw [Tryd.params3] at ht
        have hm : t ∈ [24, 3] := by simpa using Array.mem_of_getElem? ht
        have hall : ([24, 3].all fun u => !Tryd.prog.wantsStandIn u) = true := by kernel_rfl
        exact (show Tryd.prog.wantsStandIn t = false by simpa using List.all_eq_true.1 hall t hm)⟩)
    (by kernel_rfl)
end Go.Proofs.YtakmaedimelaaaaDoor.ctrlRanges
namespace Go.Proofs.YtakmaedimelaaaaDoor
theorem ctrlRanges_holds : Rows.CtrlRangesCardSaid := ctrlRanges.card
#print axioms ctrlRanges_holds
end Go.Proofs.YtakmaedimelaaaaDoor
