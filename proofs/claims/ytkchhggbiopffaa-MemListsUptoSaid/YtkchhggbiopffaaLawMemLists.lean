/- What is proved: the given statement MemListsUptoSaid: for every text and every script of bulk at most 1048576 the law MemLists answers true. Its conditions: the bound of the given statement. -/
import Derived.Test.YtkchhggbiopffaaRow
import Derived.Test.YtkchhggbiopffaaQMain
import Derived.Test.YtkchhggbiopffaaRowOps
namespace Go.Proofs.Ytkchhggbiopffaa.memLists
open Go.ChangeShapes Go.WideShapes Go.ChangeAt Go.RowKit Go.Joins Pm
open Go.ChangeMaps (open_string shut_string)
set_option linter.unusedVariables false
set_option linter.unusedSimpArgs false
set_option maxRecDepth 100000 in
theorem lifted (os : Os) (started : os.Started) (H : Type) (enc : TypeId × Value → H) (F0 : Stop.Interp) :
    ReturnsInHanded {} Try.checked os 11 .any ((Rows.OpenSpec.upto Rows.memListsSpec).pre6 enc Try.prog Try.f11 Rows.memListsUptoRow.domain false) (((Rows.OpenSpec.upto Rows.memListsSpec).at F0).post enc Try.prog Try.f11 false true false false) := by
  refine returnsInHanded_of_cond (C := Try.checked) (s := Rows.OpenSpec.upto Rows.memListsSpec) (k := Rows.uptoSmall) rfl own started (by kernel_rfl) Try.func11
    (OpenSpec.witness (enc := enc) (C := Try.checked) (s := Rows.OpenSpec.upto Rows.memListsSpec) (k := Rows.uptoSmall) rfl false ⟨#[], #[.string ByteArray.empty, .slice none 0 0], []⟩ 8 (by kernel_rfl) (by kernel_rfl) (by kernel_rfl) (x := ([.lit (.string []), .nil], [], [])) (by kernel_rfl) rfl (by kernel_rfl)) ?_
  intro W base args ds gs before hval0 hW _ hk _
  have hval : ∀ (j : Nat) t v, Try.f11.params[j]? = some t → args[j]? = some v → Value.okWide Try.prog W .any base t v := hval0
  have hW' := hW
  obtain ⟨p, q, hA0, hV, rfl, hfz, hnd⟩ := hW
  have hA : DataW.TrodAll enc Try.prog W 0 (fun _ => true) true Try.f11.params.toList args.toList ds p := hA0
  rw [Try.params11] at hA hval
  have hA1 := hA
  obtain ⟨v0, vs0, d0, ds0, p0, q0, hargs, rfl, rfl, h0, r0⟩ := trodAll_cons hA
  obtain ⟨v1, vs1, d1, ds1, p1, q1, rfl, rfl, rfl, h1, r1⟩ := trodAll_cons r0
  obtain ⟨rfl, rfl, rfl⟩ := trodAll_nil r1
  obtain rfl : args = #[v0, v1] := by cases args; simp_all
  obtain ⟨rfl, rfl⟩ := trodVars_none hV
  have hkk : Rows.uptoBulkAll ([d0, d1] ++ ([] : List (DataW H))) ≤ 1048576 := of_decide_eq_true hk
  simp only [List.append_nil, Rows.uptoBulkAll] at hkk
  obtain ⟨A, os, c, rfl, hak, hlen⟩ := open_ops (hval 1 54 v1 rfl rfl) h1 (by omega)
  obtain ⟨a0, rfl, rfl, rfl, w0⟩ := open_string Try.underlying9 (hval 0 9 v0 rfl rfl) h0
  refine (memLists_all a0 A c os _ W rfl hak hlen (by simp [Rows.uptoBulk] at hkk; omega)).mono fun e W' ⟨he, bel⟩ => ?_
  subst he
  exact ⟨_, rfl, _, _, _, [], _, [], hW', trodAll_mk1 (shut_bool Try.underlying4 _), trodAll_below bel _ _ _ _ (by kernel_rfl) hA1 (fun x hx => hW'.lt x (List.mem_append.2 (Or.inl hx))), rfl, bel.frame _, fun h => by cases h⟩
theorem over : Rows.memListsUptoRow.holds Try.pinned (Rows.OpenSpec.upto Rows.memListsSpec) :=
  OpenClaim.holds_of_cond 11 Try.f11 rfl rfl rfl rfl rfl rfl rfl ⟨rfl, rfl, rfl, rfl, rfl⟩ rfl rfl rfl rfl rfl (by kernel_rfl) Try.func11 (by kernel_rfl)
    (of_decide_eq_true (by kernel_rfl)) (by unfold Func.isWrapper; first | (rw [if_pos (by decide +kernel)]; kernel_rfl) | (rw [if_neg (by decide +kernel)]; exact ⟨rfl, rfl⟩))
    (fun os started H enc _ F0 => lifted os started H enc F0)
end Go.Proofs.Ytkchhggbiopffaa.memLists
namespace Go.Proofs.Ytkchhggbiopffaa
theorem memLists_holds : Rows.MemListsUptoSaid := memLists.over
#print axioms memLists_holds
end Go.Proofs.Ytkchhggbiopffaa
