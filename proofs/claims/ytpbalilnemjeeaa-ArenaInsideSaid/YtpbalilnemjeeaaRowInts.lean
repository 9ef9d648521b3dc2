/- What is proved here: a list of ints that comes in: its numbers, where they lie, how many they may be. No condition. -/
import Derived.Test.YtpbalilnemjeeaaRow
import Derived.Test.YtpbalilnemjeeaaGF
import Derived.ChangeSlices
import Derived.Deep.Matrix
namespace Go.Proofs.Ytpbalilnemjeeaa
set_option linter.unusedVariables false
set_option linter.unusedSimpArgs false
open Go.ChangeShapes Go.WideShapes Go.ChangeAt Go.RowKit Pd
theorem spot_none {w : World} {a : Addr} {v : Value} (h : w.cell? a = some v) : a.spot = none := by
  unfold World.cell? at h
  split at h
  · split at h
    · cases h
    · rename_i hs; simpa using hs
  · cases h
theorem addr_at {w : World} {a : Addr} {j : Nat} {v : Value} (h : w.cell? (a.add j) = some v) (hs : a.spot = none) : w.cell? ⟨a.block, a.off + j, none⟩ = some v := by
  obtain ⟨b, o, s⟩ := a
  simp only at hs
  subst hs
  have e : (⟨b, o, none⟩ : Addr).add j = ⟨b, o + j, none⟩ := by unfold Addr.add; split <;> simp_all
  rw [e] at h; exact h
theorem add_zero' (a : Addr) : a.add 0 = a := by
  unfold Addr.add; simp
set_option maxRecDepth 100000 in
theorem open_list {H : Type} {enc : TypeId × Value → H} {w : World} {base : Nat} {held : Bool} {r : Reach} {b0 : Nat} {v : Value} {d : DataW H} {p : List MemPlace} {ts : List TypeId} {ds : List (DataW H)}
    (hv : Value.okWide Try.prog w r b0 29 v) (h : DataW.Trod enc Try.prog w base (fun _ => true) held 29 v d p) (j : Nat)
    (hsz : (DataW.weightsEach Try.prog ts ds).all (· ≤ reachBytes) = true) (ht0 : ts[j]? = some 29) (hd0 : ds[j]? = some d) :
    ∃ A zs c, v = .slice A (List.length zs) c ∧ IntsIn w A zs ∧ (A = none → List.length zs = 0 ∧ c = 0) ∧ List.length zs ≤ 17592186044414 ∧ ∀ z ∈ zs, isI z := by
  obtain ⟨a, len, cap, rfl⟩ := okWide_slice Try.underlying29 hv
  obtain ⟨fuel, hf⟩ := h
  rcases open_ints Try.underlying29 Try.underlying3 (by kernel_rfl) hf with ⟨hcs, _⟩ | ⟨a', len', cap', zs, hcs, hb, hl, hm, hlen, hx, hcell, hwf⟩
  · simp [Value.cells] at hcs
    obtain ⟨rfl, rfl, rfl⟩ := hcs
    exact ⟨none, [], 0, rfl, (fun i z h => by simp at h), fun _ => ⟨rfl, rfl⟩, by simp, by simp⟩
  · simp [Value.cells] at hcs
    obtain ⟨rfl, rfl, rfl⟩ := hcs
    simp only [if_true] at hlen
    simp only [Prod.mk.injEq] at hx
    obtain ⟨rfl, _⟩ := hx
    have key : (cap * 8) ∈ DataW.weightsEach Try.prog ts ds := by
      refine DataW.weights_mem_each ht0 hd0 _ ?_
      simp only [DataW.weights, Try.underlying29, List.mem_cons]
      left
      have e8 : Try.prog.bytesOf 3 = 8 := by kernel_rfl
      rw [e8]
      simp [lits]
      omega
    have h9 : cap * 8 ≤ reachBytes := by simpa using List.all_eq_true.1 hsz _ key
    rw [show reachBytes = 140737488351232 from rfl] at h9
    have htl : (zs.take len).length = len := by rw [List.length_take]; omega
    refine ⟨some a', zs.take len, cap, by rw [htl], fun i z hi => ?_, (fun e => by cases e), by rw [htl]; omega, fun z hz => ?_⟩
    · have hilt : i < len := by
        have := (List.getElem?_eq_some_iff.1 hi).1
        omega
      have h0 := hcell 0 (by omega)
      have hs : a'.spot = none := by rw [add_zero'] at h0; exact spot_none h0
      obtain ⟨b, o, s⟩ := a'
      simp only at hs
      subst hs
      refine ⟨b, o, rfl, ?_⟩
      have h1 := hcell i (by omega)
      rw [Addr.add_lit] at h1
      rw [h1]
      rw [List.getElem?_take, if_pos hilt] at hi
      rw [List.getD_eq_getElem?_getD, hi]; rfl
    · have := bounds_i64 (hwf z (List.mem_of_mem_take hz))
      unfold isI; omega
end Go.Proofs.Ytpbalilnemjeeaa
