/- What is proved here: a list of lists of ints that came in: its cells; how long each is at most. No condition. -/
import Derived.Test.YtlfppmdehkhjiaaRowAsks
import Derived.Test.YtlfppmdehkhjiaaLParses
import Derived.Deep.Matrix
import Derived.SizedLaws
namespace Go.Proofs.Ytlfppmdehkhjiaa
open Go.ChangeShapes Go.WideShapes Go.ChangeAt Go.RowKit Go.Deep Pl
set_option linter.unusedVariables false
set_option linter.unusedSimpArgs false
theorem weights_mem_all {H : Type} {P : Program} {e : TypeId} : ∀ {l : List (DataW H)} {d : DataW H}, d ∈ l → ∀ n ∈ d.weights P e, n ∈ DataW.weightsAll P e l
  | [], _, h, _, _ => by simp at h
  | x :: r, d, h, n, hn => by
    simp only [DataW.weightsAll, List.mem_append]
    rcases List.mem_cons.1 h with rfl | h
    · exact Or.inl hn
    · exact Or.inr (weights_mem_all h n hn)
section
variable {H : Type} {enc : TypeId × Value → H} {w : World} {base : Nat} {held : Bool}
theorem open_lists {r : Reach} {b0 : Nat} {v : Value} {d : DataW H} {p : List MemPlace} {ts : List TypeId} {ds : List (DataW H)} (hv : Value.okWide Try.prog w r b0 22 v) (h : DataW.Trod enc Try.prog w base (fun _ => true) held 22 v d p)
    (hsz : (DataW.weightsEach Try.prog ts ds).all (· ≤ reachBytes) = true) (ht0 : ts[0]? = some 22) (hd0 : ds[0]? = some d) :
    ∃ A zss c, v = .slice A (List.length zss) c ∧ ListsAt w A zss ∧ (List.length zss) ≤ maxLen := by
  obtain ⟨a, len, cap, rfl⟩ := okWide_slice Try.underlying22 hv
  obtain ⟨fuel, hf⟩ := h
  rcases open_int_rows Try.underlying22 Try.underlying27 Try.underlying3 (by kernel_rfl) (by kernel_rfl) hf with ⟨hcs, _⟩ | ⟨a', len', cap', A, L, C, Z, hcs, hb, hl, hm, hx, hr⟩
  · simp [Value.cells] at hcs
    obtain ⟨rfl, rfl, rfl⟩ := hcs
    exact ⟨none, [], 0, rfl, fun i zs h => by simp at h, by simp⟩
  · simp [Value.cells] at hcs
    obtain ⟨rfl, rfl, rfl⟩ := hcs
    simp only [Prod.mk.injEq] at hx
    obtain ⟨rfl, _⟩ := hx
    have hC : ∀ i, i < len → C i ≤ 17592186044414 := by
      intro i hi
      obtain ⟨h1, h2, h3, h4, h5, h6, h7⟩ := hr i (by omega)
      cases hA : A i with
      | none => rw [h6 hA]; omega
      | some ad =>
        have key : (C i * 8) ∈ DataW.weightsEach Try.prog ts ds := by
          refine DataW.weights_mem_each ht0 hd0 _ ?_
          simp only [DataW.weights, Try.underlying22, List.mem_cons, List.mem_append]
          refine Or.inr (Or.inl (weights_mem_all (List.mem_map.2 ⟨i, List.mem_range.2 hi, rfl⟩) _ ?_))
          simp only [intRow, hA, DataW.weights, Try.underlying27, List.mem_cons]
          left
          have e8 : Try.prog.bytesOf 3 = 8 := by kernel_rfl
          rw [e8]
          simp [lits, h4]
          omega
        have h9 : C i * 8 ≤ reachBytes := by simpa using List.all_eq_true.1 hsz _ key
        rw [show reachBytes = 140737488351232 from rfl] at h9
        omega
    refine ⟨some a', (List.range len).map (fun i => (Z i).take (L i)), cap, by simp, ?_, by simp; omega⟩
    intro i zs hi
    rw [List.getElem?_map] at hi
    obtain ⟨i', hi', rfl⟩ := Option.map_eq_some_iff.1 hi
    have hlt : i < len := by
      have := (List.getElem?_eq_some_iff.1 hi').1
      simpa using this
    obtain rfl : i = i' := by
      rw [List.getElem?_range hlt] at hi'
      exact Option.some.inj hi'
    obtain ⟨h1, h2, h3, h4, h5, h6, h7⟩ := hr i (by omega)
    have hlen : ((Z i).take (L i)).length = L i := by rw [List.length_take]; omega
    have hs : a'.spot = none := by have h0 := (hr 0 (by omega)).1; rw [add_zero'] at h0; exact spot_none h0
    refine ⟨a'.block, a'.off, A i, C i, ?_, by rw [hlen]; exact addr_at h1 hs, ?_, fun hn => ?_, by rw [hlen]; have := hC i hlt; omega⟩
    · obtain ⟨b, o, s⟩ := a'
      simp only at hs
      subst hs
      rfl
    · intro j z hz
      have hj : j < L i := by
        have := (List.getElem?_eq_some_iff.1 hz).1
        omega
      cases hA : A i with
      | none => have := h6 hA; omega
      | some ad =>
        have h8 := (h7 ad hA).2 j (by omega)
        have hsa : ad.spot = none := by have h0 := (h7 ad hA).2 0 (by omega); rw [add_zero'] at h0; exact spot_none h0
        have e : (Z i).getD j 0 = z := by
          rw [List.getElem?_take, if_pos hj] at hz
          rw [List.getD, hz]; rfl
        rw [e] at h8
        refine ⟨ad.block, ad.off, ?_, addr_at h8 hsa⟩
        obtain ⟨b, o, s⟩ := ad
        simp only at hsa
        subst hsa
        rfl
    · have := h6 hn
      exact ⟨by rw [hlen]; omega, this⟩
end
end Go.Proofs.Ytlfppmdehkhjiaa
