/- What is proved here: a list of strings that came in: its cells; what the bound gives of it. No condition. -/
import Derived.Test.YtkchhggbiopffaaRow
import Derived.Test.YtkchhggbiopffaaMWrites
import Derived.Deep.Strs
import Derived.ChangeArms
import Derived.JoinedCond
namespace Go.Proofs.Ytkchhggbiopffaa
open Go.ChangeShapes Go.WideShapes Go.ChangeAt Go.RowKit Go.Deep Pm
set_option linter.unusedVariables false
set_option linter.unusedSimpArgs false
theorem bulk_strs {H : Type} : ∀ ss : List ByteArray, Rows.uptoBulkAll (ss.map fun s => (DataW.lit (.string s.data.toList) : DataW H)) = ((ss.map (fun s => s.data.toList)).flatten).length + ss.length
  | [] => rfl
  | s :: r => by
    rw [List.map_cons, Rows.uptoBulkAll, bulk_strs r]
    simp [Rows.uptoBulk]
    omega
theorem spot_none {w : World} {a : Addr} {v : Value} (h : w.cell? a = some v) : a.spot = none := by
  unfold World.cell? at h
  split at h
  · split at h
    · cases h
    · rename_i hs; simpa using hs
  · cases h
theorem addr_at {w : World} {a : Addr} {j : Nat} {v : Value} (h : w.cell? (a.add j) = some v) (hs : a.spot = none) : w.cell? ⟨a.block, a.off + j, none⟩ = some v := by
  obtain ⟨b, o, s⟩ := a
  simp only at hs
  subst hs
  have e : (⟨b, o, none⟩ : Addr).add j = ⟨b, o + j, none⟩ := by unfold Addr.add; split <;> simp_all
  rw [e] at h; exact h
theorem add_zero' (a : Addr) : a.add 0 = a := by
  unfold Addr.add; simp
section
variable {H : Type} {enc : TypeId × Value → H} {w : World} {base : Nat} {held : Bool}
theorem open_strs_arg {r : Reach} {b0 : Nat} {v : Value} {d : DataW H} {p : List MemPlace} (hv : Value.okWide Try.prog w r b0 31 v) (h : DataW.Trod enc Try.prog w base (fun _ => true) held 31 v d p) :
    ∃ A ss c, v = .slice A (List.length ss) c ∧ StrsAt w A ss ∧ (cat ss).size + List.length ss ≤ Rows.uptoBulk d := by
  obtain ⟨a, len, cap, rfl⟩ := okWide_slice Try.underlying31 hv
  obtain ⟨fuel, hf⟩ := h
  rcases open_strs Try.underlying31 Try.underlying9 (by kernel_rfl) hf with ⟨hcs, _⟩ | ⟨a', len', cap', m, Sx, hcs, hb, hl, hm, hmm, hx, hr⟩
  · simp [Value.cells] at hcs
    obtain ⟨rfl, rfl, rfl⟩ := hcs
    exact ⟨none, [], 0, rfl, fun i s h => by simp at h, by simp [cat]⟩
  · simp [Value.cells] at hcs
    obtain ⟨rfl, rfl, rfl⟩ := hcs
    simp only [Prod.mk.injEq] at hx
    obtain ⟨rfl, _⟩ := hx
    have hlm : len ≤ m := by rw [hmm]; split <;> omega
    refine ⟨some a', (List.range len).map Sx, cap, by simp, fun i s hi => ?_, ?_⟩
    · rw [List.getElem?_map] at hi
      obtain ⟨i', hi', rfl⟩ := Option.map_eq_some_iff.1 hi
      have hlt : i < len := by
        have := (List.getElem?_eq_some_iff.1 hi').1
        simpa using this
      obtain rfl : i = i' := by
        rw [List.getElem?_range hlt] at hi'
        exact Option.some.inj hi'
      have h1 := (hr i (by omega)).1
      have hs : a'.spot = none := by have h0 := (hr 0 (by omega)).1; rw [add_zero'] at h0; exact spot_none h0
      refine ⟨a'.block, a'.off, ?_, addr_at h1 hs⟩
      obtain ⟨b, o, s⟩ := a'
      simp only at hs
      subst hs
      rfl
    · have e := bulk_strs (H := H) ((List.range len).map Sx)
      rw [List.map_map] at e
      rw [cat_size]
      have e2 : ((fun s : ByteArray => (DataW.lit (.string s.data.toList) : DataW H)) ∘ Sx) = fun i => DataW.lit (.string (Sx i).data.toList) := rfl
      rw [e2] at e
      simp only [Rows.uptoBulk]
      omega
theorem size_le_cat {ss : List ByteArray} {s : ByteArray} (h : s ∈ ss) : s.size ≤ (cat ss).size := by
  rw [cat_size]
  have h1 : s.data.toList ∈ ss.map (fun s => s.data.toList) := List.mem_map.2 ⟨s, h, rfl⟩
  have h2 := List.Sublist.length_le (List.sublist_flatten_of_mem h1)
  exact h2
end
end Go.Proofs.Ytkchhggbiopffaa
