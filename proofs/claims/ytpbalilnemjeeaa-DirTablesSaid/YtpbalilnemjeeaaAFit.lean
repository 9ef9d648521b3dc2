/- What is proved here: a map of ints has no more entries than keys it may hold; so a bound for a store. No condition. -/
import Derived.Test.YtpbalilnemjeeaaAMap
set_option linter.unusedVariables false
set_option linter.unusedSimpArgs false
set_option linter.unusedSectionVars false
namespace Go.Proofs.Ytpbalilnemjeeaa
open Go.RowKit Go.Maps
open Go.WideElems (Fit rd rg pl rd_val rd_key rg_of elemAt)
open Go.WideShapes (sorted_perm)
theorem len_of_sub : ∀ (l K : List Int), l.Nodup → (∀ x ∈ l, x ∈ K) → l.length ≤ K.length
  | [], K, _, _ => by simp
  | a :: t, K, hn, h => by
    have ha := h a (by simp)
    have hn2 := List.nodup_cons.1 hn
    have h1 := len_of_sub t (K.erase a) hn2.2 (fun x hx => by
      have h3 := h x (by simp [hx])
      have h4 : x ≠ a := fun e => hn2.1 (e ▸ hx)
      exact (List.mem_erase_of_ne h4).2 h3)
    rw [List.length_erase_of_mem ha] at h1
    have := List.length_pos_of_mem ha
    simp only [List.length_cons]
    omega
def keyInt : Value → Int
  | .int _ n => n
  | _ => 0
theorem key_inv {v : Value} {l : Lit} (h : keyOf Try.prog 3 v = some l) : ∃ k : Int, v = .int .i64 k ∧ l = .int .i64 k ∧ (Lit.int .i64 k).wf = true := by
  rw [keyOf_int Try.underlying3] at h
  cases v <;> simp [mapKey, Try.underlying3] at h
  obtain ⟨⟨rfl, h2⟩, rfl⟩ := h
  exact ⟨_, rfl, rfl, h2⟩
section
variable {T E : TypeId} {R : Value → Option (DataW Unit × List MemPlace)} {zero : Value} {w w1 : World} {b n : Nat} {f : Int → Option Value}
theorem IM.fit (h : IM T E R zero w b n f) (K : List Int) (hK : ∀ k, (Lit.int .i64 k).wf = true → (f k).isSome = true → k ∈ K) (n' : Nat) (hn : K.length = n') : IM T E R zero w b n' f := by
  obtain ⟨D, ⟨es, clock, hb, F, hs, rfl⟩, h2⟩ := h
  refine ⟨_, ⟨es, clock, hb, F, ?_, rfl⟩, h2⟩
  have hkeys : ∀ x ∈ es.toList, ∃ k : Int, x.key = .int .i64 k ∧ (rg Try.prog 3 R x).1 = .int .i64 k ∧ (Lit.int .i64 k).wf = true := by
    intro x hx
    obtain ⟨y, hy⟩ := F.reads x hx
    obtain ⟨k, e1, e2, e3⟩ := key_inv (rd_key hy)
    exact ⟨k, e1, by rw [rg_of hy, e2], e3⟩
  have hlit : ∀ x ∈ es.toList, (rg Try.prog 3 R x).1 = .int .i64 (keyInt x.key) ∧ (Lit.int .i64 (keyInt x.key)).wf = true := by
    intro x hx
    obtain ⟨k, e1, e2, e3⟩ := hkeys x hx
    rw [e1]; exact ⟨e2, e3⟩
  have hap := Maps.fit_apart int_keyed' F
  have h1 : (es.toList.map fun x => keyInt x.key).Nodup := by
    rw [List.nodup_iff_pairwise_ne, List.pairwise_map]
    rw [List.pairwise_map] at hap
    refine hap.imp_of_mem (fun {x y} hx hy hne e => hne ?_)
    rw [(hlit x hx).1, (hlit y hy).1, e]
  have h3 := len_of_sub _ K h1 (fun k hk => by
    obtain ⟨x, hx, rfl⟩ := List.mem_map.1 hk
    obtain ⟨e1, e2⟩ := hlit x hx
    refine hK _ e2 ?_
    rw [← (h2 _ e2).1, has_eq, List.any_eq_true]
    refine ⟨rg Try.prog 3 R x, ?_, ?_⟩
    · exact (sorted_perm _).mem_iff.2 (List.mem_map.2 ⟨x, hx, rfl⟩)
    · rw [e1]; simp [Lit.sameKey])
  simp only [List.length_map, Array.length_toList] at h3
  omega
end
end Go.Proofs.Ytpbalilnemjeeaa
