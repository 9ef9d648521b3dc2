/- What is proved here: a list of numbers in a cell, and the argument of ArenaInside, opened. No condition. -/
import Derived.Test.YtpbalilnemjeeaaRowInts
import Derived.SizedLaws
namespace Go.Proofs.Ytpbalilnemjeeaa
open Go.ChangeShapes Go.WideShapes Go.ChangeAt Go.RowKit Go.Deep Pl Pd
set_option linter.unusedVariables false
set_option linter.unusedSimpArgs false
section
variable {H : Type} {enc : TypeId × Value → H} {w : World} {base : Nat} {held : Bool}
set_option maxRecDepth 100000 in
theorem open_list_cell {fuel : Nat} {v : Value} {y : DataW H × List MemPlace} (h : DataW.trod enc Try.prog w base (fun _ => true) held fuel 29 [v] = some y) (hw : ∀ q ∈ DataW.weights Try.prog 29 y.1, q ≤ reachBytes) :
    ∃ A zs c, v = .slice A (List.length zs) c ∧ IntsIn w A zs ∧ (A = none → List.length zs = 0 ∧ c = 0) ∧ List.length zs ≤ 17592186044414 ∧ ∀ z ∈ zs, isI z := by
  rcases open_ints Try.underlying29 Try.underlying3 (by kernel_rfl) h with ⟨hcs, _⟩ | ⟨a', len, cap, zs, hcs, hb, hl, hm, hlen, hx, hcell, hwf⟩
  · obtain rfl := (List.cons.inj hcs).1
    exact ⟨none, [], 0, rfl, (fun i z h => by simp at h), fun _ => ⟨rfl, rfl⟩, by simp, by simp⟩
  · obtain rfl := (List.cons.inj hcs).1
    simp only [if_true] at hlen
    subst hx
    have h9 : cap * 8 ≤ reachBytes := by
      refine hw _ ?_
      simp only [DataW.weights, Try.underlying29, List.mem_cons]
      left
      have e8 : Try.prog.bytesOf 3 = 8 := by kernel_rfl
      rw [e8]
      simp [lits]
      omega
    rw [show reachBytes = 140737488351232 from rfl] at h9
    have htl : (zs.take len).length = len := by rw [List.length_take]; omega
    refine ⟨some a', zs.take len, cap, by rw [htl], fun i z hi => ?_, (fun e => by cases e), by rw [htl]; omega, fun z hz => ?_⟩
    · have hilt : i < len := by
        have := (List.getElem?_eq_some_iff.1 hi).1
        omega
      have h0 := hcell 0 (by omega)
      have hs : a'.spot = none := by rw [add_zero'] at h0; exact spot_none h0
      obtain ⟨b, o, s⟩ := a'
      simp only at hs
      subst hs
      refine ⟨b, o, rfl, ?_⟩
      have h1 := hcell i (by omega)
      rw [Addr.add_lit] at h1
      rw [h1]
      rw [List.getElem?_take, if_pos hilt] at hi
      rw [List.getD_eq_getElem?_getD, hi]; rfl
    · have := bounds_i64 (hwf z (List.mem_of_mem_take hz))
      unfold isI; omega
set_option maxRecDepth 100000 in
/-- a struct by value, each field of one cell: its cells, each field's reading, what the bound gives of it -/
theorem open_struct_w {spare : Nat → Bool} {r : Reach} {b0 : Nat} {t : TypeId} {fs : Array Field} {v : Value} {d : DataW H} {p : List MemPlace} {ts : List TypeId} {ds : List (DataW H)}
    (hs : Try.prog.underlying t = some (.struct fs)) (hone : Deep.oneCellFields Try.prog fs = true) (hC : Try.prog.cellsOf t = fs.size)
    (hv : Value.okWide Try.prog w r b0 t v) (h : DataW.Trod enc Try.prog w base spare held t v d p) (j : Nat)
    (hsz : (DataW.weightsEach Try.prog ts ds).all (· ≤ reachBytes) = true) (ht0 : ts[j]? = some t) (hd0 : ds[j]? = some d) :
    ∃ cs : Array Value, v = .agg cs ∧ cs.size = fs.size ∧ ∀ (i : Nat) (f : Field) (c : Value), fs[i]? = some f → cs[i]? = some c → ∃ n y, DataW.trod enc Try.prog w base spare held n f.type [c] = some y ∧ ∀ q ∈ DataW.weights Try.prog f.type y.1, q ≤ reachBytes := by
  obtain ⟨cs, rfl, hcsz⟩ := okWide_struct hs hv
  obtain ⟨fuel, hf⟩ := h
  obtain ⟨xs, n, _, hx, hl, hlen, hg⟩ := DataW.trod_struct hs hf
  refine ⟨cs, rfl, hcsz.trans hC, fun i f c hi hc => ?_⟩
  obtain ⟨o0, k0⟩ := Deep.hone_of hone i f hi
  have h1 := hg i f hi
  have hi2 : i < fs.size := (Array.getElem?_eq_some_iff.1 hi).1
  have hx2 : xs[i]? = some (xs[i]'(by omega)) := List.getElem?_eq_getElem (by omega)
  rw [hx2, o0, k0] at h1
  have hl1 : cs.toList[i]? = some c := by simpa using hc
  have h2 : (cs.toList.drop i).take 1 = [c] := by
    obtain ⟨hlt, he⟩ := List.getElem?_eq_some_iff.1 hl1
    rw [List.drop_eq_getElem_cons hlt, he]; rfl
  simp only [Value.cells] at h1
  rw [h2] at h1
  refine ⟨n, _, h1, fun q hq => ?_⟩
  simp only [Prod.mk.injEq] at hx
  have key : q ∈ DataW.weightsEach Try.prog ts ds := by
    refine DataW.weights_mem_each ht0 hd0 _ ?_
    rw [hx.1]
    simp only [DataW.weights, hs]
    refine DataW.weights_mem_each (j := i) (t := f.type) (d := (xs[i]'(by omega)).1) ?_ ?_ _ hq
    · rw [List.getElem?_map, Array.getElem?_toList, hi]; rfl
    · rw [List.getElem?_map, hx2]; rfl
  simpa using List.all_eq_true.1 hsz _ key
end
end Go.Proofs.Ytpbalilnemjeeaa
