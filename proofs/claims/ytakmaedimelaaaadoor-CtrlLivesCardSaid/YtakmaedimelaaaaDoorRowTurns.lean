/- What is proved here: a slice of steps (three ints each) that came in: its cells. No condition. -/
import Derived.Test.YtakmaedimelaaaaDoorRowLaid
import Derived.Test.YtakmaedimelaaaaDoorCLives
namespace Go.Proofs.YtakmaedimelaaaaDoor
open Go.ChangeShapes Go.WideShapes Go.ChangeAt Go.RowKit Go.Deep Pl
set_option linter.unusedVariables false
set_option linter.unusedSimpArgs false
section
variable {H : Type} {enc : TypeId × Value → H} {P : Program} {w : World} {base : Nat} {spare : Nat → Bool} {held : Bool}
theorem open_slice_fields {t e : TypeId} {fs : Array Field} {fuel : Nat} {cs : List Value} {x : DataW H × List MemPlace} (ht : P.underlying t = some (.slice e)) (he : P.underlying e = some (.struct fs))
    (hone : oneCellFields P fs = true) (hC : P.cellsOf e = fs.size) (h : DataW.trod enc P w base spare held fuel t cs = some x) :
    (cs = [.slice none 0 0] ∧ x = (.nil, [])) ∨
    ∃ (a : Addr) (len cap m : Nat) (D : Nat → DataW H) (Pl : Nat → List MemPlace), cs = [.slice (some a) len cap] ∧ base ≤ a.block ∧ len ≤ cap ∧ cap ≤ maxLen ∧ m = (if spare a.block then cap else len) ∧
      x = (.slice ((List.range len).map D) ((List.range (m - len)).map fun j => D (len + j)), MemPlace.row a (m * fs.size) ++ (List.range m).flatMap Pl) ∧
      ∀ i, i < m → ∃ (ys : List (DataW H × List MemPlace)) (n : Nat), D i = .agg (ys.map (·.1)) ∧ Pl i = ys.flatMap (·.2) ∧ ys.length = fs.size ∧
        ∀ (j : Nat) (f : Field), fs[j]? = some f → ∃ (v : Value) (y : DataW H × List MemPlace), w.cell? (a.add (i * fs.size + j)) = some v ∧ ys[j]? = some y ∧ DataW.trod enc P w base spare held n f.type [v] = some y := by
  rcases open_slice ht h with h0 | ⟨a, len, cap, m, n, D, Pl, hcs, hb, hl, hm, hmm, hx, hi⟩
  · exact .inl h0
  · refine .inr ⟨a, len, cap, m, D, Pl, hcs, hb, hl, hm, hmm, by rw [hC] at hx; exact hx, fun i him => ?_⟩
    obtain ⟨cs', hc, ht'⟩ := hi i him
    rw [hC] at hc
    obtain ⟨ys, n', hn', hy, hlen, hyl, hf⟩ := DataW.trod_struct he ht'
    obtain ⟨_, hcl, hat⟩ := World.cells?_some hc
    simp only [Prod.mk.injEq] at hy
    refine ⟨ys, n', hy.1, hy.2, hyl, fun j f hj => ?_⟩
    obtain ⟨ho, hk⟩ := hone_of hone j f hj
    have hjl : j < fs.size := (Array.getElem?_eq_some_iff.1 hj).1
    have hcell := hat j hjl
    have hv : cs'[j]? = some (cs'[j]'(by omega)) := List.getElem?_eq_getElem (by omega)
    have h1 := hf j f hj
    rw [ho, hk] at h1
    have hone' : (cs'.drop j).take 1 = [cs'[j]'(by omega)] := by
      rw [List.drop_eq_getElem_cons (by omega)]
      rfl
    rw [hone'] at h1
    have hys : ys[j]? = some (ys[j]'(by omega)) := List.getElem?_eq_getElem (by omega)
    refine ⟨_, _, ?_, hys, h1.trans hys⟩
    rw [← Go.Deep.add_add, hcell, hv]
end
theorem list_of_all {α : Type} {P : Nat → α → Prop} : ∀ (n : Nat), (∀ i, i < n → ∃ x, P i x) → ∃ xs : List α, xs.length = n ∧ ∀ i x, xs[i]? = some x → P i x := by
  intro n
  induction n with
  | zero => intro _; exact ⟨[], rfl, fun i x h => by simp at h⟩
  | succ n ih =>
    intro h
    obtain ⟨xs, hl, hx⟩ := ih (fun i hi => h i (by omega))
    obtain ⟨y, hy⟩ := h n (by omega)
    refine ⟨xs ++ [y], by simp [hl], fun i x hi => ?_⟩
    by_cases h1 : i < n
    · rw [List.getElem?_append_left (by omega)] at hi
      exact hx i x hi
    · rw [List.getElem?_append_right (by omega)] at hi
      have h2 : i - xs.length = 0 := by
        have := (List.getElem?_eq_some_iff.1 hi).1
        simp at this; omega
      rw [h2] at hi
      obtain rfl : y = x := by simpa using hi
      rw [show i = n by omega]; exact hy
section
variable {H : Type} {enc : TypeId × Value → H} {w : World} {base : Nat} {held : Bool}
theorem turnUnder : Tryd.prog.underlying 43 = some (.struct (Tryd.prog.fieldsOf 43)) := by kernel_rfl
theorem open_turns {r : Reach} {b0 : Nat} {v : Value} {d : DataW H} {p : List MemPlace} (hv : Value.okWide Tryd.prog w r b0 39 v) (h : DataW.Trod enc Tryd.prog w base (fun _ => true) held 39 v d p) :
    ∃ A ts c, v = .slice A (List.length ts) c ∧ TurnsAt w A ts ∧ List.length ts ≤ 9223372036854775807 := by
  obtain ⟨a, len, cap, rfl⟩ := okWide_slice Tryd.underlying39 hv
  obtain ⟨fuel, hf⟩ := h
  have hsz : (Tryd.prog.fieldsOf 43).size = 3 := by kernel_rfl
  have hty : ∀ j, j < 3 → ∃ f, (Tryd.prog.fieldsOf 43)[j]? = some f ∧ f.type = 3 := by
    intro j hj
    match j, hj with
    | 0, _ =>
      obtain ⟨f, h1, h2⟩ := Option.map_eq_some_iff.1 (show ((Tryd.prog.fieldsOf 43)[0]?).map (·.type) = some 3 by kernel_rfl)
      exact ⟨f, h1, h2⟩
    | 1, _ =>
      obtain ⟨f, h1, h2⟩ := Option.map_eq_some_iff.1 (show ((Tryd.prog.fieldsOf 43)[1]?).map (·.type) = some 3 by kernel_rfl)
      exact ⟨f, h1, h2⟩
    | 2, _ =>
      obtain ⟨f, h1, h2⟩ := Option.map_eq_some_iff.1 (show ((Tryd.prog.fieldsOf 43)[2]?).map (·.type) = some 3 by kernel_rfl)
      exact ⟨f, h1, h2⟩
  rcases open_slice_fields Tryd.underlying39 turnUnder (by kernel_rfl) (by kernel_rfl) hf with ⟨hcs, _⟩ | ⟨a', len', cap', m, D, Pl, hcs, hb, hl, hm, hmm, hx, hr⟩
  · simp [Value.cells] at hcs
    obtain ⟨rfl, rfl, rfl⟩ := hcs
    exact ⟨none, [], 0, rfl, fun i s h => by simp at h, by simp⟩
  · simp [Value.cells] at hcs
    obtain ⟨rfl, rfl, rfl⟩ := hcs
    have hlm : len ≤ m := by rw [hmm]; split <;> omega
    have hall : ∀ i, i < len → ∃ t : Int × Int × Int, w.cell? (a'.add (i * 3)) = some (.int .i64 t.1) ∧ w.cell? (a'.add (i * 3 + 1)) = some (.int .i64 t.2.1) ∧ w.cell? (a'.add (i * 3 + 2)) = some (.int .i64 t.2.2) := by
      intro i hi
      obtain ⟨ys, n, _, _, _, hf⟩ := hr i (by omega)
      rw [hsz] at hf
      have key : ∀ j, j < 3 → ∃ z : Int, w.cell? (a'.add (i * 3 + j)) = some (.int .i64 z) := by
        intro j hj
        obtain ⟨f, h1, h2⟩ := hty j hj
        obtain ⟨v, y, hc, _, ht⟩ := hf j f h1
        rw [h2] at ht
        obtain ⟨z, e, _⟩ := DataW.trod_int Tryd.underlying3 ht
        obtain rfl := (List.cons.inj e).1
        exact ⟨z, hc⟩
      obtain ⟨x, hx⟩ := key 0 (by decide)
      obtain ⟨y, hy⟩ := key 1 (by decide)
      obtain ⟨z, hz⟩ := key 2 (by decide)
      exact ⟨(x, y, z), hx, hy, hz⟩
    obtain ⟨ts, htl, hts⟩ := list_of_all len hall
    refine ⟨some a', ts, cap, by rw [htl], fun i t hi => ?_, by rw [htl]; unfold maxLen at hm; omega⟩
    have hil : i < len := by rw [← htl]; exact (List.getElem?_eq_some_iff.1 hi).1
    obtain ⟨h1, h2, h3⟩ := hts i t hi
    have hs : a'.spot = none := by
      obtain ⟨h0, _, _⟩ := hts 0 (ts[0]'(by omega)) (List.getElem?_eq_getElem (by omega))
      rw [Nat.zero_mul, add_zero'] at h0; exact spot_none h0
    refine ⟨a'.block, a'.off, ?_, addr_at h1 hs, addr_at h2 hs, addr_at h3 hs⟩
    obtain ⟨b, o, s⟩ := a'
    simp only at hs
    subst hs
    rfl
end
end Go.Proofs.YtakmaedimelaaaaDoor
