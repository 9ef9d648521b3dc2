/- What is proved here: a slice of asks that came in: its cells. No condition. -/
import Derived.Test.YtlfppmdehkhjiaaRow
import Derived.Test.YtlfppmdehkhjiaaLPlaces
import Derived.Deep.Slices
import Derived.ChangeArms
namespace Go.Proofs.Ytlfppmdehkhjiaa
open Go.ChangeShapes Go.WideShapes Go.ChangeAt Go.RowKit Go.Deep Pl
set_option linter.unusedVariables false
set_option linter.unusedSimpArgs false
theorem list_of_all {α : Type} {P : Nat → α → Prop} : ∀ (n : Nat), (∀ i, i < n → ∃ x, P i x) → ∃ xs : List α, xs.length = n ∧ ∀ i x, xs[i]? = some x → P i x := by
  intro n
  induction n with
  | zero => intro _; exact ⟨[], rfl, fun i x h => by simp at h⟩
  | succ n ih =>
    intro h
    obtain ⟨xs, hl, hx⟩ := ih (fun i hi => h i (by omega))
    obtain ⟨y, hy⟩ := h n (by omega)
    refine ⟨xs ++ [y], by simp [hl], fun i x hi => ?_⟩
    by_cases h1 : i < n
    · rw [List.getElem?_append_left (by omega)] at hi
      exact hx i x hi
    · rw [List.getElem?_append_right (by omega)] at hi
      have h2 : i - xs.length = 0 := by
        have := (List.getElem?_eq_some_iff.1 hi).1
        simp at this; omega
      rw [h2] at hi
      obtain rfl : y = x := by simpa using hi
      rw [show i = n by omega]; exact hy
section
variable {H : Type} {enc : TypeId × Value → H} {w : World} {base : Nat} {spare : Nat → Bool} {held : Bool}
theorem one_at {cs : List Value} {i : Nat} {v : Value} (h : (cs.drop i).take 1 = [v]) : cs[i]? = some v := by
  have h1 : ((cs.drop i).take 1)[0]? = some v := by rw [h]; rfl
  rw [List.getElem?_take, if_pos (by decide), List.getElem?_drop] at h1
  simpa using h1
theorem int_field {t : TypeId} {fs : Array Field} {fuel : Nat} {cs : List Value} {x : DataW H × List MemPlace} (hs : Try.prog.underlying t = some (.struct fs)) (h : DataW.trod enc Try.prog w base spare held fuel t cs = some x) (i o : Nat) (hf : (fs[i]?).map (fun f => (f.type, f.offset)) = some (3, o)) :
    ∃ z, cs[o]? = some (.int .i64 z) := by
  obtain ⟨xs, n, _, _, _, hlen, hg⟩ := DataW.trod_struct hs h
  obtain ⟨f, hfi, hft⟩ := Option.map_eq_some_iff.1 hf
  simp only [Prod.mk.injEq] at hft
  have h1 := hg i f hfi
  rw [hft.1, hft.2, show Try.prog.cellsOf 3 = 1 by kernel_rfl] at h1
  have hi : i < xs.length := by rw [hlen]; exact (Array.getElem?_eq_some_iff.1 hfi).1
  rw [List.getElem?_eq_getElem hi] at h1
  obtain ⟨z, hz, _⟩ := DataW.trod_int Try.underlying3 h1
  exact ⟨z, one_at hz⟩
theorem askUnder : Try.prog.underlying 46 = some (.struct (Try.prog.fieldsOf 46)) := by kernel_rfl
theorem askCells : Try.prog.cellsOf 46 = 10 := by kernel_rfl
theorem open_ask {fuel : Nat} {cs : List Value} {x : DataW H × List MemPlace} (h : DataW.trod enc Try.prog w base spare held fuel 46 cs = some x) :
    ∃ (l : LV) (n : Int), cs[0]? = some (.int .i64 l.k) ∧ cs[1]? = some (.int .i64 l.e) ∧ cs[2]? = some (.int .i64 l.ka) ∧ cs[3]? = some (.int .i64 l.ea) ∧ cs[4]? = some (.int .i64 l.c) ∧ cs[5]? = some (.int .i64 l.eo) ∧ cs[6]? = some (.int .i64 l.bo) ∧ cs[7]? = some (.int .i64 l.sl) ∧ cs[8]? = some (.int .i64 l.gr) ∧ cs[9]? = some (.int .i64 n) := by
  obtain ⟨n, hn⟩ := int_field askUnder h 1 9 (by kernel_rfl)
  obtain ⟨xs, m, _, _, _, hlen, hg⟩ := DataW.trod_struct askUnder h
  obtain ⟨f, hf, hft⟩ := Option.map_eq_some_iff.1 (show ((Try.prog.fieldsOf 46)[0]?).map (fun f => (f.type, f.offset)) = some (24, 0) by kernel_rfl)
  simp only [Prod.mk.injEq] at hft
  have h1 := hg 0 f hf
  rw [hft.1, hft.2, show Try.prog.cellsOf 24 = 9 by kernel_rfl, List.drop_zero] at h1
  have hi : 0 < xs.length := by rw [hlen]; exact (Array.getElem?_eq_some_iff.1 hf).1
  rw [List.getElem?_eq_getElem hi] at h1
  have key : ∀ (i : Nat) (z : Int), (cs.take 9)[i]? = some (.int .i64 z) → cs[i]? = some (.int .i64 z) := by
    intro i z hz
    rw [List.getElem?_take] at hz
    split at hz
    · exact hz
    · cases hz
  obtain ⟨z0, e0⟩ := int_field layUnder h1 0 0 (by kernel_rfl)
  obtain ⟨z1, e1⟩ := int_field layUnder h1 1 1 (by kernel_rfl)
  obtain ⟨z2, e2⟩ := int_field layUnder h1 2 2 (by kernel_rfl)
  obtain ⟨z3, e3⟩ := int_field layUnder h1 3 3 (by kernel_rfl)
  obtain ⟨z4, e4⟩ := int_field layUnder h1 4 4 (by kernel_rfl)
  obtain ⟨z5, e5⟩ := int_field layUnder h1 5 5 (by kernel_rfl)
  obtain ⟨z6, e6⟩ := int_field layUnder h1 6 6 (by kernel_rfl)
  obtain ⟨z7, e7⟩ := int_field layUnder h1 7 7 (by kernel_rfl)
  obtain ⟨z8, e8⟩ := int_field layUnder h1 8 8 (by kernel_rfl)
  exact ⟨⟨z0, z1, z2, z3, z4, z5, z6, z7, z8⟩, n, key _ _ e0, key _ _ e1, key _ _ e2, key _ _ e3, key _ _ e4, key _ _ e5, key _ _ e6, key _ _ e7, key _ _ e8, hn⟩
theorem spot_none {w : World} {a : Addr} {v : Value} (h : w.cell? a = some v) : a.spot = none := by
  unfold World.cell? at h
  split at h
  · split at h
    · cases h
    · rename_i hs; simpa using hs
  · cases h
theorem addr_at {w : World} {a : Addr} {j : Nat} {v : Value} (h : w.cell? (a.add j) = some v) (hs : a.spot = none) : w.cell? ⟨a.block, a.off + j, none⟩ = some v := by
  obtain ⟨b, o, s⟩ := a
  simp only at hs
  subst hs
  have e : (⟨b, o, none⟩ : Addr).add j = ⟨b, o + j, none⟩ := by unfold Addr.add; split <;> simp_all
  rw [e] at h; exact h
theorem add_zero' (a : Addr) : a.add 0 = a := by
  unfold Addr.add; simp
/-- the argument opened -/
theorem open_asks {r : Reach} {b0 : Nat} {v : Value} {d : DataW H} {p : List MemPlace} (hv : Value.okWide Try.prog w r b0 44 v) (h : DataW.Trod enc Try.prog w base (fun _ => true) held 44 v d p) :
    ∃ A asks c, v = .slice A (List.length asks) c ∧ AsksAt w A asks ∧ (List.length asks) ≤ maxLen := by
  obtain ⟨a, len, cap, rfl⟩ := okWide_slice Try.underlying44 hv
  obtain ⟨fuel, hf⟩ := h
  rcases open_slice Try.underlying44 hf with ⟨hcs, _⟩ | ⟨a', len', cap', m, n, D, Pl, hcs, hb, hl, hm, hmm, _, hx⟩
  · simp [Value.cells] at hcs
    obtain ⟨rfl, rfl, rfl⟩ := hcs
    exact ⟨none, [], 0, rfl, fun i l n h => by simp at h, by simp⟩
  · simp [Value.cells] at hcs
    obtain ⟨rfl, rfl, rfl⟩ := hcs
    simp at hmm
    subst hmm
    have hspot : 0 < len → a'.spot = none := by
      intro h0
      obtain ⟨cs', hc, ht⟩ := hx 0 (by omega)
      rw [askCells] at hc
      obtain ⟨l, n, k0, _⟩ := open_ask ht
      obtain ⟨_, hcl, hat⟩ := World.cells?_some hc
      have := (hat 0 (by decide)).trans k0
      rw [Go.Deep.add_add, Nat.zero_mul, Nat.zero_add, add_zero'] at this
      exact spot_none this
    obtain ⟨asks, hla, has⟩ := list_of_all (α := LV × Int) (P := fun i q => ∃ g o, (some a' : Option Addr) = some ⟨g, o, none⟩ ∧ w.cell? ⟨g, o + i * 10, none⟩ = some (.int .i64 q.1.k) ∧ w.cell? ⟨g, o + i * 10 + 1, none⟩ = some (.int .i64 q.1.e) ∧ w.cell? ⟨g, o + i * 10 + 2, none⟩ = some (.int .i64 q.1.ka) ∧ w.cell? ⟨g, o + i * 10 + 3, none⟩ = some (.int .i64 q.1.ea) ∧ w.cell? ⟨g, o + i * 10 + 4, none⟩ = some (.int .i64 q.1.c) ∧ w.cell? ⟨g, o + i * 10 + 5, none⟩ = some (.int .i64 q.1.eo) ∧ w.cell? ⟨g, o + i * 10 + 6, none⟩ = some (.int .i64 q.1.bo) ∧ w.cell? ⟨g, o + i * 10 + 7, none⟩ = some (.int .i64 q.1.sl) ∧ w.cell? ⟨g, o + i * 10 + 8, none⟩ = some (.int .i64 q.1.gr) ∧ w.cell? ⟨g, o + i * 10 + 9, none⟩ = some (.int .i64 q.2)) len (fun i hi => by
      obtain ⟨cs', hc, ht⟩ := hx i (by omega)
      rw [askCells] at hc
      obtain ⟨l, n, k0, k1, k2, k3, k4, k5, k6, k7, k8, k9⟩ := open_ask ht
      obtain ⟨_, hcl, hat⟩ := World.cells?_some hc
      have hs : a'.spot = none := hspot (by omega)
      have key : ∀ (j : Nat) (z : Value), j < 10 → cs'[j]? = some z → w.cell? ⟨a'.block, a'.off + i * 10 + j, none⟩ = some z := by
        intro j z hj hz
        have h1 := (hat j hj).trans hz
        rw [Go.Deep.add_add] at h1
        have h2 := addr_at h1 hs
        rw [← Nat.add_assoc] at h2
        exact h2
      refine ⟨(l, n), a'.block, a'.off, ?_, by simpa using key 0 _ (by decide) k0, key 1 _ (by decide) k1, key 2 _ (by decide) k2, key 3 _ (by decide) k3, key 4 _ (by decide) k4, key 5 _ (by decide) k5, key 6 _ (by decide) k6, key 7 _ (by decide) k7, key 8 _ (by decide) k8, key 9 _ (by decide) k9⟩
      obtain ⟨b, o, s⟩ := a'
      simp only at hs
      subst hs
      rfl)
    subst hla
    exact ⟨some a', asks, _, rfl, fun i l n hi => has i (l, n) hi, by omega⟩
end
end Go.Proofs.Ytlfppmdehkhjiaa
