/- What is proved here: a script of calls that came in: its cells; what the bound gives of it. No condition. -/
import Derived.Test.YtkchhggbiopffaaRowStrs
import Derived.Test.YtkchhggbiopffaaPMain
import Derived.Deep.Slices
import Derived.Deep.Fields
import Derived.ChangeSame
namespace Go.Proofs.Ytkchhggbiopffaa
open Go.ChangeShapes Go.WideShapes Go.ChangeAt Go.RowKit Go.Deep Pm
set_option linter.unusedVariables false
set_option linter.unusedSimpArgs false
theorem bulk_mem {H : Type} : ∀ {l : List (DataW H)} {d : DataW H}, d ∈ l → Rows.uptoBulk d ≤ Rows.uptoBulkAll l
  | [], _, h => by simp at h
  | x :: r, d, h => by
    rw [Rows.uptoBulkAll]
    rcases List.mem_cons.1 h with rfl | h
    · omega
    · have := bulk_mem h; omega
theorem bulk_pos {H : Type} (d : DataW H) : 1 ≤ Rows.uptoBulk d := by
  cases d with
  | lit l => cases l <;> simp [Rows.uptoBulk]
  | _ => simp [Rows.uptoBulk]
theorem bulk_len {H : Type} : ∀ l : List (DataW H), l.length ≤ Rows.uptoBulkAll l
  | [] => by simp
  | x :: r => by
    rw [Rows.uptoBulkAll, List.length_cons]
    have := bulk_len r
    have := bulk_pos x
    omega
section
variable {H : Type} {enc : TypeId × Value → H} {P : Program} {w : World} {base : Nat} {spare : Nat → Bool} {held : Bool}
theorem open_slice_fields {t e : TypeId} {fs : Array Field} {fuel : Nat} {cs : List Value} {x : DataW H × List MemPlace} (ht : P.underlying t = some (.slice e)) (he : P.underlying e = some (.struct fs))
    (hone : oneCellFields P fs = true) (hC : P.cellsOf e = fs.size) (h : DataW.trod enc P w base spare held fuel t cs = some x) :
    (cs = [.slice none 0 0] ∧ x = (.nil, [])) ∨
    ∃ (a : Addr) (len cap m : Nat) (D : Nat → DataW H) (Pl : Nat → List MemPlace), cs = [.slice (some a) len cap] ∧ base ≤ a.block ∧ len ≤ cap ∧ cap ≤ maxLen ∧ m = (if spare a.block then cap else len) ∧
      x = (.slice ((List.range len).map D) ((List.range (m - len)).map fun j => D (len + j)), MemPlace.row a (m * fs.size) ++ (List.range m).flatMap Pl) ∧
      ∀ i, i < m → ∃ (ys : List (DataW H × List MemPlace)) (n : Nat), D i = .agg (ys.map (·.1)) ∧ Pl i = ys.flatMap (·.2) ∧ ys.length = fs.size ∧
        ∀ (j : Nat) (f : Field), fs[j]? = some f → ∃ (v : Value) (y : DataW H × List MemPlace), w.cell? (a.add (i * fs.size + j)) = some v ∧ ys[j]? = some y ∧ DataW.trod enc P w base spare held n f.type [v] = some y := by
  rcases open_slice ht h with h0 | ⟨a, len, cap, m, n, D, Pl, hcs, hb, hl, hm, hmm, hx, hi⟩
  · exact .inl h0
  · refine .inr ⟨a, len, cap, m, D, Pl, hcs, hb, hl, hm, hmm, by rw [hC] at hx; exact hx, fun i him => ?_⟩
    obtain ⟨cs', hc, ht'⟩ := hi i him
    rw [hC] at hc
    obtain ⟨ys, n', hn', hy, hlen, hyl, hf⟩ := DataW.trod_struct he ht'
    obtain ⟨_, hcl, hat⟩ := World.cells?_some hc
    simp only [Prod.mk.injEq] at hy
    refine ⟨ys, n', hy.1, hy.2, hyl, fun j f hj => ?_⟩
    obtain ⟨ho, hk⟩ := hone_of hone j f hj
    have hjl : j < fs.size := (Array.getElem?_eq_some_iff.1 hj).1
    have hcell := hat j hjl
    have hv : cs'[j]? = some (cs'[j]'(by omega)) := List.getElem?_eq_getElem (by omega)
    have h1 := hf j f hj
    rw [ho, hk] at h1
    have hone' : (cs'.drop j).take 1 = [cs'[j]'(by omega)] := by
      rw [List.drop_eq_getElem_cons (by omega)]
      rfl
    rw [hone'] at h1
    have hys : ys[j]? = some (ys[j]'(by omega)) := List.getElem?_eq_getElem (by omega)
    refine ⟨_, _, ?_, hys, h1.trans hys⟩
    rw [← Go.Deep.add_add, hcell, hv]
end
theorem list_of_all {α : Type} {P : Nat → α → Prop} : ∀ (n : Nat), (∀ i, i < n → ∃ x, P i x) → ∃ xs : List α, xs.length = n ∧ ∀ i x, xs[i]? = some x → P i x := by
  intro n
  induction n with
  | zero => intro _; exact ⟨[], rfl, fun i x h => by simp at h⟩
  | succ n ih =>
    intro h
    obtain ⟨xs, hl, hx⟩ := ih (fun i hi => h i (by omega))
    obtain ⟨y, hy⟩ := h n (by omega)
    refine ⟨xs ++ [y], by simp [hl], fun i x hi => ?_⟩
    by_cases h1 : i < n
    · rw [List.getElem?_append_left (by omega)] at hi
      exact hx i x hi
    · rw [List.getElem?_append_right (by omega)] at hi
      have h2 : i - xs.length = 0 := by
        have := (List.getElem?_eq_some_iff.1 hi).1
        simp at this; omega
      rw [h2] at hi
      obtain rfl : y = x := by simpa using hi
      rw [show i = n by omega]; exact hy
section
variable {H : Type} {enc : TypeId × Value → H} {w : World} {base : Nat} {held : Bool}
theorem open_strs_cell {fuel : Nat} {v : Value} {y : DataW H × List MemPlace} (h : DataW.trod enc Try.prog w base (fun _ => true) held fuel 31 [v] = some y) :
    ∃ A ss c, v = .slice A (List.length ss) c ∧ StrsAt w A ss ∧ (cat ss).size + List.length ss ≤ Rows.uptoBulk y.1 := by
  rcases open_strs Try.underlying31 Try.underlying9 (by kernel_rfl) h with ⟨hcs, hy⟩ | ⟨a', len', cap', m, Sx, hcs, hb, hl, hm, hmm, hx, hr⟩
  · obtain rfl := (List.cons.inj hcs).1
    exact ⟨none, [], 0, rfl, fun i s h => by simp at h, by simp [cat]⟩
  · obtain rfl := (List.cons.inj hcs).1
    subst hx
    have hlm : len' ≤ m := by rw [hmm]; split <;> omega
    refine ⟨some a', (List.range len').map Sx, cap', by simp, fun i s hi => ?_, ?_⟩
    · rw [List.getElem?_map] at hi
      obtain ⟨i', hi', rfl⟩ := Option.map_eq_some_iff.1 hi
      have hlt : i < len' := by
        have := (List.getElem?_eq_some_iff.1 hi').1
        simpa using this
      obtain rfl : i = i' := by
        rw [List.getElem?_range hlt] at hi'
        exact Option.some.inj hi'
      have h1 := (hr i (by omega)).1
      have hs : a'.spot = none := by have h0 := (hr 0 (by omega)).1; rw [add_zero'] at h0; exact spot_none h0
      refine ⟨a'.block, a'.off, ?_, addr_at h1 hs⟩
      obtain ⟨b, o, s⟩ := a'
      simp only at hs
      subst hs
      rfl
    · have e := bulk_strs (H := H) ((List.range len').map Sx)
      rw [List.map_map] at e
      rw [cat_size]
      have e2 : ((fun s : ByteArray => (DataW.lit (.string s.data.toList) : DataW H)) ∘ Sx) = fun i => DataW.lit (.string (Sx i).data.toList) := rfl
      rw [e2] at e
      simp only [Rows.uptoBulk]
      omega
theorem opUnder : Try.prog.underlying 59 = some (.struct (Try.prog.fieldsOf 59)) := by kernel_rfl
theorem open_ops {r : Reach} {b0 : Nat} {v : Value} {d : DataW H} {p : List MemPlace} (hv : Value.okWide Try.prog w r b0 54 v) (h : DataW.Trod enc Try.prog w base (fun _ => true) held 54 v d p) (hbk : Rows.uptoBulk d ≤ 1048576) :
    ∃ A os c, v = .slice A (List.length os) c ∧ OpsAt w A os ∧ List.length os ≤ 1048576 := by
  obtain ⟨a, len, cap, rfl⟩ := okWide_slice Try.underlying54 hv
  obtain ⟨fuel, hf⟩ := h
  have hsz : (Try.prog.fieldsOf 59).size = 7 := by kernel_rfl
  have hty : ∀ (j : Nat) (t : TypeId), ((Try.prog.fieldsOf 59)[j]?).map (·.type) = some t → ∃ f, (Try.prog.fieldsOf 59)[j]? = some f ∧ f.type = t := by
    intro j t hj
    obtain ⟨f, h1, h2⟩ := Option.map_eq_some_iff.1 hj
    exact ⟨f, h1, h2⟩
  rcases open_slice_fields Try.underlying54 opUnder (by kernel_rfl) (by kernel_rfl) hf with ⟨hcs, _⟩ | ⟨a', len', cap', m, D, Pl, hcs, hb, hl, hm, hmm, hx, hr⟩
  · simp [Value.cells] at hcs
    obtain ⟨rfl, rfl, rfl⟩ := hcs
    exact ⟨none, [], 0, rfl, fun i s h => by simp at h, by simp⟩
  · simp [Value.cells] at hcs
    obtain ⟨rfl, rfl, rfl⟩ := hcs
    simp only [Prod.mk.injEq] at hx
    obtain ⟨rfl, _⟩ := hx
    have hlm : len ≤ m := by rw [hmm]; split <;> omega
    simp only [Rows.uptoBulk] at hbk
    have hln := bulk_len ((List.range len).map D)
    simp only [List.length_map, List.length_range] at hln
    have hall : ∀ i, i < len → ∃ o : OpV, o.Ok w ∧ w.cell? (a'.add (i * 7)) = some (.int .i64 o.kd) ∧ w.cell? (a'.add (i * 7 + 1)) = some (.int .i64 o.mm) ∧ w.cell? (a'.add (i * 7 + 2)) = some (.int .i64 o.a) ∧ w.cell? (a'.add (i * 7 + 3)) = some (.int .i64 o.b) ∧
        w.cell? (a'.add (i * 7 + 4)) = some (.int .i64 o.nn) ∧ w.cell? (a'.add (i * 7 + 5)) = some (.int .u64 o.v) ∧ w.cell? (a'.add (i * 7 + 6)) = some (.slice o.A0 o.ss.length o.cc) := by
      intro i hi
      obtain ⟨ys, n, hD, _, _, hf⟩ := hr i (by omega)
      rw [hsz] at hf
      have key : ∀ (j : Nat), ((Try.prog.fieldsOf 59)[j]?).map (·.type) = some 3 → ∃ z : Int, w.cell? (a'.add (i * 7 + j)) = some (.int .i64 z) ∧ (-9223372036854775808 ≤ z ∧ z ≤ 9223372036854775807) := by
        intro j hj
        obtain ⟨f, h1, h2⟩ := hty j _ hj
        obtain ⟨v, y, hc, _, ht⟩ := hf j f h1
        rw [h2] at ht
        obtain ⟨z, e, _, hw⟩ := DataW.trod_int Try.underlying3 ht
        obtain rfl := (List.cons.inj e).1
        exact ⟨z, hc, bounds_i64 hw⟩
      obtain ⟨x0, h0, _⟩ := key 0 (by kernel_rfl)
      obtain ⟨x1, h1, _⟩ := key 1 (by kernel_rfl)
      obtain ⟨x2, h2, hb2⟩ := key 2 (by kernel_rfl)
      obtain ⟨x3, h3, _⟩ := key 3 (by kernel_rfl)
      obtain ⟨x4, h4, _⟩ := key 4 (by kernel_rfl)
      obtain ⟨f5, g5, t5⟩ := hty 5 47 (by kernel_rfl)
      obtain ⟨v5, y5, hc5, _, ht5⟩ := hf 5 f5 g5
      rw [t5] at ht5
      obtain ⟨x5, e5, _, hw5⟩ := DataW.trod_int Try.underlying47 ht5
      obtain rfl := (List.cons.inj e5).1
      have hb5 := bounds_u64 hw5
      obtain ⟨x5, rfl⟩ := Int.eq_ofNat_of_zero_le hb5.1
      obtain ⟨f6, g6, t6⟩ := hty 6 31 (by kernel_rfl)
      obtain ⟨v6, y6, hc6, hy6, ht6⟩ := hf 6 f6 g6
      rw [t6] at ht6
      obtain ⟨A0, ss, cc, rfl, hst, hbs⟩ := open_strs_cell ht6
      have hm1 : Rows.uptoBulk y6.1 ≤ Rows.uptoBulk (D i) := by
        rw [hD, Rows.uptoBulk]
        have := bulk_mem (List.mem_map.2 ⟨y6, List.mem_of_getElem? hy6, rfl⟩ : y6.1 ∈ ys.map (·.1))
        omega
      have hm2 := bulk_mem (List.mem_map.2 ⟨i, List.mem_range.2 hi, rfl⟩ : D i ∈ (List.range len).map D)
      refine ⟨⟨x0, x1, x2, x3, x4, x5, A0, ss, cc⟩, ⟨by show x5 < 2 ^ 64; omega, hb2, hst, by show (cat ss).size ≤ _; omega, by show List.length ss ≤ _; omega, fun s hs => ?_⟩, h0, h1, h2, h3, h4, hc5, hc6⟩
      have := size_le_cat hs
      show s.size ≤ 1048576
      have h9 : s.size ≤ (cat ss).size := this
      omega
    obtain ⟨os, htl, hts⟩ := list_of_all len hall
    refine ⟨some a', os, cap, by rw [htl], fun i o hi => ?_, by rw [htl]; omega⟩
    have hil : i < len := by rw [← htl]; exact (List.getElem?_eq_some_iff.1 hi).1
    obtain ⟨hok, h0, h1, h2, h3, h4, h5, h6⟩ := hts i o hi
    have hs : a'.spot = none := by
      obtain ⟨_, h0, _⟩ := hts 0 (os[0]'(by omega)) (List.getElem?_eq_getElem (by omega))
      rw [Nat.zero_mul, add_zero'] at h0; exact spot_none h0
    refine ⟨hok, a'.block, a'.off, ?_, ?_, ?_, ?_, ?_, ?_, ?_, ?_⟩
    · obtain ⟨b, o, s⟩ := a'
      simp only at hs
      subst hs
      rfl
    · exact addr_at h0 hs
    · exact addr_at h1 hs
    · exact addr_at h2 hs
    · exact addr_at h3 hs
    · exact addr_at h4 hs
    · exact addr_at h5 hs
    · exact addr_at h6 hs
end
end Go.Proofs.Ytkchhggbiopffaa
