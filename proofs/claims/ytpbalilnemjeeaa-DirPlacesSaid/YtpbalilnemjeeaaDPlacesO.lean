/- What is proved here: the walk of the law DirPlaces. Conditions: numbers of their kinds. -/
import Derived.Test.YtpbalilnemjeeaaDPlace
import Derived.Test.YtpbalilnemjeeaaDEnt2
import Derived.Deep.RegionHeld3
namespace Go.Proofs.Ytpbalilnemjeeaa
set_option linter.unusedVariables false
set_option linter.unusedSimpArgs false
open Go.RowKit Pm Pa Pl Pd
structure Dv (w0 : World) (g p d : Nat) (W : World) : Prop where
  below : Below w0.heap.size w0 W
  blk : Blk W g #[.pointer (some ⟨p, 0, none⟩), .int .i64 16, .int .i64 (d : Int)] 92
section
variable {w0 W W' : World} {g p d : Nat}
theorem Dv.keep (h : Dv w0 g p d W) (hb : Below W.heap.size W W') : Dv w0 g p d W' := ⟨Below.then h.below hb, h.blk.keep hb⟩
theorem Dv.drew (h : Dv w0 g p d W) : Dv w0 g p d W.drew := h.keep (Below.refl _ _).drew
theorem Dv.drewN (h : Dv w0 g p d W) (n : Nat) : Dv w0 g p d (W.drewN n) := h.keep (below_drewN (Below.refl _ _) n)
theorem Dv.cells (h : Dv w0 g p d W) : W.cell? ⟨g, 0, none⟩ = some (.pointer (some ⟨p, 0, none⟩)) ∧ W.cell? ⟨g, 1, none⟩ = some (.int .i64 16) ∧ W.cell? ⟨g, 2, none⟩ = some (.int .i64 (d : Int)) := ⟨h.blk.cell 0, h.blk.cell 1, h.blk.cell 2⟩
theorem Dv.all (h : Dv w0 g p d W) : Dv w0 g p d W ∧ W.cell? ⟨g, 0, none⟩ = some (.pointer (some ⟨p, 0, none⟩)) ∧ W.cell? ⟨g, 1, none⟩ = some (.int .i64 16) ∧ W.cell? ⟨g, 2, none⟩ = some (.int .i64 (d : Int)) := ⟨h, h.blk.cell 0, h.blk.cell 1, h.blk.cell 2⟩
end
set_option maxHeartbeats 8000000 in
set_option maxRecDepth 100000 in
theorem places_bad (w : World) (A : Option Addr) (cap n : Nat) (zs : List Int) (I D Tb K : Int) (hTb : isI Tb) (hn : zs.length = n) (hz : IntsIn w A zs) (hA : A = none → n = 0 ∧ cap = 0) (hlen : n ≤ 17592186044414) (hrg : ∀ z ∈ zs, isI z) (hp : ¬ isPow n) : Calls Try.prog 15 #[.slice A n cap, .int .i64 I, .int .i64 D, .int .i64 Tb, .int .i64 K] w fun e w' => e = .returned (.bool true) ∧ Below w.heap.size w w' := by
  go_enter Try.func15, Try.ntmps15
  go_wp2_with (first
    | (go_at_call 53; refine (made_bad w A cap n zs hn hz hA hlen hrg hp).mono ?_; rintro e w1 ⟨P, rfl, hB⟩; unfold madeV)
    | (go_at_call 49; refine (depthOf_no _ _ n rfl hp).mono ?_; rintro e w4 ⟨rfl, rfl⟩)
    | fail)
  go_ret
  exact ⟨rfl, hB.alloc hB.size _⟩
set_option maxHeartbeats 8000000 in
set_option maxRecDepth 100000 in
theorem places_out (w : World) (A : Option Addr) (cap n : Nat) (zs : List Int) (I D Tb K : Int) (hTb : isI Tb) (hn : zs.length = n) (hz : IntsIn w A zs) (hA : A = none → n = 0 ∧ cap = 0) (hlen : n ≤ 17592186044414) (hrg : ∀ z ∈ zs, isI z) (d : Nat) (hd6 : d ≤ 6) (hnd : n = 2 ^ d) (hout : I < 0 ∨ (n : Int) ≤ I ∨ D < 0 ∨ (d : Int) < D) : Calls Try.prog 15 #[.slice A n cap, .int .i64 I, .int .i64 D, .int .i64 Tb, .int .i64 K] w fun e w' => e = .returned (.bool true) ∧ Below w.heap.size w w' := by
  have hout2 : I < 0 ∨ ((2 ^ d : Nat) : Int) ≤ I ∨ D < 0 ∨ (d : Int) < D := by rw [← hnd]; exact hout
  replace hout2 := Lib.hid hout2
  replace hout := Lib.hid hout
  go_enter Try.func15, Try.ntmps15
  replace hnd := Lib.hid hnd
  replace hn := Lib.hid hn
  replace hrg := Lib.hid hrg
  replace hz := Lib.hid hz
  replace hA := Lib.hid hA
  replace hTb := Lib.hid hTb
  go_upto_region 2 with (first
    | (go_at_call 53; refine (made_yes w A cap n zs hn.out hz.out hA.out hlen hrg.out d hd6 hnd.out).mono ?_; rintro e w1 ⟨p, x, L, rfl, h1, hD⟩; replace h1 := Lib.hid h1; replace hD := Lib.hid hD; unfold madeV dirV)
    | fail)
  obtain ⟨c, hc⟩ : ∃ c, Hid (c = clsN (8 * (n : Int))) := ⟨_, rfl⟩
  rw [← hc.out] at h1 hD
  have b6 := Blk.new w1 #[.pointer (some ⟨p, 0, none⟩), .int .i64 16, .int .i64 (d : Int)] 92
  have hS := h1.out.alloc (.cells #[.pointer (some ⟨p, 0, none⟩), .int .i64 16, .int .i64 (d : Int)] 92)
  have hg6 : ¬ w1.heap.size ∈ x.all p := fun hk => Nat.lt_irrefl _ (h1.out.ar.lt _ hk)
  generalize World.alloc w1 _ = w2 at b6 hS ⊢
  obtain ⟨g6, hge⟩ : ∃ g, Hid (g = w1.heap.size) := ⟨_, rfl⟩
  rw [← hge.out] at b6 hg6 ⊢
  have hV : Hid (Dv w g6 p d w2) := ⟨hS.below, b6⟩
  obtain ⟨c0, c1, c2⟩ := hV.out.cells
  replace hS := Lib.hid hS
  replace hg6 := Lib.hid hg6
  clear b6
  go_upto_region 8 with (first
    | (go_at_call 56; refine (dir_run_out _ p 16 d hd6 I D hout2.out).mono ?_; rintro r w3 ⟨rfl, hb⟩; replace hS := Lib.hid (hS.out.keep hb); replace hV := Lib.hid (hV.out.keep hb); clear c0 c1 c2; obtain ⟨c0, c1, c2⟩ := hV.out.cells; clear hb)
    | (go_at_call 57; refine (dir_place_no _ p 16 d hd6 I D Tb hout2.out).mono ?_; rintro r w4 ⟨rfl, hb⟩; replace hS := Lib.hid (hS.out.keep hb); replace hV := Lib.hid (hV.out.keep hb); clear c0 c1 c2; obtain ⟨c0, c1, c2⟩ := hV.out.cells; clear hb)
    | fail)
  have hkway : K < 0 ∨ (¬ K < 0 ∧ (n : Int) ≤ K) ∨ (¬ K < 0 ∧ ¬ (n : Int) ≤ K ∧ ∃ k : Nat, K = k ∧ k < n) := by
    by_cases h1 : K < 0
    · exact .inl h1
    · by_cases h2 : (n : Int) ≤ K
      · exact .inr (.inl ⟨h1, h2⟩)
      · exact .inr (.inr ⟨h1, h2, K.toNat, by omega, by omega⟩)
  rcases hkway with q0 | ⟨q0, q1⟩ | ⟨q0, q1, k, hKk, hkn⟩
  iterate 2
    · go_wp2_with (first
        | (go_at_call 52; refine (entry_out2 hS.out.ar hD.out K (by rw [← hnd.out]; omega)).mono ?_; rintro r w6 ⟨rfl, h6⟩; replace hV := Lib.hid (hV.out.keep h6))
        | fail)
      go_ret
      exact ⟨rfl, hV.out.below⟩
  · subst hKk
    have k0 : (0 : Int) ≤ k := by omega
    have k1 : (k : Int) < n := by omega
    obtain ⟨z, hzk⟩ : ∃ z, zs[k]? = some z := ⟨_, List.getElem?_eq_getElem (by rw [hn.out]; exact hkn)⟩
    replace hzk := Lib.hid hzk
    go_upto_region 13 with (first
      | (go_at_call 52; refine (entry_in2 hS.out.ar hD.out k z hzk.out _ rfl).mono ?_; rintro r w6 ⟨rfl, h6⟩; replace hV := Lib.hid (hV.out.keep h6); clear c0 c1 c2; obtain ⟨c0, c1, c2⟩ := hV.out.cells; clear h6)
      | fail)
    have hway : I < 0 ∨ (¬ I < 0 ∧ (n : Int) ≤ I) ∨ (¬ I < 0 ∧ ¬ (n : Int) ≤ I ∧ D < 0) ∨ (¬ I < 0 ∧ ¬ (n : Int) ≤ I ∧ ¬ D < 0 ∧ (d : Int) < D) := by
      have := hout.out
      omega
    obtain ⟨gg, oo, hAe, hcl⟩ := ints_below hz.out hV.out.below k z hzk.out
    subst hAe
    rcases hway with i0 | ⟨i0, i1⟩ | ⟨i0, i1, e0⟩ | ⟨i0, i1, e0, e1⟩
    iterate 3
      · go_wp2_with fail
        go_ret
        exact ⟨rfl, hV.out.below⟩
    · go_wp2_with (first
        | (go_at_call 51; refine (dir_depth _ _ _ _ ⟨_, rfl⟩ ⟨_, rfl⟩ ⟨_, rfl⟩).mono ?_; rintro r w5 ⟨rfl, hb5⟩; replace hV := Lib.hid (hV.out.keep hb5); clear hcl; obtain ⟨gg2, oo2, hAe, hcl⟩ := ints_below hz.out hV.out.below k z hzk.out; injection hAe with hAe; injection hAe with a1 a2; subst a1 a2)
        | fail)
      go_ret
      exact ⟨rfl, hV.out.below⟩
end Go.Proofs.Ytpbalilnemjeeaa
