/- What is proved here: the law's own made: a directory in an arena with room; its refusal. No condition. -/
import Derived.Test.YtpbalilnemjeeaaDMakes
namespace Go.Proofs.Ytpbalilnemjeeaa
set_option linter.unusedVariables false
set_option linter.unusedSimpArgs false
open Go.RowKit Pm Pa Pl Pd
theorem AS.under {w w' : World} {o : Obj} {p : Nat} {x : Loc} {lim : Nat} {ps : Parts} {L : List UInt8} (h : AS (w.alloc o) p x lim ps L w') : AS w p x lim ps L w' :=
  ⟨Below.then ((Below.refl _ _).alloc (Nat.le_refl _) o) h.below, h.ar, fun k hk => Nat.le_trans (by simp) (h.own k hk)⟩
theorem AS.notin {w w' : World} {o : Obj} {p : Nat} {x : Loc} {lim : Nat} {ps : Parts} {L : List UInt8} (h : AS (w.alloc o) p x lim ps L w') : ¬ w.heap.size ∈ x.all p := fun hk => by
  have := h.own _ hk; simp at this; omega
theorem AS.set {w0 w : World} {p : Nat} {x : Loc} {lim : Nat} {ps : Parts} {L : List UInt8} (h : AS w0 p x lim ps L w) (g i : Nat) (v : Value) (hg : w0.heap.size ≤ g) (hn : ¬ g ∈ x.all p) : AS w0 p x lim ps L (w.setCell ⟨g, i, none⟩ v) :=
  ⟨h.below.setCell (p := ⟨g, i, none⟩) hg v, h.ar.turn ((Turns.refl [g] w).set g i v (.inl (by simp))) (fun k hk e => by simp only [List.mem_singleton] at e; exact hn (e ▸ hk)), h.own⟩
def madeV (P : Option Addr) (dv : Value) (b : Bool) : Value := .tuple #[.pointer P, dv, .bool b]
theorem made_end {wf : World} {P : Option Addr} {g3 : Nat} {c0 c1 c2 : Value} {b : Bool} {a : Act} {R : Ending → World → Prop} (hB : Blk wf g3 #[c0, c1, c2] 92)
    (hR : R (.returned (madeV P (.agg #[c0, c1, c2]) b)) wf)
    (ha2 : a.tmps[2]? = some (.pointer P)) (ha3 : a.tmps[3]? = some (.pointer (some ⟨g3, 0, none⟩))) (ha4 : a.tmps[4]? = some (.bool b)) (had : a.defers = []) :
    bodyPost Try.prog Try.f53 R .ret a wf := by
  have e0 := hB.cell 0
  have e1 := hB.cell 1
  have e2 := hB.cell 2
  simp at e0 e1 e2
  refine bodyPost_ret (v := madeV P (.agg #[c0, c1, c2]) b) ?_ had hR
  simp [results, Try.results53, go_sem, madeV, ha2, ha3, ha4, e0, e1, e2]
theorem clsN_pow {d : Nat} (h : d ≤ 6) : clsN (8 * ((2 ^ d : Nat) : Int)) ≤ 65536 := by
  have hd7 : d = 0 ∨ d = 1 ∨ d = 2 ∨ d = 3 ∨ d = 4 ∨ d = 5 ∨ d = 6 := by omega
  rcases hd7 with rfl | rfl | rfl | rfl | rfl | rfl | rfl <;> decide
set_option maxHeartbeats 4000000 in
set_option maxRecDepth 100000 in
theorem made_bad (w : World) (A : Option Addr) (cap n : Nat) (zs : List Int) (hn : zs.length = n) (hz : IntsIn w A zs) (hA : A = none → n = 0 ∧ cap = 0) (hlen : n ≤ 17592186044414) (hrg : ∀ z ∈ zs, isI z) (hp : ¬ isPow n) : Calls Try.prog 53 #[.slice A n cap] w fun e w' => ∃ P, e = .returned (madeV P (.agg #[.pointer none, .int .i64 0, .int .i64 0]) false) ∧ Below w.heap.size w w' := by
  replace hn := Lib.hid hn
  replace hrg := Lib.hid hrg
  replace hz := Lib.hid hz
  replace hA := Lib.hid hA
  go_enter Try.func53, Try.ntmps53
  go_upto_region 4 with (first
    | (go_at_call 19; refine (as_new 65536 _ (by decide) _ rfl).mono ?_; rintro e w1 ⟨p, x, L0, rfl, h1⟩; have b1 := Lib.hid ((Blk.new w #[.pointer none, .int .i64 0, .int .i64 0] 92).below h1.below (by simp)); have hz1 := Lib.hid (ints_below hz.out h1.under.below); replace h1 := Lib.hid h1)
    | fail)
  go_upto_region 7 with (first
    | ((with_reducible show wpList _ _ _ (⟨some 23, _, _, _, _, _⟩ :: _) _ _); refine wpList_list_of rfl (.tmp 21) (.tmp 22) rfl rfl A n cap zs rfl hn.out hz1.out hA.out hlen ?_; intro A2 cap2 w2 hi2 hb2 ha2 hB2; have h2 := Lib.hid (h1.out.keep hB2); have b2 := Lib.hid (b1.out.keep hB2); replace hb2 := Lib.hid hb2; replace ha2 := Lib.hid ha2; replace hi2 := Lib.hid hi2)
    | (go_at_call 48; refine (dir_new_bad _ _ _ _ n hp (by omega)).mono ?_; rintro e w3 ⟨rfl, hB3⟩; have h3 := Lib.hid (h2.out.keep hB3); have b3 := Lib.hid (b2.out.keep hB3); unfold noDir)
    | fail)
  have b4 := Blk.new w3 #[.pointer none, .int .i64 0, .int .i64 0] 92
  have b5 := b3.out.alloc (.cells #[.pointer none, .int .i64 0, .int .i64 0] 92)
  have h4 := h3.out.under.below.alloc (by have := h3.out.under.below.size; omega) (.cells #[.pointer none, .int .i64 0, .int .i64 0] 92)
  generalize World.alloc w3 _ = w4 at b4 b5 h4 ⊢
  have c0 := b4.cell 0
  have c1 := b4.cell 1
  have c2 := b4.cell 2
  have f0 := b5.free 0
  have f1 := b5.free 1
  have f2 := b5.free 2
  have d0 := b5.cell 0
  have d1 := b5.cell 1
  have d2 := b5.cell 2
  replace b4 := Lib.hid b4
  replace b5 := Lib.hid b5
  replace h4 := Lib.hid h4
  go_region
  go_wp2_with fail
  have b6 := ((b5.out.set 0 (.pointer none)).set 1 (.int .i64 0)).set 2 (.int .i64 0)
  have hf := ((h4.out.setCell (p := ⟨w.heap.size, 0, none⟩) (Nat.le_refl _) (.pointer none)).setCell (p := ⟨w.heap.size, 1, none⟩) (Nat.le_refl _) (.int .i64 0)).setCell (p := ⟨w.heap.size, 2, none⟩) (Nat.le_refl _) (.int .i64 0)
  simp at b6
  refine made_end (P := some ⟨p, 0, none⟩) b6.drew ⟨_, rfl, hf.drew⟩ ?_ ?_ ?_ ?_
  all_goals rfl
set_option maxHeartbeats 4000000 in
set_option maxRecDepth 100000 in
theorem made_yes (w : World) (A : Option Addr) (cap n : Nat) (zs : List Int) (hn : zs.length = n) (hz : IntsIn w A zs) (hA : A = none → n = 0 ∧ cap = 0) (hlen : n ≤ 17592186044414) (hrg : ∀ z ∈ zs, isI z) (d : Nat) (hd6 : d ≤ 6) (hnd : n = 2 ^ d) : Calls Try.prog 53 #[.slice A n cap] w fun e w' => ∃ p x L, e = .returned (madeV (some ⟨p, 0, none⟩) (dirV p 16 d) true) ∧ AS w p x 65536 [(clsN (8 * (n : Int)), true)] L w' ∧ DirAt [(clsN (8 * (n : Int)), true)] L 16 d zs := by
  replace hn := Lib.hid hn
  replace hrg := Lib.hid hrg
  replace hz := Lib.hid hz
  replace hA := Lib.hid hA
  have hn1 : 1 ≤ n := by rw [hnd]; exact Nat.one_le_two_pow
  have hn64 : n ≤ 64 := by rw [hnd]; exact pow64 hd6
  obtain ⟨c, hc⟩ : ∃ c, Hid (clsN (8 * (n : Int)) = c) := ⟨_, rfl⟩
  have hcm : c ≤ 65536 := by
    have := clsN_pow hd6
    rw [← hc.out, hnd]
    exact this
  rw [hc.out]
  replace hnd := Lib.hid hnd
  go_enter Try.func53, Try.ntmps53
  go_upto_region 4 with (first
    | (go_at_call 19; refine (as_new 65536 _ (by decide) _ rfl).mono ?_; rintro e w1 ⟨p, x, L0, rfl, h1⟩; have b1 := Lib.hid ((Blk.new w #[.pointer none, .int .i64 0, .int .i64 0] 92).below h1.below (by simp)); have hz1 := Lib.hid (ints_below hz.out h1.under.below); replace h1 := Lib.hid h1)
    | fail)
  go_upto_region 6 with (first
    | ((with_reducible show wpList _ _ _ (⟨some 23, _, _, _, _, _⟩ :: _) _ _); refine wpList_list_of rfl (.tmp 21) (.tmp 22) rfl rfl A n cap zs rfl hn.out hz1.out hA.out hlen ?_; intro A2 cap2 w2 hi2 hb2 ha2 hB2; have h2 := Lib.hid (h1.out.keep hB2); have b2 := Lib.hid (b1.out.keep hB2); replace hb2 := Lib.hid hb2; replace ha2 := Lib.hid ha2; replace hi2 := Lib.hid hi2)
    | (go_at_call 48; refine (as_dir h2.out (Held.nil _) zs A2 cap2 hi2.out (list_out h1.out hb2.out) hrg.out d hd6 n hn.out hnd.out c hc.out (by simp only [liveSum]; omega)).mono ?_; rintro e w3 ⟨x3, L3, rfl, h3, hD⟩; have b3 := Lib.hid ((Blk.new w #[.pointer none, .int .i64 0, .int .i64 0] 92).below h3.below (by simp)); replace h3 := Lib.hid h3; replace hD := Lib.hid hD; unfold dirV)
    | fail)
  have hn3 := h3.out.notin
  have b4 := Blk.new w3 #[.pointer (some ⟨p, 0, none⟩), .int .i64 ((takeAt [] c : Nat) : Int), .int .i64 (d : Int)] 92
  have b5 := b3.out.alloc (.cells #[.pointer (some ⟨p, 0, none⟩), .int .i64 ((takeAt [] c : Nat) : Int), .int .i64 (d : Int)] 92)
  have h4 := h3.out.under.alloc (.cells #[.pointer (some ⟨p, 0, none⟩), .int .i64 ((takeAt [] c : Nat) : Int), .int .i64 (d : Int)] 92)
  have e0 : takeAt [] c = 16 := rfl
  have e1 : takeP [] c = [(c, true)] := rfl
  rw [e1] at h4
  rw [e0, e1] at hD
  rw [e0] at b4 b5 h4 ⊢
  generalize World.alloc w3 _ = w4 at b4 b5 h4 ⊢
  obtain ⟨g8, hg8⟩ : ∃ g, Hid (g = w3.heap.size) := ⟨_, rfl⟩
  rw [← hg8.out] at b4 ⊢
  have c0 := b4.cell 0
  have c1 := b4.cell 1
  have c2 := b4.cell 2
  replace h4 := Lib.hid h4
  replace b4 := Lib.hid b4
  replace b5 := Lib.hid b5
  go_upto_region 8 with (first
    | (go_at_call 51; refine (dir_depth _ _ _ _ ⟨_, rfl⟩ ⟨_, rfl⟩ ⟨_, rfl⟩).mono ?_; rintro r w5 ⟨rfl, hb5⟩; replace h4 := Lib.hid (h4.out.keep hb5); replace b4 := Lib.hid (b4.out.keep hb5); replace b5 := Lib.hid (b5.out.keep hb5); clear c0 c1 c2 hb5)
    | (go_at_call 49; refine (depthOf_yes _ _ n d rfl hd6 hnd.out).mono ?_; rintro e w6 ⟨rfl, rfl⟩)
    | fail)
  have c0 := b4.out.cell 0
  have c1 := b4.out.cell 1
  have c2 := b4.out.cell 2
  have f0 := b5.out.free 0
  have f1 := b5.out.free 1
  have f2 := b5.out.free 2
  have d0 := b5.out.cell 0
  have d1 := b5.out.cell 1
  have d2 := b5.out.cell 2
  go_region
  go_wp2_with fail
  have b6 := ((b5.out.set 0 (.pointer (some ⟨p, 0, none⟩))).set 1 (.int .i64 16)).set 2 (.int .i64 (d : Int))
  have hf := ((h4.out.set w.heap.size 0 (.pointer (some ⟨p, 0, none⟩)) (Nat.le_refl _) hn3).set w.heap.size 1 (.int .i64 16) (Nat.le_refl _) hn3).set w.heap.size 2 (.int .i64 (d : Int)) (Nat.le_refl _) hn3
  simp at b6
  refine made_end (P := some ⟨p, 0, none⟩) b6.drew ⟨p, x3, L3, rfl, hf.drew, hD.out⟩ ?_ ?_ ?_ ?_
  all_goals rfl
end Go.Proofs.Ytpbalilnemjeeaa
