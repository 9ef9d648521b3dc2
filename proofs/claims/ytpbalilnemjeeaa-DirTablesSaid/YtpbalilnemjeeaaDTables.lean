/- What is proved here: the walk of the law DirTables. Conditions: the list lies in memory. -/
import Derived.Test.YtpbalilnemjeeaaDTabK
namespace Go.Proofs.Ytpbalilnemjeeaa
set_option linter.unusedVariables false
set_option linter.unusedSimpArgs false
open Go.RowKit Pm Pa Pl Pd
attribute [local go_sem] Oper.semAt_some
def lenAt (wr : World) (b : Nat) : Nat := match wr.cell? ⟨b, 0, none⟩ with
  | some (.slice _ n _) => n
  | _ => 0
theorem lenAt_of {wr : World} {b n c : Nat} {A : Option Addr} (h : wr.cell? ⟨b, 0, none⟩ = some (.slice A n c)) : lenAt wr b = n := by simp [lenAt, h]
theorem results_boolcell {fn : Func} {q : Tmp} (h : fn.results = #[.cell q 4]) (tmps : Array Value) (w : World) (g : Nat) (b : Bool) (hp : tmps.getD q undef = .pointer (some ⟨g, 0, none⟩)) (hc : w.cell? ⟨g, 0, none⟩ = some (.bool b)) : (results fn tmps).run Try.prog w = .ok (.bool b) w := by
  have hp' : tmps[q]?.getD undef = .pointer (some ⟨g, 0, none⟩) := by simpa using hp
  simp [results, h, hp', asAddr, go_sem, hc, Try.underlying4, Result.andThen]
set_option maxHeartbeats 4000000 in
set_option maxRecDepth 100000 in
theorem tables_bad (w : World) (A : Option Addr) (cap n : Nat) (zs : List Int) (st : Int) (hn : zs.length = n) (hz : IntsIn w A zs) (hA : A = none → n = 0 ∧ cap = 0) (hlen : n ≤ 17592186044414) (hrg : ∀ z ∈ zs, isI z) (hp : ¬ isPow n) :
    Calls Try.prog 13 #[.slice A n cap, .int .i64 st] w fun e w' => e = .returned (.bool true) ∧ Below w.heap.size w w' := by
  refine callsIn_wide.1 (callsIn_of_wp_marks (n := 9) Try.func13 rfl trivial (wpIn_wide.2 ?_) rfl)
  simp only [Try.ntmps13, List.size_toArray, List.length_cons, List.length_nil, Nat.reduceAdd, Nat.reduceSub, Array.replicate_succ, Array.replicate_zero, List.push_toArray, List.append_toArray, List.nil_append, List.cons_append]
  go_upto_region 1 with (fail)
  have hB0 : Below w.heap.size w (((w.alloc (.cells #[.slice A n cap] 29)).alloc (.cells #[.int .i64 st] 3)).alloc (.cells #[.bool false] 4)) := (((Below.refl _ _).alloc (Nat.le_refl _) _).alloc (by simp) _).alloc (by simp; omega) _
  have b1 : Blk (((w.alloc (.cells #[.slice A n cap] 29)).alloc (.cells #[.int .i64 st] 3)).alloc (.cells #[.bool false] 4)) w.heap.size #[.slice A n cap] 29 := ((Blk.new w _ _).alloc _).alloc _
  have b3 := Blk.new ((w.alloc (.cells #[.slice A n cap] 29)).alloc (.cells #[.int .i64 st] 3)) #[.bool false] 4
  simp only [World.size_alloc] at b3
  generalize World.alloc _ (.cells #[.bool false] _) = wa at hB0 b1 b3 ⊢
  have c1 := b1.cell 0
  replace b1 := Lib.hid b1
  replace b3 := Lib.hid b3
  replace hB0 := Lib.hid hB0
  have hz0 := Lib.hid (ints_below hz hB0.out)
  have tok : True := trivial
  go_upto_region 3 with (first
    | (go_at_call 53; refine (made_bad wa A cap n zs hn hz0.out hA hlen hrg hp).mono ?_; rintro e w1 ⟨P, rfl, hB⟩; unfold madeV; have d1 := Lib.hid ((b1.out.keep hB).alloc (.cells #[.pointer none, .int .i64 0, .int .i64 0] 92)); have d3 := Lib.hid ((b3.out.keep hB).alloc (.cells #[.pointer none, .int .i64 0, .int .i64 0] 92)); have hB2 := Lib.hid ((Below.then hB0.out hB).alloc (by have := hB0.out.size; have := hB.size; omega) (.cells #[.pointer none, .int .i64 0, .int .i64 0] 92)); clear c1 hB)
    | fail)
  generalize World.alloc w1 _ = w2 at d1 d3 hB2 ⊢
  have c1 := d1.out.cell 0
  have c3 := d3.out.cell 0
  have f3 := d3.out.free 0
  go_wp2_with (first
    | (go_at_call 49; refine (depthOf_no _ _ n rfl hp).mono ?_; rintro e w4 ⟨rfl, rfl⟩)
    | fail)
  have h9 := d3.out.set1 (.bool true)
  have hR := hB2.out.setCell (p := ⟨w.heap.size + 1 + 1, 0, none⟩) (by show w.heap.size ≤ w.heap.size + 1 + 1; omega) (.bool true)
  refine ⟨_, results_boolcell rfl _ _ _ true rfl (h9.cell 0), rfl, ?_⟩
  exact hR
theorem tclosed {w W : World} {a h D g p : Nat} {x : Loc} {ps : Parts} {L : List UInt8} {d : Nat} {es : List Int} {A : Option Addr} {cap : Nat} {stop : Int} {v : Value} {l : List Int} {last n told : Int} {st : Bool} {tmps : Array Value} (hT : Tb w a h D g p x ps L d es A cap stop v l last n told st W)
    (hK : W.heap[D]? = some (.deferred (some []))) (hp : tmps.getD 4 undef = .pointer (some ⟨a + 1 + 1, 0, none⟩)) :
    bodyPostM Fence.wide 9 Try.prog Try.f13 (fun e w' => e = .returned (.bool true) ∧ Below w.heap.size w w') .ret
      { tmps := tmps, defers := [{ target := .collected D, args := #[] }] } (W.setCell ⟨a + 1 + 1, 0, none⟩ (.bool true)) := by
  have h1 := hT.o1
  have h2 := hT.o2
  have h3 := hT.o3
  have h4 := hT.o4
  have hK1 : (W.setCell ⟨a + 2, 0, none⟩ (.bool true)).heap[D]? = some (.deferred (some [])) := (Below.heap_setCell W ⟨a + 2, 0, none⟩ _ D (by show D ≠ a + 2; omega)).trans hK
  have hR : Blk (W.setCell ⟨a + 2, 0, none⟩ (.bool true)) (a + 2) #[.bool true] 4 := hT.res.set1 _
  have hR2 : Blk ((W.setCell ⟨a + 2, 0, none⟩ (.bool true)).putObj D (.deferred none)) (a + 2) #[.bool true] 4 := (World.putObj_heap_other (by omega)).trans hR
  have hb : Below w.heap.size w (W.setCell ⟨a + 2, 0, none⟩ (.bool true)) := hT.below.setCell (p := ⟨a + 2, 0, none⟩) (by show w.heap.size ≤ a + 2; omega) _
  have hb2 := hb.trans (below_put _ D (.deferred none) (B := w.heap.size) (by omega) (Array.getElem?_eq_some_iff.1 hK1).1)
  refine ⟨by simp, .inl ⟨_, _, rfl, run_takeDeferred hK1, ?_⟩⟩
  exact ⟨_, results_boolcell rfl _ _ (a + 2) true hp (hR2.cell 0), rfl, hb2⟩
set_option maxHeartbeats 8000000 in
set_option maxRecDepth 100000 in
theorem tables_yes (w : World) (A : Option Addr) (cap : Nat) (zs : List Int) (stop : Int) (hz : IntsIn w A zs) (hA : A = none → zs.length = 0 ∧ cap = 0) (hlen : zs.length ≤ 17592186044414) (hrg : ∀ z ∈ zs, isI z) (d : Nat) (hd6 : d ≤ 6) (hnd : zs.length = 2 ^ d) :
    Calls Try.prog 13 #[.slice A zs.length cap, .int .i64 stop] w fun e w' => e = .returned (.bool true) ∧ Below w.heap.size w w' := by
  refine callsIn_wide.1 (callsIn_of_wp_marks (n := 9) Try.func13 rfl trivial (wpIn_wide.2 ?_) rfl)
  simp only [Try.ntmps13, List.size_toArray, List.length_cons, List.length_nil, Nat.reduceAdd, Nat.reduceSub, Array.replicate_succ, Array.replicate_zero, List.push_toArray, List.append_toArray, List.nil_append, List.cons_append]
  obtain ⟨n, hn⟩ : ∃ n, Hid (zs.length = n) := ⟨_, rfl⟩
  rw [hn.out] at hA hlen hnd ⊢
  have hn1 : 1 ≤ n := by rw [hnd]; exact Nat.one_le_two_pow
  have hn64 : n ≤ 64 := by rw [hnd]; exact pow64 hd6
  replace hnd := Lib.hid hnd
  go_upto_region 1 with (fail)
  have hB0 : Below w.heap.size w (((w.alloc (.cells #[.slice A n cap] 29)).alloc (.cells #[.int .i64 stop] 3)).alloc (.cells #[.bool false] 4)) := (((Below.refl _ _).alloc (Nat.le_refl _) _).alloc (by simp) _).alloc (by simp; omega) _
  have b1 : Blk (((w.alloc (.cells #[.slice A n cap] 29)).alloc (.cells #[.int .i64 stop] 3)).alloc (.cells #[.bool false] 4)) w.heap.size #[.slice A n cap] 29 := ((Blk.new w _ _).alloc _).alloc _
  have b2 := (Blk.new (w.alloc (.cells #[.slice A n cap] 29)) #[.int .i64 stop] 3).alloc (.cells #[.bool false] 4)
  have b3 := Blk.new ((w.alloc (.cells #[.slice A n cap] 29)).alloc (.cells #[.int .i64 stop] 3)) #[.bool false] 4
  simp only [World.size_alloc] at b2 b3
  generalize World.alloc _ (.cells #[.bool false] _) = wa at hB0 b1 b2 b3 ⊢
  obtain ⟨a, ha⟩ : ∃ a, Hid (a = w.heap.size) := ⟨_, rfl⟩
  rw [← ha.out] at b1 b2 b3 ⊢
  have c1 := b1.cell 0
  replace b1 := Lib.hid b1
  replace b2 := Lib.hid b2
  replace b3 := Lib.hid b3
  replace hB0 := Lib.hid hB0
  have hz0 := Lib.hid (ints_below hz hB0.out)
  have hmade := Lib.hid (made_yes wa A cap n zs hn.out hz0.out hA hlen hrg d hd6 hnd.out)
  clear hrg
  go_upto_region 2 with (first
    | (go_at_call 53; refine hmade.out.mono ?_; rintro e w1 ⟨p, x, L, rfl, h1, hD⟩; unfold madeV dirV; have hz1 := ints_below hz0.out h1.below; have d1 := (b1.out.keep h1.below).alloc (.cells #[.pointer (some ⟨p, 0, none⟩), .int .i64 16, .int .i64 (d : Int)] 92); have d2 := (b2.out.keep h1.below).alloc (.cells #[.pointer (some ⟨p, 0, none⟩), .int .i64 16, .int .i64 (d : Int)] 92); have d3 := (b3.out.keep h1.below).alloc (.cells #[.pointer (some ⟨p, 0, none⟩), .int .i64 16, .int .i64 (d : Int)] 92); have hA2 := h1.ar.alloc (.cells #[.pointer (some ⟨p, 0, none⟩), .int .i64 16, .int .i64 (d : Int)] 92); have hlt : ∀ k, k ∈ x.all p → k < w1.heap.size := h1.ar.lt; have hB2 := (Below.then hB0.out h1.below).alloc (by have := hB0.out.size; have := h1.below.size; omega) (.cells #[.pointer (some ⟨p, 0, none⟩), .int .i64 16, .int .i64 (d : Int)] 92); have b6 := Blk.new w1 #[.pointer (some ⟨p, 0, none⟩), .int .i64 16, .int .i64 (d : Int)] 92; replace hD := Lib.hid hD; replace hlt := Lib.hid hlt; clear h1 c1)
    | fail)
  have hz2 : w1.heap.size < (w1.alloc (.cells #[.pointer (some ⟨p, 0, none⟩), .int .i64 16, .int .i64 (d : Int)] 92)).heap.size := by simp
  generalize World.alloc w1 _ = w2 at d1 d2 d3 hA2 hB2 b6 hz2 ⊢
  obtain ⟨g6, hg6⟩ : ∃ g, Hid (g = w1.heap.size) := ⟨_, rfl⟩
  rw [← hg6.out] at b6 hz2 ⊢
  have hx6 : Hid (∀ k, k ∈ x.all p → k < g6) := by rw [hg6.out]; exact hlt.out
  obtain ⟨c, hc⟩ : ∃ c, Hid (c = clsN (8 * (n : Int))) := ⟨_, rfl⟩
  rw [← hc.out] at hA2 hD
  obtain ⟨h, hh⟩ : ∃ h, Hid (h = w2.heap.size) := ⟨_, rfl⟩
  have a3h : a + 3 ≤ h := by rw [hh.out]; exact d3.lt
  have h6 : g6 < h := by rw [hh.out]; exact hz2
  clear hlt hg6 hz2 hz1 hz0 b1 b2 b3 hmade hB0
  replace d1 := Lib.hid d1
  replace d2 := Lib.hid d2
  replace d3 := Lib.hid d3
  replace hA2 := Lib.hid hA2
  replace hB2 := Lib.hid hB2
  replace b6 := Lib.hid b6
  go_upto_region 9 with (fail)
  have e5 : Below w2.heap.size w2 (((((w2.alloc (.cells #[.slice none 0 0] 29)).alloc (.cells #[.int .i64 0] 3)).alloc (.cells #[.int .i64 0] 3)).alloc (.cells #[.int .i64 (-1)] 3)).alloc (.cells #[.bool false] 4)) := (((((Below.refl _ _).alloc (Nat.le_refl _) _).alloc (by simp) _).alloc (by simp; omega) _).alloc (by simp; omega) _).alloc (by simp; omega) _
  have n0 := ((((Blk.new w2 #[.slice none 0 0] 29).alloc (.cells #[.int .i64 0] 3)).alloc (.cells #[.int .i64 0] 3)).alloc (.cells #[.int .i64 (-1)] 3)).alloc (.cells #[.bool false] 4)
  have n1 := (((Blk.new (w2.alloc (.cells #[.slice none 0 0] 29)) #[.int .i64 0] 3).alloc (.cells #[.int .i64 0] 3)).alloc (.cells #[.int .i64 (-1)] 3)).alloc (.cells #[.bool false] 4)
  have n2 := ((Blk.new ((w2.alloc (.cells #[.slice none 0 0] 29)).alloc (.cells #[.int .i64 0] 3)) #[.int .i64 0] 3).alloc (.cells #[.int .i64 (-1)] 3)).alloc (.cells #[.bool false] 4)
  have n3 := (Blk.new (((w2.alloc (.cells #[.slice none 0 0] 29)).alloc (.cells #[.int .i64 0] 3)).alloc (.cells #[.int .i64 0] 3)) #[.int .i64 (-1)] 3).alloc (.cells #[.bool false] 4)
  have n4 := Blk.new ((((w2.alloc (.cells #[.slice none 0 0] 29)).alloc (.cells #[.int .i64 0] 3)).alloc (.cells #[.int .i64 0] 3)).alloc (.cells #[.int .i64 (-1)] 3)) #[.bool false] 4
  simp only [World.size_alloc] at n1 n2 n3 n4
  rw [← hh.out] at n0 n1 n2 n3 n4 ⊢
  have e1 := d1.out.keep e5
  have e2 := d2.out.keep e5
  have e3 := d3.out.keep e5
  have eA := hA2.out.keep e5
  have eB := Below.then hB2.out e5
  have e6 := b6.out.keep e5
  generalize World.alloc _ (.cells #[.bool false] _) = w3 at e1 e2 e3 eA eB e6 n0 n1 n2 n3 n4 ⊢
  have p0 := e6.cell 0
  have p1 := e6.cell 1
  have p2 := e6.cell 2
  obtain ⟨g, hg⟩ : ∃ g, Hid (g = w3.heap.size) := ⟨_, rfl⟩
  have h5g : h + 5 ≤ g := by rw [hg.out]; exact n4.lt
  replace e1 := Lib.hid e1
  replace e2 := Lib.hid e2
  replace e3 := Lib.hid e3
  replace eA := Lib.hid eA
  replace eB := Lib.hid eB
  replace e6 := Lib.hid e6
  replace n0 := Lib.hid n0
  replace n1 := Lib.hid n1
  replace n2 := Lib.hid n2
  replace n3 := Lib.hid n3
  replace n4 := Lib.hid n4
  clear d1 d2 d3 hA2 hB2 b6 e5
  have hfn := fun w => run_eql_seq2_nil w (.func 89) #[] #[.pointer (some ⟨g, 0, none⟩)]
  obtain ⟨i0, hi0, hz0, hz1, hz2⟩ := info_parts infoInt
  replace hi0 := Lib.hid hi0
  replace hz0 := Lib.hid hz0
  replace hz1 := Lib.hid hz1
  replace hz2 := Lib.hid hz2
  go_upto_block 0 with (first
    | (go_at_call 54; refine (dir_tables _ p 16 d).mono ?_; rintro e w4 ⟨rfl, hb4, hb4x⟩; rw [← hg.out] at hb4x ⊢; clear p0 p1 p2)
    | fail)
  obtain ⟨D, hDD⟩ : ∃ D, Hid (D = w4.heap.size) := ⟨_, rfl⟩
  have hTb : ∀ W, Below w4.heap.size w4 W → D + 2 ≤ W.heap.size → Tb w a h D g p x [(c, true)] L d zs A cap stop (.slice none 0 0) [] 0 0 (-1) false W := by
    intro W hW hsz
    have k4 := Below.then (Below.then eB.out hb4) hW
    have kk : ∀ {g : Nat} {cs : Array Value} {t : TypeId}, Blk w3 g cs t → Blk W g cs t := fun h => (h.keep hb4).keep hW
    exact ⟨k4, by rw [hn.out]; exact kk e1.out, kk e2.out, kk e3.out, ⟨(eA.out.keep hb4).keep hW, hb4x.keep hW⟩, kk n0.out, kk n1.out, kk n2.out, kk n3.out, kk n4.out, World.ownsRow_nil _ _ _ _, hsz, a3h, h5g, by rw [hDD.out]; exact hb4x.lt, by rw [ha.out]; exact Nat.le_refl _, fun k hk => by have := hx6.out k hk; omega⟩
  have hIn : Hid (IntsIn w A zs) := hz
  replace hTb := Lib.hid hTb
  clear e1 e2 e3 eA eB e6 n0 n1 n2 n3 n4 hz hb4 hfn hA hx6 hc hh hg hlen
  have hd4 : DirThere g p x 65536 [(c, true)] L 16 d w4 ∨ True := .inr trivial
  clear hd4
  rw [show n = zs.length from hn.out.symm]
  go_wp2_with fail
  refine wpIn_wide.1 (range_p (n := 9) rfl (by decide) (gf := 89) (lb := #[.pointer (some ⟨g, 0, none⟩)]) rfl trivial (enters_of Try.func89 (by kernel_rfl) rfl)
    (tables1_p 8 (by decide) g p x 65536 [(c, true)] L hD.out w4) (Below.refl _ _) (fun _ => rfl) D hDD.out.symm
    (fun pre Qs W => ∃ v l last nn told m, Tb w a h D g p x [(c, true)] L d zs A cap stop v l last nn told false W ∧ Pst zs pre l last nn told m ∧ Qs = [])
    (fun cd pre Qs W => cd = .exit 0 ∧ ∃ v l last nn told m, Tb w a h D g p x [(c, true)] L d zs A cap stop v l last nn told true W ∧ Pst zs pre l last nn told m ∧ Qs = [])
    ?turnI (fun hf => hf.elim) ?gd ?turnX (fun W hW hsz => ⟨_, _, _, _, _, _, hTb.out W hW hsz, Pst.start (by rw [hn.out]; exact hn1), rfl⟩) ?a1 ?assign ?body ?done ?stop)
  case turnI =>
    rintro s Q W W' ⟨v, l, last, nn, told, m, hT, hP, rfl⟩ ht
    exact ⟨v, l, last, nn, told, m, hT.turn ht (fun k hk => ⟨by simp at hk; omega, fun e => by have := (hT.rowge k e).1; simp at hk; omega⟩), hP, rfl⟩
  case gd =>
    rintro pre Q W ⟨v, l, last, nn, told, m, hT, hP, rfl⟩
    exact hT.dir
  case turnX =>
    rintro cd s Q W W' ⟨rfl, v, l, last, nn, told, m, hT, hP, rfl⟩ ht
    exact ⟨rfl, v, l, last, nn, told, m, hT.turn ht (fun k hk => ⟨by simp at hk; omega, fun e => by have := (hT.rowge k e).1; simp at hk; omega⟩), hP, rfl⟩
  case assign =>
    intro l x W K hK
    gi_wp2
    exact hK
  case body =>
    rintro pre i Qs W ⟨lr, hr⟩ hd hsz hq ⟨v, l, last, nn, told, m, hT, hP, rfl⟩ ⟨hil, hfi, rfl⟩
    rw [← hnd.out] at hil
    obtain ⟨q1, q2, q3, q4, q5⟩ := hP.next hfi (by rw [hn.out]; exact hil)
    have hnn : nn = ((firsts zs i).length : Int) := hP.1
    have hfl := firsts_len zs i
    have hpm : Hid (l = zs.take m) := hP.2.2.1
    obtain ⟨e, he⟩ : ∃ e, Hid (zs.getD i 0 = e) := ⟨_, rfl⟩
    have hstep := Pst.step (es := zs) (i := i) (by rw [hn.out]; exact hil)
    rw [← hnn] at hstep
    rw [he.out] at hstep
    rw [show zs[i]?.getD 0 = e by rw [← List.getD_eq_getElem?_getD]; exact he.out]
    replace hstep := Lib.hid hstep
    have hzl : (zs.length : Int) = n := by rw [hn.out]
    have c0 := hT.offs.cell 0
    have c1 := hT.stp.cell 0
    have c3 := hT.lc.cell 0
    have c4 := hT.la.cell 0
    have c5 := hT.nn.cell 0
    have c6 := hT.td.cell 0
    have c7 := hT.sp.cell 0
    obtain ⟨A2, c2, hve, _⟩ := hT.lslice
    rw [hve] at c3
    have g1 : ¬ (i : Int) ≤ told := by omega
    have g2 : ¬ (i : Int) < (l.length : Int) := by omega
    have g3 : ¬ (zs.length : Int) ≤ (i : Int) := by omega
    replace hT := Lib.hid hT
    replace hve := Lib.hid hve
    have hn0 : 0 ≤ nn ∧ nn ≤ 64 := by omega
    have hml : m ≤ l.length ∧ l.length ≤ i := by omega
    replace hnn := Lib.hid hnn
    replace q2 := Lib.hid q2
    clear hr hd hzl
    rcases Nat.eq_zero_or_pos i with hi0' | hip
    · obtain ⟨r1, r2⟩ := q4 hi0'
      have hip3 : ((i : Int) == 0) = true := by rw [hi0']; rfl
      have s1 : ¬ (0 : Int) < nn := by omega
      have s2 : ¬ (0 : Int) < (i : Int) := by omega
      replace q5 : Hid (∀ j, m ≤ j → j < i → zs.getD j 0 = last) := fun j a b => by omega
      replace hi0' := Lib.hid hi0'
      clear q4 r1 r2
      gi_wp2
      gi_loopw [80] (fun _ wr => ∃ (v : Value) (l : List Int), m ≤ l.length ∧ l.length ≤ i ∧ Hid (l = zs.take l.length) ∧ Hid (Tb w a h D g p x [(c, true)] L d zs A cap stop v l last nn told false wr) ∧ Hid (Keeps [D + 1, D] W wr)) (fun _ wr => i - lenAt wr h)
      case atStart => exact ⟨v, l, by omega, by omega, by unfold Hid; rw [q2.out]; exact hpm.out, hT, Keeps.refl _ _⟩
      case round =>
        obtain ⟨v, l, y1, y2, y3, hT, hKp⟩ := hrel
        obtain ⟨A2, c2, hve, _⟩ := hT.out.lslice
        have c0 := hT.out.offs.cell 0
        have c1 := hT.out.stp.cell 0
        have c3 := hT.out.lc.cell 0
        have f3 := hT.out.lc.free 0
        have c4 := hT.out.la.cell 0
        have c5 := hT.out.nn.cell 0
        have c6 := hT.out.td.cell 0
        have c7 := hT.out.sp.cell 0
        have f4 := hT.out.la.free 0
        have f5 := hT.out.nn.free 0
        have f6 := hT.out.td.free 0
        have f7 := hT.out.sp.free 0
        rw [hve] at c3
        have hm0 := lenAt_of c3
        have hDw := hT.out.sz
        by_cases hlt : l.length < i
        · exact absurd hlt (by have := hi0'.out; omega)
        · obtain rfl : l.length = i := by omega
          have hK9 : Hid (∀ (g j : Nat) (u : Value) (W2 : World), g < D → Keeps [D + 1, D] W W2 → Keeps [D + 1, D] W (W2.setCell ⟨g, j, none⟩ u)) := fun g j u W2 hg hk => hk.set g j u (fun hm => by simp at hm; omega)
          have ob := And.intro hT.out.o2 hT.out.o3
          by_cases hst : nn + 1 = stop
          · subst hst
            gi_wp2
            have h9 := hstep.out
            rw [← y3.out] at h9
            have hT9 := (((hT.out.setTold (l.length : Int)).setLast e).setNum (nn + 1)).setStop true
            exact ⟨hK9.out _ _ _ _ (by omega) (hK9.out _ _ _ _ (by omega) (hK9.out _ _ _ _ (by omega) (hK9.out _ _ _ _ (by omega) hKp.out))), rfl, v, l, e, nn + 1, (l.length : Int), hT9, l.length, h9⟩
          · gi_wp2
            have h9 := hstep.out
            rw [← y3.out] at h9
            have hT9 := (((hT.out.setTold (l.length : Int)).setLast e).setNum (nn + 1))
            exact ⟨(hK9.out _ _ _ _ (by omega) (hK9.out _ _ _ _ (by omega) (hK9.out _ _ _ _ (by omega) hKp.out))), v, l, e, nn + 1, (l.length : Int), hT9, l.length, h9⟩
    · obtain ⟨r1, r2, r3⟩ := q5 hip
      have hip1 : (0 : Int) < i := by omega
      have hip2 : ¬ (i : Int) = 0 := by omega
      have hip3 : ((i : Int) == 0) = false := by simpa using hip2
      have r4 : ¬ nn = 0 := by omega
      have r5 : (0 : Int) < nn := by omega
      have r6 : ¬ e = last := by rw [← he.out]; exact fun q => r2 q.symm
      have r7 : (e == last) = false := by simpa using r6
      have r8 : (nn == 0) = false := by simpa using r4
      replace q5 : Hid (∀ j, m ≤ j → j < i → zs.getD j 0 = last) := r3
      clear q4 r2 r3
      gi_wp2
      gi_loopw [80] (fun _ wr => ∃ (v : Value) (l : List Int), m ≤ l.length ∧ l.length ≤ i ∧ Hid (l = zs.take l.length) ∧ Hid (Tb w a h D g p x [(c, true)] L d zs A cap stop v l last nn told false wr) ∧ Hid (Keeps [D + 1, D] W wr)) (fun _ wr => i - lenAt wr h)
      case atStart => exact ⟨v, l, by omega, by omega, by unfold Hid; rw [q2.out]; exact hpm.out, hT, Keeps.refl _ _⟩
      case round =>
        obtain ⟨v, l, y1, y2, y3, hT, hKp⟩ := hrel
        obtain ⟨A2, c2, hve, _⟩ := hT.out.lslice
        have c0 := hT.out.offs.cell 0
        have c1 := hT.out.stp.cell 0
        have c3 := hT.out.lc.cell 0
        have f3 := hT.out.lc.free 0
        have c4 := hT.out.la.cell 0
        have c5 := hT.out.nn.cell 0
        have c6 := hT.out.td.cell 0
        have c7 := hT.out.sp.cell 0
        have f4 := hT.out.la.free 0
        have f5 := hT.out.nn.free 0
        have f6 := hT.out.td.free 0
        have f7 := hT.out.sp.free 0
        rw [hve] at c3
        have hm0 := lenAt_of c3
        have hDw := hT.out.sz
        by_cases hlt : l.length < i
        · have l0 : (l.length : Int) < i := by omega
          have hadd : l ++ [last] = zs.take (l.length + 1) := by
            rw [take_snocD zs l.length (by rw [hn.out]; omega), q5.out _ y1 hlt, ← y3.out]
          replace hadd := Lib.hid hadd
          obtain ⟨N, hN⟩ : ∃ N, Hid (N = l.length) := ⟨_, rfl⟩
          gi_wp2_with (gi_at_builtin; refine wpListIn_append_own _ rfl _ _ 29 rfl (D + 2) 3 i0 (.int .i64 0) 1 8 Try.underlying29 hi0.out hz0.out hz1.out hz2.out rfl (by decide) _ _ _ (by first | exact hve.symm | rfl) (hT.out.row.alloc _) ⟨wr.heap.size, 0, none⟩ 1 1 [.int .i64 last] rfl rfl (cell_one_new _ _ _) (by simp [Value.oneCell']) (by unfold maxLen; omega) (by omega) (by simp; omega) ?_; intro v2 w2 hown hgrow hnil; obtain ⟨g2, cap2, rfl⟩ := ownsRow_succ hown; obtain ⟨hT2, hS2, hB2, hR2⟩ := hT.out.append hown hgrow; have d3 := hB2.cell 0; have e3 := hB2.free 0; replace hown := Lib.hid hown; replace hgrow := Lib.hid hgrow; replace hT2 := Lib.hid hT2; replace hS2 := Lib.hid hS2; replace hB2 := Lib.hid hB2; replace hR2 := Lib.hid hR2)
          obtain ⟨hw0, hw1⟩ : h < D ∧ ∀ k, k ∈ rows v → D + 2 ≤ k := ⟨by have := hT.out.o2; have := hT.out.o3; omega, fun k hk => (hT.out.rowge k hk).1⟩
          have hm1 := lenAt_of (hT2.out.lc.cell 0)
          refine ⟨⟨_, l ++ [last], by simp; omega, by simp; omega, by unfold Hid; rw [List.length_append]; exact hadd.out, hT2, hKp.out.trans (Keeps.of_turns hS2.out fun k hk hq => ?_)⟩, by rw [hm0, hm1]; omega⟩
          simp only [List.mem_cons, List.not_mem_nil, or_false] at hk
          rcases List.mem_cons.1 hq with e9 | e9
          · omega
          · have := hw1 k e9; omega
        · obtain rfl : l.length = i := by omega
          have hK9 : Hid (∀ (g j : Nat) (u : Value) (W2 : World), g < D → Keeps [D + 1, D] W W2 → Keeps [D + 1, D] W (W2.setCell ⟨g, j, none⟩ u)) := fun g j u W2 hg hk => hk.set g j u (fun hm => by simp at hm; omega)
          have ob := And.intro hT.out.o2 hT.out.o3
          by_cases hst : nn + 1 = stop
          · subst hst
            gi_wp2
            have h9 := hstep.out
            rw [← y3.out] at h9
            have hT9 := (((hT.out.setTold (l.length : Int)).setLast e).setNum (nn + 1)).setStop true
            exact ⟨hK9.out _ _ _ _ (by omega) (hK9.out _ _ _ _ (by omega) (hK9.out _ _ _ _ (by omega) (hK9.out _ _ _ _ (by omega) hKp.out))), rfl, v, l, e, nn + 1, (l.length : Int), hT9, l.length, h9⟩
          · gi_wp2
            have h9 := hstep.out
            rw [← y3.out] at h9
            have hT9 := (((hT.out.setTold (l.length : Int)).setLast e).setNum (nn + 1))
            exact ⟨(hK9.out _ _ _ _ (by omega) (hK9.out _ _ _ _ (by omega) (hK9.out _ _ _ _ (by omega) hKp.out))), v, l, e, nn + 1, (l.length : Int), hT9, l.length, h9⟩
  case done =>
    rintro xs Qs W rfl ⟨v, l, last, nn, told, m, hT, hP, rfl⟩ hK
    obtain ⟨f1, f2⟩ := hP.fin (by rw [hn.out]; exact hnd.out.symm) (Nat.one_le_two_pow)
    dsimp only
    have hml : l.length = m := by
      have e9 := congrArg List.length hP.2.2.1
      rw [List.length_take] at e9
      have := hP.2.1
      omega
    have hmn : m < n := by have := hP.2.1; rw [hn.out] at this; exact this
    have hl9 : Hid (l = zs.take l.length) := by unfold Hid; rw [hml]; exact hP.2.2.1
    replace f2 : Hid (∀ j, m ≤ j → j < n → zs.getD j 0 = last) := by rw [hnd.out]; exact f2
    have c0 := hT.offs.cell 0
    have c5 := hT.nn.cell 0
    have hne : ¬ nn = 0 := by omega
    have hnb : (nn == 0) = false := by simpa using hne
    replace hT := Lib.hid hT
    replace hK := Lib.hid hK
    clear hP
    go_upto_region 26 with (fail)
    go_loopw [97] (fun _ wr => ∃ (v : Value) (l : List Int), m ≤ l.length ∧ l.length ≤ n ∧ Hid (l = zs.take l.length) ∧ Hid (Tb w a h D g p x [(c, true)] L d zs A cap stop v l last nn told false wr) ∧ Hid (wr.heap[D]? = some (.deferred (some [])))) (fun _ wr => n - lenAt wr h)
    case atStart => exact ⟨v, l, by omega, by omega, hl9, hT, hK⟩
    case round =>
      obtain ⟨v, l, y1, y2, y3, hT, hK⟩ := hrel
      have c0 := hT.out.offs.cell 0
      have c3 := hT.out.lc.cell 0
      have f3 := hT.out.lc.free 0
      have c4 := hT.out.la.cell 0
      have c7 := hT.out.sp.cell 0
      have hDw := hT.out.sz
      by_cases hlt : l.length < n
      · obtain ⟨A2, c2, hve, _⟩ := hT.out.lslice
        rw [hve] at c3
        have hm0 := lenAt_of c3
        have l0 : (l.length : Int) < zs.length := by rw [hn.out]; omega
        have hadd : l ++ [last] = zs.take (l.length + 1) := by
          rw [take_snocD zs l.length (by rw [hn.out]; omega), f2.out _ y1 hlt, ← y3.out]
        replace hadd := Lib.hid hadd
        obtain ⟨hw0, hw1⟩ : h < D ∧ ∀ k, k ∈ rows v → D + 2 ≤ k := ⟨by have := hT.out.o2; have := hT.out.o3; omega, fun k hk => (hT.out.rowge k hk).1⟩
        replace hw1 := Lib.hid hw1
        go_wp2_with (first
          | (at_builtin; refine wpList_append_own _ rfl _ _ 29 rfl (D + 2) 3 i0 (.int .i64 0) 1 8 Try.underlying29 hi0.out hz0.out hz1.out hz2.out rfl (by decide) _ _ _ (by first | exact hve.symm | rfl) (hT.out.row.alloc _) ⟨wr.heap.size, 0, none⟩ 1 1 [.int .i64 last] rfl rfl (cell_one_new _ _ _) (by simp [Value.oneCell']) (by unfold maxLen; omega) (by omega) (by simp; omega) ?_; intro v2 w2 hown hgrow hnil; obtain ⟨g2, cap2, rfl⟩ := ownsRow_succ hown; obtain ⟨hT2, hS2, hB2, hR2⟩ := hT.out.append hown hgrow; have d3 := hB2.cell 0; have e3 := hB2.free 0; replace hown := Lib.hid hown; replace hgrow := Lib.hid hgrow; replace hT2 := Lib.hid hT2; replace hS2 := Lib.hid hS2; replace hB2 := Lib.hid hB2; replace hR2 := Lib.hid hR2)
          | fail)
        have hm1 := lenAt_of (hT2.out.lc.cell 0)
        refine ⟨⟨_, l ++ [last], by simp; omega, by simp; omega, by unfold Hid; rw [List.length_append]; exact hadd.out, hT2, (hS2.out.block D (by omega) (fun hk => ?_)).trans hK.out⟩, by rw [hm0, hm1]; omega⟩
        rcases List.mem_cons.1 hk with e9 | e9
        · omega
        · have := hw1.out D e9; omega
      · obtain rfl : l.length = n := by omega
        have l0 : ¬ (l.length : Int) < zs.length := by rw [hn.out]; omega
        clear c0 c3 c7
        obtain ⟨A2, c2, hve, hi2⟩ := hT.out.lslice
        have hi1 := ints_below hIn.out hT.out.below
        replace hi1 := Lib.hid hi1
        replace hi2 := Lib.hid hi2
        rw [hve] at hT
        have c0 := hT.out.offs.cell 0
        have c3 := hT.out.lc.cell 0
        have c7 := hT.out.sp.cell 0
        clear hve
        go_upto_region 29 with (fail)
        obtain ⟨wo, rfl⟩ : ∃ wo : World, wo = wr := ⟨_, rfl⟩
        go_loopw [112] (fun a112 ws => ∃ j : Nat, j ≤ l.length ∧ a112 = .int .i64 (j : Int) ∧ Hid (wo = ws)) (fun i _ => (l.length - (intOf i).toNat))
        case atStart => exact ⟨0, Nat.zero_le _, rfl, rfl⟩
        case round =>
          obtain ⟨j, hj, rfl, hwo⟩ := hrel
          obtain rfl := hwo.out
          clear hwo
          by_cases hlt : j < l.length
          · have j0 : (0 : Int) ≤ j := by omega
            have j1 : (j : Int) < l.length := by omega
            have j2 : (j : Int) < zs.length := by rw [hn.out]; omega
            obtain ⟨e, he⟩ : ∃ e, Hid (l[j]? = some e) := ⟨_, List.getElem?_eq_getElem hlt⟩
            have he2 : Hid (zs[j]? = some e) := by
              have h9 := he.out
              rw [y3.out, List.getElem?_take, if_pos hlt] at h9
              exact h9
            obtain ⟨gx, ox, hAx, hcx⟩ := hi2.out j e he.out
            obtain ⟨gy, oy, hAy, hcy⟩ := hi1.out j e he2.out
            subst hAx hAy
            clear he he2
            go_wp2_with fail
            exact ⟨⟨j + 1, by omega, by go_num, by first | rfl | exact trivial⟩, by simp [intOf]; omega⟩
          · obtain rfl : j = l.length := by omega
            have y9 : (l.length : Int) = zs.length := by rw [hn.out]
            have y8 : ((l.length : Int) == (zs.length : Int)) = true := by rw [y9]; simp
            replace y9 := Lib.hid y9
            have cR := hT.out.res.cell 0
            have fR := hT.out.res.free 0
            go_wp2_with fail
            refine tclosed hT.out hK.out ?_
            rfl
  case stop =>
    rintro cd pre Qs W ⟨i9, hi9, hf9, rfl⟩ ⟨rfl, v, l, last, nn, told, m, hT, hP, rfl⟩ hK
    refine wpIn_wide.2 ?_
    have f1 := hP.more (by simp)
    have hml : l.length = m := by
      have e9 := congrArg List.length hP.2.2.1
      rw [List.length_take] at e9
      have := hP.2.1
      omega
    have hmn : m < n := by have := hP.2.1; rw [hn.out] at this; exact this
    have hl9 : Hid (l = zs.take l.length) := by unfold Hid; rw [hml]; exact hP.2.2.1
    have c5 := hT.nn.cell 0
    have hne : ¬ nn = 0 := by omega
    have hnb : (nn == 0) = false := by simpa using hne
    replace hT := Lib.hid hT
    replace hK := Lib.hid hK
    have y1 : l.length < n := by omega
    clear hP hml hmn hi9
    dsimp only
    go_upto_region 26 with (fail)
    go_loopw [97] (fun _ wr => Hid (Tb w a h D g p x [(c, true)] L d zs A cap stop v l last nn told true wr) ∧ Hid (wr.heap[D]? = some (.deferred (some [])))) (fun _ wr => 0)
    case atStart => exact ⟨hT, hK⟩
    case round =>
      obtain ⟨hT, hK⟩ := hrel
      have y3 := hl9
      have c7 := hT.out.sp.cell 0
      have c0 := hT.out.offs.cell 0
      have c3 := hT.out.lc.cell 0
      clear c0 c3 c7
      obtain ⟨A2, c2, hve, hi2⟩ := hT.out.lslice
      have hi1 := ints_below hIn.out hT.out.below
      replace hi1 := Lib.hid hi1
      replace hi2 := Lib.hid hi2
      rw [hve] at hT
      have c0 := hT.out.offs.cell 0
      have c3 := hT.out.lc.cell 0
      have c7 := hT.out.sp.cell 0
      clear hve
      go_upto_region 29 with (fail)
      obtain ⟨wo, rfl⟩ : ∃ wo : World, wo = wr := ⟨_, rfl⟩
      go_loopw [112] (fun a112 ws => ∃ j : Nat, j ≤ l.length ∧ a112 = .int .i64 (j : Int) ∧ Hid (wo = ws)) (fun i _ => (l.length - (intOf i).toNat))
      case atStart => exact ⟨0, Nat.zero_le _, rfl, rfl⟩
      case round =>
        obtain ⟨j, hj, rfl, hwo⟩ := hrel
        obtain rfl := hwo.out
        clear hwo
        by_cases hlt : j < l.length
        · have j0 : (0 : Int) ≤ j := by omega
          have j1 : (j : Int) < l.length := by omega
          have j2 : (j : Int) < zs.length := by rw [hn.out]; omega
          obtain ⟨e, he⟩ : ∃ e, Hid (l[j]? = some e) := ⟨_, List.getElem?_eq_getElem hlt⟩
          have he2 : Hid (zs[j]? = some e) := by
            have h9 := he.out
            rw [y3.out, List.getElem?_take, if_pos hlt] at h9
            exact h9
          obtain ⟨gx, ox, hAx, hcx⟩ := hi2.out j e he.out
          obtain ⟨gy, oy, hAy, hcy⟩ := hi1.out j e he2.out
          subst hAx hAy
          clear he he2
          go_wp2_with fail
          exact ⟨⟨j + 1, by omega, by go_num, by first | rfl | exact trivial⟩, by simp [intOf]; omega⟩
        · obtain rfl : j = l.length := by omega
          have cR := hT.out.res.cell 0
          have fR := hT.out.res.free 0
          go_wp2_with fail
          refine tclosed hT.out hK.out ?_
          rfl
theorem tables_all (w : World) (A : Option Addr) (cap : Nat) (zs : List Int) (st : Int) (hz : IntsIn w A zs) (hA : A = none → zs.length = 0 ∧ cap = 0) (hlen : zs.length ≤ 17592186044414) (hrg : ∀ z ∈ zs, isI z) :
    Calls Try.prog 13 #[.slice A zs.length cap, .int .i64 st] w fun e w' => e = .returned (.bool true) ∧ Below w.heap.size w w' := by
  by_cases hp : isPow zs.length
  · obtain ⟨d, h1, h2⟩ := hp
    exact tables_yes w A cap zs st hz hA hlen hrg d h1 h2
  · exact tables_bad w A cap _ zs st rfl hz hA hlen hrg hp
end Go.Proofs.Ytpbalilnemjeeaa
