/- What is proved here: the walk of the law LayoutParses. Conditions: lists of ints that lie in memory. -/
import Derived.Test.YtlfppmdehkhjiaaLSpare
import Derived.Test.YtlfppmdehkhjiaaRFixed
import Derived.Test.YtlfppmdehkhjiaaBlk
namespace Go.Proofs.Ytlfppmdehkhjiaa
set_option linter.unusedVariables false
set_option linter.unusedSimpArgs false
open Go.RowKit Pl
theorem rparse_list (A : Option Addr) (c : Nat) (zs : List Int) (n : Nat) (w : World) (hn : zs.length = n) (hz : IntsAt w A zs) (l : LV) (er : Int) (hl : listLay zs = l) (he : listErr zs = er) :
    Calls Try.prog 12 #[.slice A n c] w fun e' w' => e' = .returned (.tuple #[.agg #[.int .i64 l.k, .int .i64 l.e, .int .i64 l.ka, .int .i64 l.ea, .int .i64 l.c, .int .i64 l.eo, .int .i64 l.bo, .int .i64 l.sl, .int .i64 l.gr], .int .i64 er]) ∧ Below w.heap.size w w' := by
  subst hl; subst he; subst hn
  by_cases h5 : zs.length = 5
  · obtain ⟨k, e, ka, ea, cp, rfl⟩ := list_five h5
    obtain ⟨g, o, rfl, hb, h0, h1, h2, h3, h4⟩ := hz.five
    exact rparse_five g o c k e ka ea cp w hb h0 h1 h2 h3 h4
  · obtain ⟨e1, e2⟩ := list_short h5
    rw [e1, e2]
    exact rparse_short A _ c w h5
/-- lists of ints in memory -/
def ListsAt (w : World) (A0 : Option Addr) (zss : List (List Int)) : Prop :=
  ∀ i zs, zss[i]? = some zs → ∃ g o A c, A0 = some ⟨g, o, none⟩ ∧ w.cell? ⟨g, o + i, none⟩ = some (.slice A zs.length c) ∧ IntsAt w A zs ∧ (A = none → zs.length = 0 ∧ c = 0) ∧ zs.length ≤ 17592186044414
structure PSm (w : World) (bm g oj sg : Nat) (A : Option Addr) (n c : Nat) (zs : List Int) (M : Array Value) (W : World) : Prop where
  below : Below w.heap.size w W
  m : Blk W bm M 24
  row : W.cell? ⟨g, oj, none⟩ = some (.slice A n c)
  ints : IntsAt W A zs
  more : ∀ i z, (zs ++ [77, 77])[i]? = some z → W.cell? ⟨sg, i, none⟩ = some (.int .i64 z)
structure PSt (w : World) (bm bl g oj sg : Nat) (A : Option Addr) (n c : Nat) (zs : List Int) (M : Array Value) (W : World) : Prop where
  below : Below w.heap.size w W
  m : Blk W bm M 24
  row : W.cell? ⟨g, oj, none⟩ = some (.slice A n c)
  ints : IntsAt W A zs
  more : ∀ i z, (zs ++ [77, 77])[i]? = some z → W.cell? ⟨sg, i, none⟩ = some (.int .i64 z)
  l : Blk W bl M 24
section
variable {w W : World} {bm bl g oj sg : Nat} {A : Option Addr} {n c : Nat} {zs : List Int} {M : Array Value}
theorem PSm.keep (h : PSm w bm g oj sg A n c zs M W) (W' : World) (hb : Below W.heap.size W W') : PSm w bm g oj sg A n c zs M W' :=
  ⟨Below.then h.below hb, h.m.keep hb, (hb.cell (p := ⟨g, oj, none⟩) (World.block_lt_of_cell? W _ h.row)).trans h.row, h.ints.below hb, fun i z hi => (hb.cell (p := ⟨sg, i, none⟩) (World.block_lt_of_cell? W _ (h.more i z hi))).trans (h.more i z hi)⟩
theorem PSt.keep (h : PSt w bm bl g oj sg A n c zs M W) (W' : World) (hb : Below W.heap.size W W') : PSt w bm bl g oj sg A n c zs M W' := by
  have h1 := PSm.keep ⟨h.below, h.m, h.row, h.ints, h.more⟩ W' hb
  exact ⟨h1.below, h1.m, h1.row, h1.ints, h1.more, h.l.keep hb⟩
theorem PSt.alloc1 (hs : bm < W.heap.size) (h : PSm w bm g oj sg A n c zs M W) : PSt w bm W.heap.size g oj sg A n c zs M (W.alloc (.cells M 24)) := by
  have h1 := h.keep (W.alloc (.cells M 24)) ((Below.refl _ _).alloc (Nat.le_refl _) _)
  exact ⟨h1.below, h1.m, h1.row, h1.ints, h1.more, Blk.new W _ _⟩
theorem PSt.drewN (h : PSt w bm bl g oj sg A n c zs M W) (k : Nat) : PSt w bm bl g oj sg A n c zs M (W.drewN k) := h.keep _ (below_drewN (Below.refl _ _) k)
theorem PSt.drew (h : PSt w bm bl g oj sg A n c zs M W) : PSt w bm bl g oj sg A n c zs M W.drew := h.keep _ (Below.refl _ _).drew
end
set_option maxHeartbeats 4000000 in
set_option maxRecDepth 100000 in
theorem parses_all (A0 : Option Addr) (cc : Nat) (zss : List (List Int)) (w : World) (ha : ListsAt w A0 zss) (hl : zss.length ≤ 9223372036854775807) : Calls Try.prog 3 #[.slice A0 zss.length cc] w fun e' w' => e' = .returned (.bool true) ∧ Below w.heap.size w w' := by
  go_enter Try.func3, Try.ntmps3
  go_wp2_with fail
  go_loopw [3] (fun i wr => ∃ j : Nat, j ≤ zss.length ∧ i = .int .i64 j ∧ Below w.heap.size w wr) (fun i _ => (zss.length - (intOf i).toNat))
  case atStart => exact ⟨0, by omega, rfl, Below.refl _ _⟩
  case round =>
    obtain ⟨j, hj, rfl, hB⟩ := hrel
    by_cases hlt : j < zss.length
    · obtain ⟨zs, hs⟩ : ∃ s, Hid (zss[j]? = some s) := ⟨_, List.getElem?_eq_getElem hlt⟩
      obtain ⟨g, o, A, c, rfl, y0, hz, hA, hn⟩ := ha j zs hs.out
      replace y0 : wr.cell? ⟨g, o + j, none⟩ = _ := (hB.cell (p := ⟨g, o + j, none⟩) (World.block_lt_of_cell? w _ y0)).trans y0
      replace hz := hz.below hB
      have hglt : g < wr.heap.size := World.block_lt_of_cell? wr _ y0
      obtain ⟨n, hnn⟩ : ∃ n, Hid (zs.length = n) := ⟨_, rfl⟩
      rw [hnn.out] at y0 hA hn
      obtain ⟨⟨m0, m1, m2, m3, m4, m5, m6, m7, m8⟩, hm⟩ : ∃ m, Hid (listLay zs = m) := ⟨_, rfl⟩
      obtain ⟨er, her⟩ : ∃ er, Hid (listErr zs = er) := ⟨_, rfl⟩
      replace hB := Lib.hid hB
      replace hz := Lib.hid hz
      replace hA := Lib.hid hA
      go_wp2_with fail
      refine (rparse_list A c zs n _ hnn.out hz.out _ er hm.out her.out).mono ?_
      rintro e' w1 ⟨rfl, hb1⟩
      replace y0 : w1.cell? ⟨g, o + j, none⟩ = _ := (hb1.cell (p := ⟨g, o + j, none⟩) hglt).trans y0
      replace hz := Lib.hid (hz.out.below hb1)
      replace hB := Lib.hid (Below.then hB.out hb1)
      have hg1 : g < w1.heap.size := World.block_lt_of_cell? w1 _ y0
      clear hb1
      go_wp2_with fail
      have hmb := Blk.new w1 #[.int .i64 m0, .int .i64 m1, .int .i64 m2, .int .i64 m3, .int .i64 m4, .int .i64 m5, .int .i64 m6, .int .i64 m7, .int .i64 m8] 24
      have hBa : Below w1.heap.size w1 (w1.alloc (.cells #[.int .i64 m0, .int .i64 m1, .int .i64 m2, .int .i64 m3, .int .i64 m4, .int .i64 m5, .int .i64 m6, .int .i64 m7, .int .i64 m8] 24)) := (Below.refl _ _).alloc (Nat.le_refl _) _
      replace hz := Lib.hid (hz.out.below hBa)
      have y1 := (hBa.cell (p := ⟨g, o + j, none⟩) hg1).trans y0
      refine (spare_to A c zs n _ hnn.out hz.out hA.out hn).mono ?_
      rintro e' w2 ⟨⟨sg, cap, rfl, hsg1, hsg2, hsg3⟩, hb2⟩
      have hg1' : g < (w1.alloc (.cells #[.int .i64 m0, .int .i64 m1, .int .i64 m2, .int .i64 m3, .int .i64 m4, .int .i64 m5, .int .i64 m6, .int .i64 m7, .int .i64 m8] 24)).heap.size := World.block_lt_of_cell? _ _ y1
      have y2 : w2.cell? ⟨g, o + j, none⟩ = _ := (hb2.cell (p := ⟨g, o + j, none⟩) hg1').trans y1
      replace hz := Lib.hid (hz.out.below hb2)
      replace hmb := hmb.keep hb2
      replace hB := Lib.hid (Below.then (Below.then hB.out hBa) hb2)
      clear hBa hb2 y0 y1
      have hsz : IntsAt w2 (some ⟨sg, 0, none⟩) zs := fun i z hi => ⟨sg, 0, rfl, by rw [Nat.zero_add]; exact hsg3 i z (by rw [List.getElem?_append_left (List.getElem?_eq_some_iff.1 hi).1]; exact hi)⟩
      replace hsz := Lib.hid hsz
      replace hsg3 := Lib.hid hsg3
      replace hmb := Lib.hid hmb
      have hsgl : sg < w2.heap.size := by
        have := hsg3.out n 77 (by rw [List.getElem?_append_right (by rw [hnn.out]; omega), hnn.out, Nat.sub_self]; rfl)
        exact World.block_lt_of_cell? w2 _ this
      go_wp2_with fail
      refine (parse_list (some ⟨sg, 0, none⟩) cap zs n _ hnn.out hsz.out _ er hm.out her.out).mono ?_
      rintro e' w3 ⟨rfl, hb3⟩
      have hT : PSt w w1.heap.size w3.heap.size g (o + j) sg A n c zs #[.int .i64 m0, .int .i64 m1, .int .i64 m2, .int .i64 m3, .int .i64 m4, .int .i64 m5, .int .i64 m6, .int .i64 m7, .int .i64 m8] (w3.alloc (.cells #[.int .i64 m0, .int .i64 m1, .int .i64 m2, .int .i64 m3, .int .i64 m4, .int .i64 m5, .int .i64 m6, .int .i64 m7, .int .i64 m8] 24)) :=
        PSt.alloc1 (by have := hmb.out.lt; have := hb3.size; omega) ⟨Below.then hB.out hb3, hmb.out.keep hb3, (hb3.cell (p := ⟨g, o + j, none⟩) (World.block_lt_of_cell? w2 _ y2)).trans y2, hz.out.below hb3, fun i z hi => (hb3.cell (p := ⟨sg, i, none⟩) hsgl).trans (hsg3.out i z hi)⟩
      clear hmb hB hz hsz hsg3 y2 hb3 hsgl
      have c1 := hT.m.cell
      have c2 := hT.l.cell
      have f1 := hT.m.free
      have f2 := hT.l.free
      have y0 := hT.row
      go_wp2_with fail
      refine (same_to sg cap A c zs n _ hnn.out hT.ints hsg2 hn hT.more).mono ?_
      rintro e' w4 ⟨rfl, mm, rfl⟩
      have hT4 := hT.drewN mm
      go_wp2_with fail
      go_roundw
      case rel => exact ⟨j + 1, by omega, by go_num, hT4.below⟩
      case measure => simp [intOf]; omega
    · replace hB := Lib.hid hB
      go_wp2_with fail
      refine (fixed_any _).mono ?_
      rintro e' w1 ⟨rfl, hb1⟩
      replace hB := Lib.hid (Below.then hB.out hb1)
      clear hb1
      go_wp2_with fail
      go_ret
      exact ⟨rfl, hB.out⟩
end Go.Proofs.Ytlfppmdehkhjiaa
