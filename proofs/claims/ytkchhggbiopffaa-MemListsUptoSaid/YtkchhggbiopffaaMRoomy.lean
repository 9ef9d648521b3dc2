/- What is proved here: the contracts of the laws' own roomy and bytes. Conditions: a list of strings that lies in memory. -/
import Derived.Test.YtkchhggbiopffaaMBytes
import Derived.Lib.SlBytesConst
namespace Go.Proofs.Ytkchhggbiopffaa
set_option linter.unusedVariables false
set_option linter.unusedSimpArgs false
open Go.RowKit Pm
/-- a list of strings in memory -/
def StrsAt (w : World) (A : Option Addr) (ss : List ByteArray) : Prop := ∀ i s, ss[i]? = some s → ∃ g o, A = some ⟨g, o, none⟩ ∧ w.cell? ⟨g, o + i, none⟩ = some (.string s)
/-- a list of the call's own: the bytes, a mark behind them -/
def PartIn (W : World) (base : Nat) (v u : Value) (s : List UInt8) : Prop :=
  ∃ g c, v = .slice (some ⟨g, 0, none⟩) s.length c ∧ u = .slice (some ⟨g, 0, none⟩) (s.length + 1) c ∧ base ≤ g ∧ BB W g (s ++ [165]) c
section
variable {W W' : World} {base : Nat} {v u : Value} {s : List UInt8}
theorem PartIn.keep (h : PartIn W base v u s) (hb : Below W.heap.size W W') : PartIn W' base v u s := by
  obtain ⟨g, c, e1, e2, hg, hb'⟩ := h
  exact ⟨g, c, e1, e2, hg, hb'.keep hb⟩
theorem BB.grown {g c : Nat} {X : List UInt8} {lv : Value} {n : Nat} {xs : List Value} (h : BB W g X c) (hown : W.ownsRow base 27 1 lv n xs) (hg : W.grownBy W' lv.ownBlock) : BB W' g X c := by
  refine h.at (hg.block g h.lt ?_)
  intro e
  obtain ⟨cur, m, hc, _⟩ := h
  rcases hown.2 with ⟨rfl, _⟩ | ⟨g', cap, cur', rfl, _, hc', _⟩
  · simp [Value.ownBlock] at e
  · obtain rfl : g = g' := by simpa [Value.ownBlock] using e
    rw [hc] at hc'
    simp at hc'
theorem PartIn.grown {lv : Value} {n : Nat} {xs : List Value} (h : PartIn W base v u s) (hown : W.ownsRow base 27 1 lv n xs) (hg : W.grownBy W' lv.ownBlock) : PartIn W' base v u s := by
  obtain ⟨g, c, e1, e2, hg', hb'⟩ := h
  exact ⟨g, c, e1, e2, hg', hb'.grown hown hg⟩
end
/-- the two rows, behind some rounds -/
structure Rm (w : World) (ss : List (List UInt8)) (lv wv : Value) (xs ys : List Value) (W : World) : Prop where
  below : Below w.heap.size w W
  l : W.ownsRow w.heap.size 27 1 lv ss.length xs
  m : W.ownsRow w.heap.size 27 1 wv ss.length ys
  ne : lv.ownBlock = none ∨ lv.ownBlock ≠ wv.ownBlock
  parts : ∀ (i : Nat) (s : List UInt8), ss[i]? = some s → ∃ v u, xs[i]? = some v ∧ ys[i]? = some u ∧ PartIn W w.heap.size v u s
theorem grownBy_of_below {W W' : World} (hb : Below W.heap.size W W') : W.grownBy W' none := ⟨hb.os, hb.tape, hb.output, hb.size, fun k hk _ => hb.block k hk⟩
theorem Rm.keep {w W W' : World} {ss : List (List UInt8)} {lv wv : Value} {xs ys : List Value} (h : Rm w ss lv wv xs ys W) (hb : Below W.heap.size W W') : Rm w ss lv wv xs ys W' :=
  ⟨Below.then h.below hb, h.l.kept (grownBy_of_below hb) (by cases lv.ownBlock <;> simp), h.m.kept (grownBy_of_below hb) (by cases wv.ownBlock <;> simp), h.ne, fun i s hi => by
    obtain ⟨v, u, h1, h2, h3⟩ := h.parts i s hi
    exact ⟨v, u, h1, h2, h3.keep hb⟩⟩
/-- behind the append to the row of the whole lists -/
structure Rh (w : World) (ss : List (List UInt8)) (s : List UInt8) (lv wv : Value) (xs ys : List Value) (g c : Nat) (W : World) : Prop where
  below : Below w.heap.size w W
  l : W.ownsRow w.heap.size 27 1 lv ss.length xs
  m : W.ownsRow w.heap.size 27 1 wv (ss.length + 1) (ys ++ [.slice (some ⟨g, 0, none⟩) (s.length + 1) c])
  ne : lv.ownBlock = none ∨ lv.ownBlock ≠ wv.ownBlock
  bb : BB W g (s ++ [165]) c
  hg : w.heap.size ≤ g
  parts : ∀ (i : Nat) (s : List UInt8), ss[i]? = some s → ∃ v u, xs[i]? = some v ∧ ys[i]? = some u ∧ PartIn W w.heap.size v u s
theorem Rm.half {w W W' : World} {ss : List (List UInt8)} {s : List UInt8} {lv wv wv' : Value} {xs ys : List Value} {g c : Nat} (h : Rm w ss lv wv xs ys W) (hb : BB W g (s ++ [165]) c) (hg : w.heap.size ≤ g)
    (h1 : W'.ownsRow w.heap.size 27 1 wv' (ss.length + 1) (ys ++ [.slice (some ⟨g, 0, none⟩) (s.length + 1) c])) (h2 : W.grownBy W' wv.ownBlock) (h3 : wv'.ownBlock = wv.ownBlock ∨ ∃ k, wv'.ownBlock = some k ∧ W.heap.size ≤ k) : Rh w ss s lv wv' xs ys g c W' := by
  refine ⟨h.below.grown h2 h.below.size (fun k hk => (h.m.lt k hk).1), h.l.kept h2 h.ne, h1, ?_, hb.grown h.m h2, hg, fun i s hi => ?_⟩
  · rcases h3 with e | ⟨k, e, hk⟩
    · rw [e]; exact h.ne
    · right
      intro e2
      rw [e] at e2
      have := (h.l.lt k e2).2
      omega
  · obtain ⟨v, u, e1, e2, e3⟩ := h.parts i s hi
    exact ⟨v, u, e1, e2, e3.grown h.m h2⟩
theorem Rh.keep {w W W' : World} {ss : List (List UInt8)} {s : List UInt8} {lv wv : Value} {xs ys : List Value} {g c : Nat} (h : Rh w ss s lv wv xs ys g c W) (hb : Below W.heap.size W W') : Rh w ss s lv wv xs ys g c W' :=
  ⟨Below.then h.below hb, h.l.kept (grownBy_of_below hb) (by cases lv.ownBlock <;> simp), h.m.kept (grownBy_of_below hb) (by cases wv.ownBlock <;> simp), h.ne, h.bb.keep hb, h.hg, fun i s hi => by
    obtain ⟨v, u, h1, h2, h3⟩ := h.parts i s hi
    exact ⟨v, u, h1, h2, h3.keep hb⟩⟩
theorem Rh.done {w W W' : World} {ss : List (List UInt8)} {s : List UInt8} {lv lv' wv : Value} {xs ys : List Value} {g c : Nat} (h : Rh w ss s lv wv xs ys g c W)
    (h1 : W'.ownsRow w.heap.size 27 1 lv' (ss.length + 1) (xs ++ [.slice (some ⟨g, 0, none⟩) s.length c])) (h2 : W.grownBy W' lv.ownBlock) (h3 : lv'.ownBlock = lv.ownBlock ∨ ∃ k, lv'.ownBlock = some k ∧ W.heap.size ≤ k) :
    Rm w (ss ++ [s]) lv' wv (xs ++ [.slice (some ⟨g, 0, none⟩) s.length c]) (ys ++ [.slice (some ⟨g, 0, none⟩) (s.length + 1) c]) W' := by
  have hne2 : wv.ownBlock = none ∨ wv.ownBlock ≠ lv.ownBlock := by
    rcases h.ne with e | e
    · rw [e]; cases wv.ownBlock <;> simp
    · exact .inr (fun x => e x.symm)
  have hx : xs.length = ss.length := by simpa using h.l.1
  have hy : ys.length = ss.length := by have := h.m.1; simp at this; omega
  refine ⟨h.below.grown h2 h.below.size (fun k hk => (h.l.lt k hk).1), by simpa using h1, by simpa using h.m.kept h2 hne2, ?_, fun i t hi => ?_⟩
  · rcases h3 with e | ⟨k, e, hk⟩
    · rw [e]; exact h.ne
    · right
      intro e2
      rw [e] at e2
      have := (h.m.lt k e2.symm).2
      omega
  · by_cases hlt : i < ss.length
    · rw [List.getElem?_append_left hlt] at hi
      obtain ⟨v, u, e1, e2, e3⟩ := h.parts i t hi
      exact ⟨v, u, by rw [List.getElem?_append_left (by omega)]; exact e1, by rw [List.getElem?_append_left (by omega)]; exact e2, e3.grown h.l h2⟩
    · have hi2 : i = ss.length := by
        have := (List.getElem?_eq_some_iff.1 hi).1
        simp at this; omega
      subst hi2
      rw [List.getElem?_append_right (Nat.le_refl _), Nat.sub_self] at hi
      obtain rfl : s = t := by simpa using hi
      refine ⟨_, _, by rw [List.getElem?_append_right (by omega), hx, Nat.sub_self]; rfl, by rw [List.getElem?_append_right (by omega), hy, Nat.sub_self]; rfl, g, c, rfl, rfl, h.hg, h.bb.grown h.l h2⟩
theorem below_new (w : World) (o : Obj) : Below w.heap.size w (w.alloc o) := (Below.refl _ _).alloc (Nat.le_refl _) _
theorem roomy_b {W W1 W2 : World} {o : Obj} (h : Below W.heap.size W W1) (hg : (W1.alloc o).grownBy W2 (some W.heap.size)) : Below W.heap.size W W2 :=
  (h.alloc h.size _).grown hg (by have := h.size; simp; omega) (fun k hk => Nat.le_of_eq (Option.some.inj hk))
theorem roomy_g {w W W1 : World} {o : Obj} {ss : List (List UInt8)} {lv wv : Value} {xs ys : List Value} {g : Nat} (h : Rm w ss lv wv xs ys W) (hg : g = W.heap.size ∨ (W1.alloc o).heap.size ≤ g) (hs : W1.heap.size = W.heap.size + 1) : w.heap.size ≤ g := by
  have := h.below.size
  rcases hg with rfl | hg
  · exact this
  · simp at hg; omega
set_option maxRecDepth 100000 in
theorem roomy_to (A : Option Addr) (cc : Nat) (ss : List ByteArray) (n : Nat) (w : World) (hn : ss.length = n) (ha : StrsAt w A ss) (hl : n ≤ 100000000000) (hs : ∀ s ∈ ss, s.size ≤ 140737488355326) :
    Calls Try.prog 34 #[.slice A n cc] w fun e w' => ∃ lv wv xs ys last, e = .returned (.tuple #[lv, wv]) ∧ Below w.heap.size w w' ∧ w'.ownsRow w.heap.size 27 1 lv (n + 1) (xs ++ [last]) ∧ w'.ownsRow w.heap.size 27 1 wv n ys ∧ xs.length = n ∧
      ∀ (i : Nat) (s : ByteArray), ss[i]? = some s → ∃ v u, xs[i]? = some v ∧ ys[i]? = some u ∧ PartIn w' w.heap.size v u s.data.toList := by
  go_enter Try.func34, Try.ntmps34
  go_wp2_with fail
  go_loopw [4, 5, 11] (fun lv wv i wr => ∃ j : Nat, j ≤ n ∧ i = .int .i64 j ∧ ∃ xs ys, Rm w ((ss.take j).map (fun s => s.data.toList)) lv wv xs ys wr) (fun _ _ i _ => (n - (intOf i).toNat))
  case atStart => exact ⟨0, by omega, rfl, [], [], Below.refl _ _, by simpa using World.ownsRow_nil _ _ _ _, by simpa using World.ownsRow_nil _ _ _ _, .inl rfl, fun i s h => by simp at h⟩
  case round =>
    obtain ⟨j, hj, rfl, xs, ys, hR⟩ := hrel
    by_cases hlt : j < n
    · obtain ⟨s, hsj⟩ : ∃ s, Hid (ss[j]? = some s) := ⟨_, List.getElem?_eq_getElem (by rw [hn]; exact hlt)⟩
      obtain ⟨g, o, rfl, hc⟩ := ha j s hsj.out
      replace hc : wr.cell? ⟨g, o + j, none⟩ = _ := (hR.below.cell (p := ⟨g, o + j, none⟩) (World.block_lt_of_cell? w _ hc)).trans hc
      have hss : s.size ≤ 140737488355326 := hs s (List.mem_of_getElem? hsj.out)
      replace hR := Lib.hid hR
      go_wp2_with (first | ((with_reducible show wpList _ _ _ (⟨some 16, _, _, _, _, _⟩ :: _) _ _); refine wpList_to_bytes2 rfl (.tmp 15) rfl s rfl ?_; intro w1 c1 hz1 hb1 hB1; replace hB1 := Lib.hid hB1; replace hb1 := Lib.hid hb1; replace hz1 := Lib.hid hz1) | ((with_reducible show wpList _ _ _ (⟨some 19, _, _, _, _, _⟩ :: _) _ _); refine wpList_append_byte rfl (.tmp 17) (.tmp 18) rfl wr.heap.size c1 s.size _ rfl (by simp) (hB1.out.keep ((Below.refl _ _).alloc (Nat.le_refl _) _)) w1.heap.size 165 165 rfl rfl ((Blk.new w1 _ _).cell 0) (by omega) ?_; intro g2 c2 w2 hB2 hg2 hgr2; replace hB2 := Lib.hid hB2; replace hg2 := Lib.hid hg2; replace hgr2 := Lib.hid hgr2; have hb02 := Lib.hid (roomy_b hb1.out hgr2.out); have hR2 := Lib.hid ((hR.out.keep hb02.out).keep (below_new w2 (.cells #[.slice (some ⟨g2, 0, none⟩) (s.size + 1) c2] 27))); have hgg := Lib.hid (roomy_g hR.out hg2.out hz1.out); have hcc2 : s.size + 1 ≤ c2 := (by have := hB2.out.len; simp at this; exact this)) | ((with_reducible show wpList _ _ _ (⟨some 23, _, _, _, _, _⟩ :: _) _ _); refine wpList_append_list rfl (.tmp 20) (.tmp 22) rfl w.heap.size _ _ ys rfl hR2.out.m w2.heap.size (some ⟨g2, 0, none⟩) (s.size + 1) c2 rfl ((Blk.new w2 _ _).cell 0) (by simp; omega) hR2.out.below.size ?_; intro wv' w3 h31 h32 h33; have hH := Lib.hid ((Rm.half hR2.out (hB2.out.keep (below_new w2 _)) hgg.out h31 h32 h33).keep (below_new w3 (.cells #[.slice (some ⟨g2, 0, none⟩) s.size c2] 27))); clear h31 h32 h33) | ((with_reducible show wpList _ _ _ (⟨some 30, _, _, _, _, _⟩ :: _) _ _); refine wpList_append_list rfl (.tmp 24) (.tmp 29) rfl w.heap.size _ _ xs rfl hH.out.l w3.heap.size (some ⟨g2, 0, none⟩) s.size c2 rfl ((Blk.new w3 _ _).cell 0) (by simp; omega) hH.out.below.size ?_; intro lv' w4 h41 h42 h43; have hRn := Lib.hid (Rh.done hH.out h41 h42 h43); clear h41 h42 h43))
      go_roundw
      case rel =>
        refine ⟨j + 1, by omega, by go_num, xs ++ [.slice (some ⟨g2, 0, none⟩) s.data.toList.length c2], ys ++ [.slice (some ⟨g2, 0, none⟩) (s.data.toList.length + 1) c2], ?_⟩
        rw [List.take_add_one, hsj.out, List.map_append]
        exact hRn.out
      case measure => simp [intOf]; omega
    · obtain rfl : j = n := by omega
      rw [← hn, List.take_length] at hR
      replace hR := Lib.hid hR
      have kc := fun (w : World) (C : Array Value) (n c : Nat) => Lib.run_convert_bytes_const (P := Try.prog) w 27 5 C n c Try.underlying27 Try.underlying5
      have hR1 := Lib.hid ((hR.out.keep (below_new wr (.cells #[.int .u8 98, .int .u8 101, .int .u8 104, .int .u8 105, .int .u8 110, .int .u8 100] 5 (6, 7)))).keep (below_new _ (.cells #[.slice (some ⟨wr.heap.size, 0, none⟩) 6 6] 27)))
      have hcl : ((wr.alloc (.cells #[.int .u8 98, .int .u8 101, .int .u8 104, .int .u8 105, .int .u8 110, .int .u8 100] 5 (6, 7))).alloc (.cells #[.slice (some ⟨wr.heap.size, 0, none⟩) 6 6] 27)).cell? ⟨wr.heap.size + 1, 0, none⟩ = some (.slice (some ⟨wr.heap.size, 0, none⟩) 6 6) := by
        have h := (Blk.new (wr.alloc (.cells #[.int .u8 98, .int .u8 101, .int .u8 104, .int .u8 105, .int .u8 110, .int .u8 100] 5 (6, 7))) #[.slice (some ⟨wr.heap.size, 0, none⟩) 6 6] 27).cell 0
        rw [show (wr.alloc (.cells #[.int .u8 98, .int .u8 101, .int .u8 104, .int .u8 105, .int .u8 110, .int .u8 100] 5 (6, 7))).heap.size = wr.heap.size + 1 by simp] at h
        exact h
      replace hcl := Lib.hid hcl
      go_wp2_with ((with_reducible show wpList _ _ _ (⟨some 36, _, _, _, _, _⟩ :: _) _ _); refine wpList_append_list rfl (.tmp 32) (.tmp 35) rfl w.heap.size _ _ xs rfl hR1.out.l (wr.heap.size + 1) (some ⟨wr.heap.size, 0, none⟩) 6 6 rfl hcl.out (by simp; omega) hR1.out.below.size ?_; intro lv' w5 h1 h2 h3; replace h1 := Lib.hid h1; replace h2 := Lib.hid h2; clear h3)
      refine bodyPost_ret (v := .tuple #[lv', u5]) (by simp [results, Try.results34, go_sem]) rfl ?_
      have e1 : (ss.map (fun s => s.data.toList)).length = j := by rw [List.length_map]; exact hn
      have h1' := h1.out
      have h2' : World.grownBy _ w5 u4.ownBlock := h2.out
      have hm := hR1.out.m.kept h2' (by
        rcases hR1.out.ne with e | e
        · rw [e]; cases Value.ownBlock _ <;> simp
        · exact .inr (fun x => e x.symm))
      rw [e1] at h1' hm
      refine ⟨_, _, xs, ys, _, rfl, hR1.out.below.grown h2' hR1.out.below.size (fun k hk => (hR1.out.l.lt k hk).1), h1', hm, ?_, fun i s hi => ?_⟩
      · have := hR1.out.l.1
        rw [e1] at this
        simpa using this
      · obtain ⟨v, u, d1, d2, d3⟩ := hR1.out.parts i s.data.toList (by rw [List.getElem?_map, hi]; rfl)
        exact ⟨v, u, d1, d2, d3.grown hR1.out.l h2'⟩
end Go.Proofs.Ytkchhggbiopffaa
