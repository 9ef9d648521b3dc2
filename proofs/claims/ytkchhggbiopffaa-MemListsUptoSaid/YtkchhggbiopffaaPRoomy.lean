/- What is proved here: the contract of the laws' own roomy, more of it: the lists lie in blocks that rise, the last list reads "behind". Conditions: a list of strings that lies in memory. -/
import Derived.Test.YtkchhggbiopffaaPPlays
namespace Go.Proofs.Ytkchhggbiopffaa
set_option linter.unusedVariables false
set_option linter.unusedSimpArgs false
open Go.RowKit Pm
def blkOf (v : Value) : Nat := v.ownBlock.getD 0
/-- slices whose blocks rise, all below a bound -/
def Inc (xs : List Value) (B : Nat) : Prop := (∀ (i j : Nat) (u v : Value), i < j → xs[i]? = some u → xs[j]? = some v → blkOf u < blkOf v) ∧ ∀ (i : Nat) (u : Value), xs[i]? = some u → blkOf u < B
theorem Inc.nil (B : Nat) : Inc [] B := ⟨fun i j u v _ h => by simp at h, fun i u h => by simp at h⟩
theorem Inc.snoc {xs : List Value} {B B' : Nat} {u : Value} (h : Inc xs B) (h1 : B ≤ blkOf u) (h2 : blkOf u < B') : Inc (xs ++ [u]) B' := by
  have hl : ∀ (i : Nat) (v : Value), (xs ++ [u])[i]? = some v → (xs[i]? = some v ∧ i < xs.length) ∨ (v = u ∧ i = xs.length) := by
    intro i v hv
    by_cases hi : i < xs.length
    · rw [List.getElem?_append_left hi] at hv; exact Or.inl ⟨hv, hi⟩
    · rw [List.getElem?_append_right (by omega)] at hv
      have h0 : i - xs.length = 0 := by
        have := (List.getElem?_eq_some_iff.1 hv).1
        simp at this; omega
      rw [h0] at hv
      exact Or.inr ⟨by simpa using hv.symm, by omega⟩
  refine ⟨fun i j a b hij ha hb => ?_, fun i a ha => ?_⟩
  · rcases hl i a ha with ⟨ha1, hi⟩ | ⟨rfl, rfl⟩
    · rcases hl j b hb with ⟨hb1, hj⟩ | ⟨rfl, rfl⟩
      · exact h.1 i j a b hij ha1 hb1
      · exact Nat.lt_of_lt_of_le (h.2 i a ha1) h1
    · rcases hl j b hb with ⟨hb1, hj⟩ | ⟨rfl, rfl⟩ <;> omega
  · rcases hl i a ha with ⟨ha1, hi⟩ | ⟨rfl, rfl⟩
    · have := h.2 i a ha1; omega
    · exact h2
set_option maxRecDepth 100000 in
theorem roomy2_to (A : Option Addr) (cc : Nat) (ss : List ByteArray) (n : Nat) (w : World) (hn : ss.length = n) (ha : StrsAt w A ss) (hl : n ≤ 100000000000) (hs : ∀ s ∈ ss, s.size ≤ 140737488355326) :
    Calls Try.prog 34 #[.slice A n cc] w fun e w' => ∃ lv wv xs ys last, e = .returned (.tuple #[lv, wv]) ∧ Below w.heap.size w w' ∧ w'.ownsRow w.heap.size 27 1 lv (n + 1) (xs ++ [last]) ∧ w'.ownsRow w.heap.size 27 1 wv n ys ∧ xs.length = n ∧
      (∃ gl, last = .slice (some ⟨gl, 0, none⟩) 6 6 ∧ w'.heap[gl]? = some (.cells #[.int .u8 98, .int .u8 101, .int .u8 104, .int .u8 105, .int .u8 110, .int .u8 100] 5 (6, 7)) ∧ w.heap.size ≤ gl ∧ Inc xs gl) ∧
      ∀ (i : Nat) (s : ByteArray), ss[i]? = some s → ∃ v u, xs[i]? = some v ∧ ys[i]? = some u ∧ PartIn w' w.heap.size v u s.data.toList := by
  go_enter Try.func34, Try.ntmps34
  go_wp2_with fail
  go_loopw [4, 5, 11] (fun lv wv i wr => ∃ j : Nat, j ≤ n ∧ i = .int .i64 j ∧ ∃ xs ys, Rm w ((ss.take j).map (fun s => s.data.toList)) lv wv xs ys wr ∧ Hid (Inc xs wr.heap.size)) (fun _ _ i _ => (n - (intOf i).toNat))
  case atStart => exact ⟨0, by omega, rfl, [], [], ⟨Below.refl _ _, by simpa using World.ownsRow_nil _ _ _ _, by simpa using World.ownsRow_nil _ _ _ _, .inl rfl, fun i s h => by simp at h⟩, Inc.nil _⟩
  case round =>
    obtain ⟨j, hj, rfl, xs, ys, hR, hI⟩ := hrel
    by_cases hlt : j < n
    · obtain ⟨s, hsj⟩ : ∃ s, Hid (ss[j]? = some s) := ⟨_, List.getElem?_eq_getElem (by rw [hn]; exact hlt)⟩
      obtain ⟨g, o, rfl, hc⟩ := ha j s hsj.out
      replace hc : wr.cell? ⟨g, o + j, none⟩ = _ := (hR.below.cell (p := ⟨g, o + j, none⟩) (World.block_lt_of_cell? w _ hc)).trans hc
      have hss : s.size ≤ 140737488355326 := hs s (List.mem_of_getElem? hsj.out)
      replace hR := Lib.hid hR
      go_wp2_with (first | ((with_reducible show wpList _ _ _ (⟨some 16, _, _, _, _, _⟩ :: _) _ _); refine wpList_to_bytes2 rfl (.tmp 15) rfl s rfl ?_; intro w1 c1 hz1 hb1 hB1; replace hB1 := Lib.hid hB1; replace hb1 := Lib.hid hb1; replace hz1 := Lib.hid hz1) | ((with_reducible show wpList _ _ _ (⟨some 19, _, _, _, _, _⟩ :: _) _ _); refine wpList_append_byte rfl (.tmp 17) (.tmp 18) rfl wr.heap.size c1 s.size _ rfl (by simp) (hB1.out.keep ((Below.refl _ _).alloc (Nat.le_refl _) _)) w1.heap.size 165 165 rfl rfl ((Blk.new w1 _ _).cell 0) (by omega) ?_; intro g2 c2 w2 hB2 hg2 hgr2; replace hB2 := Lib.hid hB2; replace hg2 := Lib.hid hg2; replace hgr2 := Lib.hid hgr2; have hb02 := Lib.hid (roomy_b hb1.out hgr2.out); have hR2 := Lib.hid ((hR.out.keep hb02.out).keep (below_new w2 (.cells #[.slice (some ⟨g2, 0, none⟩) (s.size + 1) c2] 27))); have hgg := Lib.hid (roomy_g hR.out hg2.out hz1.out); have hcc2 : s.size + 1 ≤ c2 := (by have := hB2.out.len; simp at this; exact this)) | ((with_reducible show wpList _ _ _ (⟨some 23, _, _, _, _, _⟩ :: _) _ _); refine wpList_append_list rfl (.tmp 20) (.tmp 22) rfl w.heap.size _ _ ys rfl hR2.out.m w2.heap.size (some ⟨g2, 0, none⟩) (s.size + 1) c2 rfl ((Blk.new w2 _ _).cell 0) (by simp; omega) hR2.out.below.size ?_; intro wv' w3 h31 h32 h33; have hH := Lib.hid ((Rm.half hR2.out (hB2.out.keep (below_new w2 _)) hgg.out h31 h32 h33).keep (below_new w3 (.cells #[.slice (some ⟨g2, 0, none⟩) s.size c2] 27))); clear h31 h32 h33) | ((with_reducible show wpList _ _ _ (⟨some 30, _, _, _, _, _⟩ :: _) _ _); refine wpList_append_list rfl (.tmp 24) (.tmp 29) rfl w.heap.size _ _ xs rfl hH.out.l w3.heap.size (some ⟨g2, 0, none⟩) s.size c2 rfl ((Blk.new w3 _ _).cell 0) (by simp; omega) hH.out.below.size ?_; intro lv' w4 h41 h42 h43; have hRn := Lib.hid (Rh.done hH.out h41 h42 h43); clear h41 h42 h43))
      go_roundw
      case rel =>
        refine ⟨j + 1, by omega, by go_num, xs ++ [.slice (some ⟨g2, 0, none⟩) s.data.toList.length c2], ys ++ [.slice (some ⟨g2, 0, none⟩) (s.data.toList.length + 1) c2], ?_, ?_⟩
        · rw [List.take_add_one, hsj.out, List.map_append]
          exact hRn.out
        · have hlast := hRn.out.parts ((ss.take j).map (fun s => s.data.toList)).length s.data.toList (by simp)
          obtain ⟨v9, u9, e9, _, p9⟩ := hlast
          have hxl : xs.length = ((ss.take j).map (fun s => s.data.toList)).length := by simpa using hR.out.l.1
          rw [← hxl, List.getElem?_append_right (Nat.le_refl _), Nat.sub_self] at e9
          obtain rfl := Option.some.inj e9
          obtain ⟨g9, c9, e10, _, _, b9⟩ := p9
          have hg9 : g2 = g9 := by injection e10 with e10; injection e10 with e10; injection e10
          have := b9.lt
          refine Inc.snoc hI.out (by show wr.heap.size ≤ g2; rcases hg2.out with e | e; omega; simp at e; have := hz1.out; omega) (by show g2 < _; omega)
      case measure => simp [intOf]; omega
    · obtain rfl : j = n := by omega
      rw [← hn, List.take_length] at hR
      replace hR := Lib.hid hR
      have kc := fun (w : World) (C : Array Value) (n c : Nat) => Lib.run_convert_bytes_const (P := Try.prog) w 27 5 C n c Try.underlying27 Try.underlying5
      have hR1 := Lib.hid ((hR.out.keep (below_new wr (.cells #[.int .u8 98, .int .u8 101, .int .u8 104, .int .u8 105, .int .u8 110, .int .u8 100] 5 (6, 7)))).keep (below_new _ (.cells #[.slice (some ⟨wr.heap.size, 0, none⟩) 6 6] 27)))
      have hcl : ((wr.alloc (.cells #[.int .u8 98, .int .u8 101, .int .u8 104, .int .u8 105, .int .u8 110, .int .u8 100] 5 (6, 7))).alloc (.cells #[.slice (some ⟨wr.heap.size, 0, none⟩) 6 6] 27)).cell? ⟨wr.heap.size + 1, 0, none⟩ = some (.slice (some ⟨wr.heap.size, 0, none⟩) 6 6) := by
        have h := (Blk.new (wr.alloc (.cells #[.int .u8 98, .int .u8 101, .int .u8 104, .int .u8 105, .int .u8 110, .int .u8 100] 5 (6, 7))) #[.slice (some ⟨wr.heap.size, 0, none⟩) 6 6] 27).cell 0
        rw [show (wr.alloc (.cells #[.int .u8 98, .int .u8 101, .int .u8 104, .int .u8 105, .int .u8 110, .int .u8 100] 5 (6, 7))).heap.size = wr.heap.size + 1 by simp] at h
        exact h
      replace hcl := Lib.hid hcl
      go_wp2_with ((with_reducible show wpList _ _ _ (⟨some 36, _, _, _, _, _⟩ :: _) _ _); refine wpList_append_list rfl (.tmp 32) (.tmp 35) rfl w.heap.size _ _ xs rfl hR1.out.l (wr.heap.size + 1) (some ⟨wr.heap.size, 0, none⟩) 6 6 rfl hcl.out (by simp; omega) hR1.out.below.size ?_; intro lv' w5 h1 h2 h3; replace h1 := Lib.hid h1; replace h2 := Lib.hid h2; clear h3)
      refine bodyPost_ret (v := .tuple #[lv', u5]) (by simp [results, Try.results34, go_sem]) rfl ?_
      have e1 : (ss.map (fun s => s.data.toList)).length = j := by rw [List.length_map]; exact hn
      have h1' := h1.out
      have h2' : World.grownBy _ w5 u4.ownBlock := h2.out
      have hgl : w5.heap[wr.heap.size]? = some (.cells #[.int .u8 98, .int .u8 101, .int .u8 104, .int .u8 105, .int .u8 110, .int .u8 100] 5 (6, 7)) := by
        have h9 : ((wr.alloc (.cells #[.int .u8 98, .int .u8 101, .int .u8 104, .int .u8 105, .int .u8 110, .int .u8 100] 5 (6, 7))).alloc (.cells #[.slice (some ⟨wr.heap.size, 0, none⟩) 6 6] 27)).heap[wr.heap.size]? = some (.cells #[.int .u8 98, .int .u8 101, .int .u8 104, .int .u8 105, .int .u8 110, .int .u8 100] 5 (6, 7)) := by
          rw [Below.heap_alloc _ _ _ (by simp)]
          show (wr.heap.push _)[wr.heap.size]? = _
          simp
        refine (h2'.block wr.heap.size (by simp; omega) (fun e => ?_)).trans h9
        have := (hR.out.l.lt wr.heap.size e.symm).2
        omega
      have hm := hR1.out.m.kept h2' (by
        rcases hR1.out.ne with e | e
        · rw [e]; cases Value.ownBlock _ <;> simp
        · exact .inr (fun x => e x.symm))
      rw [e1] at h1' hm
      refine ⟨_, _, xs, ys, _, rfl, hR1.out.below.grown h2' hR1.out.below.size (fun k hk => (hR1.out.l.lt k hk).1), h1', hm, ?_, ⟨wr.heap.size, rfl, hgl, hR.out.below.size, hI.out⟩, fun i s hi => ?_⟩
      · have := hR1.out.l.1
        rw [e1] at this
        simpa using this
      · obtain ⟨v, u, d1, d2, d3⟩ := hR1.out.parts i s.data.toList (by rw [List.getElem?_map, hi]; rfl)
        exact ⟨v, u, d1, d2, d3.grown hR1.out.l h2'⟩
end Go.Proofs.Ytkchhggbiopffaa
