/- What is proved here: the walk of the law DirWidens. Conditions: numbers of their kinds. -/
import Derived.Test.YtpbalilnemjeeaaDWsK
import Derived.Test.YtpbalilnemjeeaaRowWords
namespace Go.Proofs.Ytpbalilnemjeeaa
set_option linter.unusedVariables false
set_option linter.unusedSimpArgs false
open Go.RowKit Pm Pa Pl Pd
theorem words_below {w w' : World} {A : Option Addr} {zs : List Int} (h : U64In w A zs) (hb : Below w.heap.size w w') : U64In w' A zs := fun i z hi => by
  obtain ⟨g, o, rfl, hc⟩ := h i z hi
  exact ⟨g, o, rfl, (hb.cell (p := ⟨g, o + i, none⟩) (World.block_lt_of_cell? w _ hc)).trans hc⟩
theorem live_freeP {qs : Parts} (hp : ∀ y ∈ qs, 1 ≤ y.1) {E : Int} {c : Nat} (h : sizeFrom 16 qs E = some c) : liveSum (freeP qs E) + c = liveSum qs := by
  obtain ⟨a, b, hq, rfl⟩ := live_split 16 qs E c h
  have e := freeP_split a b c (fun y hy => hp y (by rw [hq]; simp [hy]))
  unfold endOf at e
  rw [hq, e, liveSum_flip a b c]
theorem cls_512 {d : Nat} (h : d ≤ 6) : clsN (8 * ((2 ^ d : Nat) : Int)) ≤ 512 := by
  have hd7 : d = 0 ∨ d = 1 ∨ d = 2 ∨ d = 3 ∨ d = 4 ∨ d = 5 ∨ d = 6 := by omega
  rcases hd7 with rfl | rfl | rfl | rfl | rfl | rfl | rfl <;> decide
theorem shl_eight (d : Nat) (hd : d ≤ 6) (w : World) : (Op.shift .shl .i64 8 .i64 (d : Int)).run Try.prog w = .ok (.int .i64 ((8 * 2 ^ d : Nat) : Int)) w := by
  have hd7 : d = 0 ∨ d = 1 ∨ d = 2 ∨ d = 3 ∨ d = 4 ∨ d = 5 ∨ d = 6 := by omega
  rcases hd7 with rfl | rfl | rfl | rfl | rfl | rfl | rfl <;> rfl
def pickI (zs : List Int) (d : Nat) (h : Int) : Int := (zs[topN h.toNat d]?).getD 0
theorem one_in2 (w : World) (E : Int) : IntsIn (w.alloc (.cells #[.int .i64 E] 3)) (some ⟨w.heap.size, 0, none⟩) [E] := one_ints w E
set_option maxHeartbeats 4000000 in
set_option maxRecDepth 100000 in
theorem widens_bad (w : World) (A U : Option Addr) (cap n m ucap : Nat) (zs : List Int) (Tm : Int) (hn : zs.length = n) (hz : IntsIn w A zs) (hA : A = none → n = 0 ∧ cap = 0) (hlen : n ≤ 17592186044414) (hrg : ∀ z ∈ zs, isI z) (hp : ¬ isPow n) :
    Calls Try.prog 17 #[.slice A n cap, .int .i64 Tm, .slice U m ucap] w fun e w' => e = .returned (.bool true) ∧ Below w.heap.size w w' := by
  go_enter Try.func17, Try.ntmps17
  go_wp2_with (first
    | (go_at_call 53; refine (made_bad w A cap n zs hn hz hA hlen hrg hp).mono ?_; rintro e w1 ⟨P, rfl, hB⟩; unfold madeV)
    | (go_at_call 49; refine (depthOf_no _ _ n rfl hp).mono ?_; rintro e w4 ⟨rfl, rfl⟩)
    | fail)
  go_ret
  exact ⟨rfl, hB.alloc hB.size _⟩
set_option maxHeartbeats 4000000 in
set_option maxRecDepth 100000 in
theorem widens_yes (w : World) (A U : Option Addr) (cap n m ucap : Nat) (zs hs : List Int) (Tm : Int) (hn : zs.length = n) (hz : IntsIn w A zs) (hA : A = none → n = 0 ∧ cap = 0) (hlen : n ≤ 17592186044414) (hrg : ∀ z ∈ zs, isI z)
    (hm : hs.length = m) (hu : U64In w U hs) (hmb : m ≤ 17592186044414) (hur : ∀ z ∈ hs, 0 ≤ z ∧ z < 18446744073709551616) (d : Nat) (hd6 : d ≤ 6) (hnd : n = 2 ^ d) :
    Calls Try.prog 17 #[.slice A n cap, .int .i64 Tm, .slice U m ucap] w fun e w' => e = .returned (.bool true) ∧ Below w.heap.size w w' := by
  replace hnd := Lib.hid hnd
  replace hn := Lib.hid hn
  replace hrg := Lib.hid hrg
  replace hz := Lib.hid hz
  replace hA := Lib.hid hA
  replace hm := Lib.hid hm
  replace hu := Lib.hid hu
  replace hur := Lib.hid hur
  go_enter Try.func17, Try.ntmps17
  go_upto_region 2 with (first
    | (go_at_call 53; refine (made_yes w A cap n zs hn.out hz.out hA.out hlen hrg.out d hd6 hnd.out).mono ?_; rintro e w1 ⟨p, x, L, rfl, h1, hD⟩; replace h1 := Lib.hid h1; replace hD := Lib.hid hD; unfold madeV dirV)
    | fail)
  have b6 := Blk.new w1 #[.pointer (some ⟨p, 0, none⟩), .int .i64 16, .int .i64 (d : Int)] 92
  have hS := h1.out.alloc (.cells #[.pointer (some ⟨p, 0, none⟩), .int .i64 16, .int .i64 (d : Int)] 92)
  have hg8 : ¬ w1.heap.size ∈ x.all p := fun hk => Nat.lt_irrefl _ (h1.out.ar.lt _ hk)
  have hg8w := h1.out.below.size
  generalize World.alloc w1 _ = w2 at b6 hS ⊢
  obtain ⟨g8, hge⟩ : ∃ g, Hid (g = w1.heap.size) := ⟨_, rfl⟩
  rw [← hge.out] at b6 hg8 hg8w ⊢
  obtain ⟨c, hc⟩ : ∃ c, Hid (c = clsN (8 * ((2 ^ d : Nat) : Int))) := ⟨_, rfl⟩
  rw [hnd.out, ← hc.out] at hS hD
  have hcl : c ∈ classes := by rw [hc.out]; exact clsN_class (by have := pow64 hd6; have : 1 ≤ 2 ^ d := Nat.one_le_two_pow; omega)
  have hcm : c ≤ 65536 := by rw [hc.out]; exact clsN_pow hd6
  have hF : Held 65536 [(c, true)] := (Held.nil 65536).take c hcl (by simp only [liveSum]; omega)
  obtain ⟨B, hB⟩ : ∃ B, Hid (B = w2.heap.size) := ⟨_, rfl⟩
  have hW : Hid (Ws w B p x 65536 [(c, true)] L g8 16 d zs (.slice none 0 0) ((hs.take 0).map (pickI zs d)) w2) :=
    ⟨hS, hF, hD.out, by rw [← hc.out]; simp [sizeFrom], by rw [← hc.out]; simp [liveSum], ⟨b6, hg8⟩, World.ownsRow_nil _ _ _ _, by simp [rows, Value.ownBlock], by simp [rows, Value.ownBlock], by rw [hB.out]; exact ⟨hS.below.size, hg8w⟩⟩
  have hxB := Lib.hid (fun k hk => by rw [hB.out]; exact hS.ar.lt k hk : ∀ k, k ∈ x.all p → k < B)
  have h8B : Hid (g8 < B) := by rw [hB.out]; exact b6.lt
  have hBw : Hid (B ≤ w2.heap.size) := Nat.le_of_eq hB.out
  clear hS b6 hg8 hg8w hF h1 hD
  go_upto_region 6 with (fail)
  go_loopw [10, 40] (fun a10 a40 ws => ∃ (k : Nat) (v : Value), k ≤ m ∧ v = a10 ∧ a40 = .int .i64 (k : Int) ∧ Hid (Ws w B p x 65536 [(c, true)] L g8 16 d zs v ((hs.take k).map (pickI zs d)) ws) ∧ Hid (B ≤ ws.heap.size)) (fun _ i _ => (m - (intOf i).toNat))
  case atStart => exact ⟨0, _, Nat.zero_le _, rfl, rfl, hW, hBw⟩
  case round =>
    obtain ⟨k, v, hk, rfl, rfl, hW, hBw⟩ := hrel
    by_cases hlt : k < m
    · have j0 : (0 : Int) ≤ k := by omega
      have j1 : (k : Int) < m := by omega
      obtain ⟨hh, hhk⟩ : ∃ hh, hs[k]? = some hh := ⟨_, List.getElem?_eq_getElem (by rw [hm.out]; exact hlt)⟩
      obtain ⟨hr0, hr1⟩ := hur.out hh (List.mem_of_getElem? hhk)
      obtain ⟨Hn, rfl⟩ := Int.eq_ofNat_of_zero_le hr0
      obtain ⟨gg, oo, hUe, hcl2⟩ := words_below hu.out hW.out.ars.below k _ hhk
      subst hUe
      have hT0 := topN_lt (h := Hn) (by omega) hd6
      obtain ⟨t, ht⟩ : ∃ t, zs[topN Hn d]? = some t := ⟨_, List.getElem?_eq_getElem (by rw [hn.out, hnd.out]; exact hT0)⟩
      have hstep : (hs.take (k + 1)).map (pickI zs d) = (hs.take k).map (pickI zs d) ++ [t] := by
        rw [List.take_add_one, hhk, Option.toList_some, List.map_append, List.map_singleton]
        congr 2
        unfold pickI
        rw [Int.toNat_natCast, ht]; rfl
      replace hstep := Lib.hid hstep
      replace ht := Lib.hid ht
      obtain ⟨k0, k1, k2⟩ := hW.out.cells
      clear hhk hT0
      go_wp2_with (first
        | (go_at_call 55; go_loud (refine (dir_pick2 hW.out.ars.ar hW.out.dir Hn (by omega) t ht.out _ rfl).mono ?_; rintro r w5 ⟨rfl, hb5⟩; have hW5 := Lib.hid (hW.out.keep hb5); have hBw5 := Lib.hid (Nat.le_trans hBw.out hb5.size); clear hb5))
        | ((with_reducible show wpList _ _ _ (⟨some 56, _, _, _, _, _⟩ :: _) _ _); go_loud (refine wpList_append_ints rfl (.tmp 53) (.tmp 55) rfl B v _ _ rfl (hW5.out.row.alloc _) (some ⟨w5.heap.size, 0, none⟩) 1 1 [t] rfl rfl (one_in2 _ _) (fun e => by cases e) (by rw [List.length_map, List.length_take]; omega) (by have := hBw5.out; simp; omega) ?_; intro v2 w2 hown hgrow; have h2 := Lib.hid (hW5.out.append hxB.out h8B.out hown hgrow); have hBw2 := Lib.hid (Nat.le_trans hBw5.out (Nat.le_trans (by simp) hgrow.size)); clear hown hgrow))
        | fail)
      exact ⟨⟨k + 1, v2, by omega, rfl, by go_num, by rw [hstep.out]; exact h2, hBw2⟩, by simp [intOf]; omega⟩
    · obtain rfl : k = m := by omega
      rw [List.take_of_length_le (by rw [hm.out]; exact Nat.le_refl _)] at hW
      obtain ⟨had, hhad⟩ : ∃ had, Hid (had = hs.map (pickI zs d)) := ⟨_, rfl⟩
      rw [← hhad.out] at hW
      go_upto_region 14 with (fail)
      go_loopw [16] (fun a16 ws => ∃ (q d' off' : Nat) (xk : Loc) (psk : Parts) (Lk : List UInt8) (esk : List Int), q ≤ 8 ∧ a16 = .int .i64 (q : Int) ∧ d' ≤ 6 ∧ Hid (Ws w B p xk 65536 psk Lk g8 off' d' esk v had ws) ∧ Hid (∀ H, H < 18446744073709551616 → esk[topN H d']? = zs[topN H d]?)) (fun i _ => (8 - (intOf i).toNat))
      case atStart => exact ⟨0, d, 16, x, [(c, true)], L, zs, by omega, rfl, hd6, hW, fun H _ => rfl⟩
      case round =>
        obtain ⟨q, d', off', xk, psk, Lk, esk, hq, rfl, hd', hW, hE⟩ := hrel
        have hway : (q : Int) < Tm ∧ q < 8 ∨ ((q : Int) < Tm ∧ ¬ q < 8) ∨ ¬ (q : Int) < Tm := by omega
        rcases hway with ⟨w1', w2'⟩ | ⟨w1', w2'⟩ | w1'
        · have w3' : (q : Int) < 8 := by omega
          obtain ⟨k0, k1, k2⟩ := hW.out.cells
          by_cases h6 : d' = 6
          · subst h6
            go_wp2_with (first
              | (go_at_call 58; go_loud (refine (dir_widen_deep _ p off').mono ?_; rintro r w5 ⟨rfl, hb5⟩; have hW5 := Lib.hid ((hW.out.keep hb5).keep ((Below.refl w5.heap.size w5).alloc (Nat.le_refl _) (.cells #[.pointer none, .int .i64 0, .int .i64 0] 92))); obtain ⟨k0', k1', k2'⟩ := hW5.out.cells))
              | (go_at_call 51; go_loud (refine (dir_depth _ _ _ _ ⟨_, rfl⟩ ⟨_, rfl⟩ ⟨_, rfl⟩).mono ?_; rintro r w6 ⟨rfl, hb6⟩; have hW6 := Lib.hid (hW5.out.keep hb6)))
              | fail)
            exact ⟨⟨q + 1, 6, off', xk, psk, Lk, esk, by omega, by go_num, by omega, hW6, hE⟩, by simp [intOf]; omega⟩
          · have hd5 : d' ≤ 5 := by omega
            obtain ⟨d1, hd1⟩ : ∃ d1, Hid (d1 = d' + 1) := ⟨_, rfl⟩
            obtain ⟨c2, hc2⟩ : ∃ c2, Hid (clsN (8 * ((2 ^ (d' + 1) : Nat) : Int)) = c2) := ⟨_, rfl⟩
            have hroom : liveSum psk + c2 ≤ 65536 := by
              have e1 := cls_512 hd'
              have e2 := cls_512 (show d' + 1 ≤ 6 by omega)
              rw [hc2.out] at e2
              rw [hW.out.live]; omega
            obtain ⟨TA, hTA⟩ : ∃ TA, Hid (TA = takeAt psk c2) := ⟨_, rfl⟩
            go_upto_region 17 with (first
              | (go_at_call 58; go_loud (refine (dir_widen hW.out.ars.ar hW.out.held hW.out.dir hd5 _ hW.out.size c2 hc2.out hroom).mono ?_; rw [← hTA.out, ← hd1.out]; rintro r w5 ⟨rfl, x5, L5, hA5, hD5, hT5, hf5⟩; unfold dirV))
              | fail)
            have hpos1 : ∀ y ∈ psk, 1 ≤ y.1 := fun y hy => by have := (hW.out.ars.ar.pos y hy).1; omega
            have hc16 : 1 ≤ c2 := by
              have h1 : 1 ≤ 2 ^ (d' + 1) := Nat.one_le_two_pow
              have h2 : 2 ^ (d' + 1) ≤ 64 := pow64 (by omega)
              have := (clsN_is (n := 8 * ((2 ^ (d' + 1) : Nat) : Int)) (by omega)).2.1
              rw [hc2.out] at this; omega
            have hne : (off' : Int) ≠ (TA : Int) := fun q => by
              have h1 := take_none psk hpos1 c2 hc16
              rw [← hTA.out, ← q, hW.out.size] at h1
              cases h1
            have hp2 : ∀ y ∈ takeP psk c2, 1 ≤ y.1 := by
              rcases take_case psk c2 with ⟨_, e1, _⟩ | ⟨a, b, e0, _, e1, _⟩
              · rw [e1]; intro y hy
                rcases List.mem_append.1 hy with q | q
                · exact hpos1 y q
                · rw [List.mem_singleton.1 q]; exact hc16
              · rw [e1]; intro y hy
                rcases List.mem_append.1 hy with q | q
                · exact hpos1 y (by rw [e0]; simp [q])
                · rcases List.mem_cons.1 q with q | q
                  · rw [q]; exact hc16
                  · exact hpos1 y (by rw [e0]; simp [q])
            have hsz : liveSum (freeP (takeP psk c2) (off' : Int)) = c2 := by
              have h1 := live_freeP hp2 (E := (off' : Int)) (c := clsN (8 * ((2 ^ d' : Nat) : Int))) (by rw [take_size psk hpos1 c2 hc16, if_neg (by rw [← hTA.out]; exact hne)]; exact hW.out.size)
              rw [live_takeP, hW.out.live] at h1
              omega
            have hN0 := hW.out.widen (TA := TA) (by rw [hc2.out]; exact hTA.out) hd5 (by rw [hc2.out]; exact hroom) (by rw [hc2.out]; exact hA5) (by rw [hc2.out, ← hd1.out]; exact hD5) hT5 hf5 (by rw [hc2.out]; exact hsz) hne
            rw [hc2.out, ← hd1.out] at hN0
            have hE2 : Hid (∀ H, H < 18446744073709551616 → (dbl esk)[topN H d1]? = zs[topN H d]?) := fun H hH => by rw [hd1.out, dbl_top esk H d' (by omega)]; exact hE.out H hH
            obtain ⟨psn, hpsn⟩ : ∃ psn, Hid (psn = freeP (takeP psk c2) (off' : Int)) := ⟨_, rfl⟩
            rw [← hpsn.out] at hN0
            generalize World.alloc w5 _ = w6 at hN0 ⊢
            obtain ⟨g17, hg17⟩ : ∃ g, Hid (g = w5.heap.size) := ⟨_, rfl⟩
            rw [← hg17.out] at hN0 ⊢
            replace hN0 := Lib.hid hN0
            clear hW hA5 hD5 hT5 hf5 hsz hp2 hne hpos1 k0 k1 k2 hroom hE
            obtain ⟨⟨k0, k1, k2⟩, m0, m1, m2⟩ := hN0.out.cells
            have q6 : ((d' : Int) == 6) = false := by rw [beq_eq_false_iff_ne]; omega
            go_upto_region 20 with (first
              | (go_at_call 51; refine (dir_depth _ _ _ _ ⟨_, rfl⟩ ⟨_, rfl⟩ ⟨_, rfl⟩).mono ?_; rintro r w7 ⟨rfl, hb⟩; replace hN0 := Lib.hid (hN0.out.keep hb); clear k0 k1 k2 m0 m1 m2 hb; obtain ⟨⟨k0, k1, k2⟩, m0, m1, m2⟩ := hN0.out.cells)
              | fail)
            have hdi : (d' : Int) + 1 = d1 := by rw [hd1.out]; push_cast; rfl
            have hw1 : IntKind.i64.wrap (d1 : Int) = d1 := by rw [IntKind.wrap_i64]; have := hd1.out; omega
            go_region_held3 (fun W => (W.cell? ⟨g8, 0, none⟩ = some (.pointer (some ⟨p, 0, none⟩)) ∧ W.cell? ⟨g8, 1, none⟩ = some (.int .i64 (off' : Int)) ∧ W.cell? ⟨g8, 2, none⟩ = some (.int .i64 (d' : Int))) ∧ W.cell? ⟨g17, 0, none⟩ = some (.pointer (some ⟨p, 0, none⟩)) ∧ W.cell? ⟨g17, 1, none⟩ = some (.int .i64 (TA : Int)) ∧ W.cell? ⟨g17, 2, none⟩ = some (.int .i64 (d1 : Int))) (first | exact ⟨⟨k0, k1, k2⟩, m0, m1, m2⟩ | assumption) ((first
              | (go_at_call 51; refine (dir_depth _ _ _ _ ⟨_, rfl⟩ ⟨_, rfl⟩ ⟨_, rfl⟩).mono ?_; rintro r w7 ⟨rfl, hb⟩; have hN0 := Lib.hid (Wn.keep (by first | exact hN0.out | exact hN0.out.drew | assumption) hb); obtain ⟨⟨k0, k1, k2⟩, m0, m1, m2⟩ := hN0.out.cells; clear hb)))
            have f0 := hN0.out.o8.b.free 0
            have f1 := hN0.out.o8.b.free 1
            have f2 := hN0.out.o8.b.free 2
            go_upto_region 23 with (fail)
            have hV := hN0.out.close
            generalize World.setCell _ _ _ = w9 at hV ⊢
            obtain ⟨D1, hD1⟩ : ∃ D1 : Int, Hid (D1 = (d1 : Int)) := ⟨_, rfl⟩
            clear k0 k1 k2 m0 m1 m2 f0 f1 f2 hdi hw1
            obtain ⟨k0, k1, k2⟩ := hV.cells
            rw [← hD1.out] at k2
            replace hV := Lib.hid hV
            obtain ⟨N8, hN8⟩ : ∃ N8 : Nat, Hid (N8 = 8 * 2 ^ d1) := ⟨_, rfl⟩
            have hsh : ∀ w, (Op.shift .shl .i64 8 .i64 D1).run Try.prog w = .ok (.int .i64 (N8 : Int)) w := fun w => by rw [hD1.out, hN8.out]; exact shl_eight d1 (by rw [hd1.out]; omega) w
            have hcN : Hid (clsN (N8 : Int) = c2) := by
              rw [hN8.out, hd1.out, ← hc2.out]; push_cast; rfl
            have hNb : 1 ≤ (N8 : Int) ∧ (N8 : Int) ≤ 1048576 := by
              have h1 : 1 ≤ 2 ^ d1 := Nat.one_le_two_pow
              have h2 : 2 ^ d1 ≤ 64 := pow64 (by rw [hd1.out]; omega)
              have h3 : 1 ≤ N8 ∧ N8 ≤ 1048576 := by rw [hN8.out]; omega
              omega
            have hlv9 := Lib.hid (by rw [hV.out.live, hd1.out, hc2.out] : (liveSum psn : Int) = c2)
            go_region_held3 (fun W => W.cell? ⟨g8, 0, none⟩ = some (.pointer (some ⟨p, 0, none⟩)) ∧ W.cell? ⟨g8, 1, none⟩ = some (.int .i64 (TA : Int)) ∧ W.cell? ⟨g8, 2, none⟩ = some (.int .i64 D1)) (first | exact ⟨k0, k1, k2⟩ | assumption) ((first
              | (go_at_call 34; refine (as_live (by first | exact hV.out.ars | exact hV.out.ars.drew | assumption) (c2 : Int) hlv9.out).mono ?_; rintro e w7 ⟨rfl, rfl⟩)
              | (go_at_call 50; (with_reducible refine (class_is (N8 : Int) c2 _ hNb hcN.out).mono ?_); rintro e w7 ⟨rfl, rfl⟩)
              | (go_at_call 51; refine (dir_depth _ _ _ _ ⟨_, rfl⟩ ⟨_, rfl⟩ ⟨_, rfl⟩).mono ?_; rintro r w7 ⟨rfl, hb⟩; have hV := Lib.hid (Ws.keep (by first | exact hV.out | exact hV.out.keep (Below.refl _ _).drew | assumption) hb); obtain ⟨k0, k1, k2⟩ := hV.out.cells; rw [← hD1.out] at k2; clear hb)))
            all_goals go_wp2_with fail
            all_goals exact ⟨⟨q + 1, d1, TA, _, psn, _, dbl esk, by omega, by go_num, by have := hd1.out; omega, hV, hE2⟩, by simp [intOf]; omega⟩
        · obtain ⟨A3, cap3, hvv, _⟩ := own_slice hW.out.row
          subst hvv
          have hlh : had.length = k := by rw [hhad.out, List.length_map, hm.out]
          rw [hlh] at hW ⊢
          replace hlh := Lib.hid hlh
          go_upto_region 26 with (fail)
          go_loopw [97] (fun a97 ws => ∃ j : Nat, j ≤ k ∧ a97 = .int .i64 (j : Int) ∧ Hid (Ws w B p xk 65536 psk Lk g8 off' d' esk (.slice A3 k cap3) had ws)) (fun i _ => (k - (intOf i).toNat))
          case atStart => exact ⟨0, Nat.zero_le _, rfl, hW⟩
          case round =>
            obtain ⟨j, hj, rfl, hW⟩ := hrel
            obtain ⟨k0, k1, k2⟩ := hW.out.cells
            by_cases hlt3 : j < k
            · have j0 : (0 : Int) ≤ j := by omega
              have j1 : (j : Int) < k := by omega
              obtain ⟨hh, hhk⟩ : ∃ hh, hs[j]? = some hh := ⟨_, List.getElem?_eq_getElem (by rw [hm.out]; exact hlt3)⟩
              obtain ⟨hr0, hr1⟩ := hur.out hh (List.mem_of_getElem? hhk)
              obtain ⟨Hn, rfl⟩ := Int.eq_ofNat_of_zero_le hr0
              obtain ⟨gg, oo, hUe, hcl2⟩ := words_below hu.out hW.out.ars.below j _ hhk
              subst hUe
              have hT0 := topN_lt (h := Hn) (by omega) hd6
              obtain ⟨t, ht⟩ : ∃ t, zs[topN Hn d]? = some t := ⟨_, List.getElem?_eq_getElem (by rw [hn.out, hnd.out]; exact hT0)⟩
              have hgt : had[j]? = some t := by
                rw [hhad.out, List.getElem?_map, hhk, Option.map_some]
                unfold pickI
                rw [Int.toNat_natCast, ht]; rfl
              have ht2 : esk[topN Hn d']? = some t := by rw [hE.out Hn (by omega)]; exact ht
              replace ht2 := Lib.hid ht2
              replace hgt := Lib.hid hgt
              clear hhk hT0 ht
              go_wp2_with (first
                | (go_at_call 55; go_loud (refine (dir_pick2 hW.out.ars.ar hW.out.dir Hn (by omega) t ht2.out _ rfl).mono ?_; rintro r w5 ⟨rfl, hb5⟩; have hW5 := Lib.hid (hW.out.keep hb5); obtain ⟨g4, o4, hA4, hcl4⟩ := hW5.out.ints j t hgt.out; subst hA4))
                | fail)
              exact ⟨⟨j + 1, by omega, by go_num, hW5⟩, by simp [intOf]; omega⟩
            · obtain rfl : j = k := by omega
              obtain ⟨V, hV⟩ : ∃ V : Nat, Hid (V = clsN (8 * ((2 ^ d' : Nat) : Int))) := ⟨_, rfl⟩
              have hsz := hW.out.size
              rw [← hV.out] at hsz
              have hlv := hW.out.live
              rw [← hV.out] at hlv
              have hp1 : ∀ y ∈ psk, 1 ≤ y.1 := fun y hy => by have := (hW.out.ars.ar.pos y hy).1; omega
              have hfr := live_freeP hp1 hsz
              have hz0 : ((liveSum (freeP psk (off' : Int)) : Nat) : Int) = 0 := by omega
              have hlvI : ((liveSum psk : Nat) : Int) = V := by omega
              replace hsz := Lib.hid hsz
              replace hz0 := Lib.hid hz0
              replace hlvI := Lib.hid hlvI
              clear hlv hfr
              go_wp2_with (first
                | (go_at_call 59; go_loud (refine (dir_off _ _ _ _ ⟨_, rfl⟩ ⟨_, rfl⟩ ⟨_, rfl⟩).mono ?_; rintro r w5 ⟨rfl, hb5⟩; replace hW := Lib.hid (hW.out.keep hb5); clear k0 k1 k2 hb5; obtain ⟨k0, k1, k2⟩ := hW.out.cells))
                | (go_at_call 41; go_loud (refine (ar_size hW.out.ars.ar (off' : Int) V hsz.out).mono ?_; rintro r w6 ⟨rfl, rfl⟩))
                | (go_at_call 34; first | (refine (as_live hAf.out 0 hz0.out).mono ?_; rintro e w7 ⟨rfl, rfl⟩) | (refine (as_live hW.out.ars V hlvI.out).mono ?_; rintro e w7 ⟨rfl, rfl⟩))
                | (go_at_call 60; go_loud (refine (dir_free hW.out.ars.ar off' _ (by rw [hsz.out]; rfl)).mono ?_; rintro r w8 ⟨rfl, x8, hA8, hT8, hf8⟩; have hAf := Lib.hid (hW.out.ars.turned hT8 hA8 hf8)))
                | fail)
              go_ret
              exact ⟨rfl, hAf.out.below⟩
        · obtain ⟨A3, cap3, hvv, _⟩ := own_slice hW.out.row
          subst hvv
          have hlh : had.length = k := by rw [hhad.out, List.length_map, hm.out]
          rw [hlh] at hW ⊢
          replace hlh := Lib.hid hlh
          go_upto_region 26 with (fail)
          go_loopw [97] (fun a97 ws => ∃ j : Nat, j ≤ k ∧ a97 = .int .i64 (j : Int) ∧ Hid (Ws w B p xk 65536 psk Lk g8 off' d' esk (.slice A3 k cap3) had ws)) (fun i _ => (k - (intOf i).toNat))
          case atStart => exact ⟨0, Nat.zero_le _, rfl, hW⟩
          case round =>
            obtain ⟨j, hj, rfl, hW⟩ := hrel
            obtain ⟨k0, k1, k2⟩ := hW.out.cells
            by_cases hlt3 : j < k
            · have j0 : (0 : Int) ≤ j := by omega
              have j1 : (j : Int) < k := by omega
              obtain ⟨hh, hhk⟩ : ∃ hh, hs[j]? = some hh := ⟨_, List.getElem?_eq_getElem (by rw [hm.out]; exact hlt3)⟩
              obtain ⟨hr0, hr1⟩ := hur.out hh (List.mem_of_getElem? hhk)
              obtain ⟨Hn, rfl⟩ := Int.eq_ofNat_of_zero_le hr0
              obtain ⟨gg, oo, hUe, hcl2⟩ := words_below hu.out hW.out.ars.below j _ hhk
              subst hUe
              have hT0 := topN_lt (h := Hn) (by omega) hd6
              obtain ⟨t, ht⟩ : ∃ t, zs[topN Hn d]? = some t := ⟨_, List.getElem?_eq_getElem (by rw [hn.out, hnd.out]; exact hT0)⟩
              have hgt : had[j]? = some t := by
                rw [hhad.out, List.getElem?_map, hhk, Option.map_some]
                unfold pickI
                rw [Int.toNat_natCast, ht]; rfl
              have ht2 : esk[topN Hn d']? = some t := by rw [hE.out Hn (by omega)]; exact ht
              replace ht2 := Lib.hid ht2
              replace hgt := Lib.hid hgt
              clear hhk hT0 ht
              go_wp2_with (first
                | (go_at_call 55; go_loud (refine (dir_pick2 hW.out.ars.ar hW.out.dir Hn (by omega) t ht2.out _ rfl).mono ?_; rintro r w5 ⟨rfl, hb5⟩; have hW5 := Lib.hid (hW.out.keep hb5); obtain ⟨g4, o4, hA4, hcl4⟩ := hW5.out.ints j t hgt.out; subst hA4))
                | fail)
              exact ⟨⟨j + 1, by omega, by go_num, hW5⟩, by simp [intOf]; omega⟩
            · obtain rfl : j = k := by omega
              obtain ⟨V, hV⟩ : ∃ V : Nat, Hid (V = clsN (8 * ((2 ^ d' : Nat) : Int))) := ⟨_, rfl⟩
              have hsz := hW.out.size
              rw [← hV.out] at hsz
              have hlv := hW.out.live
              rw [← hV.out] at hlv
              have hp1 : ∀ y ∈ psk, 1 ≤ y.1 := fun y hy => by have := (hW.out.ars.ar.pos y hy).1; omega
              have hfr := live_freeP hp1 hsz
              have hz0 : ((liveSum (freeP psk (off' : Int)) : Nat) : Int) = 0 := by omega
              have hlvI : ((liveSum psk : Nat) : Int) = V := by omega
              replace hsz := Lib.hid hsz
              replace hz0 := Lib.hid hz0
              replace hlvI := Lib.hid hlvI
              clear hlv hfr
              go_wp2_with (first
                | (go_at_call 59; go_loud (refine (dir_off _ _ _ _ ⟨_, rfl⟩ ⟨_, rfl⟩ ⟨_, rfl⟩).mono ?_; rintro r w5 ⟨rfl, hb5⟩; replace hW := Lib.hid (hW.out.keep hb5); clear k0 k1 k2 hb5; obtain ⟨k0, k1, k2⟩ := hW.out.cells))
                | (go_at_call 41; go_loud (refine (ar_size hW.out.ars.ar (off' : Int) V hsz.out).mono ?_; rintro r w6 ⟨rfl, rfl⟩))
                | (go_at_call 34; first | (refine (as_live hAf.out 0 hz0.out).mono ?_; rintro e w7 ⟨rfl, rfl⟩) | (refine (as_live hW.out.ars V hlvI.out).mono ?_; rintro e w7 ⟨rfl, rfl⟩))
                | (go_at_call 60; go_loud (refine (dir_free hW.out.ars.ar off' _ (by rw [hsz.out]; rfl)).mono ?_; rintro r w8 ⟨rfl, x8, hA8, hT8, hf8⟩; have hAf := Lib.hid (hW.out.ars.turned hT8 hA8 hf8)))
                | fail)
              go_ret
              exact ⟨rfl, hAf.out.below⟩
theorem widens_all (w : World) (A U : Option Addr) (cap ucap : Nat) (zs hs : List Int) (Tm : Int) (hz : IntsIn w A zs) (hA : A = none → zs.length = 0 ∧ cap = 0) (hlen : zs.length ≤ 17592186044414) (hrg : ∀ z ∈ zs, isI z)
    (hu : U64In w U hs) (hmb : hs.length ≤ 17592186044414) (hur : ∀ z ∈ hs, 0 ≤ z ∧ z < 18446744073709551616) :
    Calls Try.prog 17 #[.slice A zs.length cap, .int .i64 Tm, .slice U hs.length ucap] w fun e w' => e = .returned (.bool true) ∧ Below w.heap.size w w' := by
  by_cases hp : isPow zs.length
  · obtain ⟨d, h1, h2⟩ := hp
    exact widens_yes w A U cap _ _ ucap zs hs Tm rfl hz hA hlen hrg rfl hu hmb hur d h1 h2
  · exact widens_bad w A U cap _ _ ucap zs Tm rfl hz hA hlen hrg hp
end Go.Proofs.Ytpbalilnemjeeaa
