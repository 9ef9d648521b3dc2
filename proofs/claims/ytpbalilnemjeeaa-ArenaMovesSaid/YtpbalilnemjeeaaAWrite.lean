/- What is proved here: the contract of the arena's Write of a list of strings inside one live block. Conditions: the list lies in memory. -/
import Derived.Test.YtpbalilnemjeeaaAS
import Derived.Test.YtpbalilnemjeeaaMBytes
namespace Go.Proofs.Ytpbalilnemjeeaa
set_option linter.unusedVariables false
set_option linter.unusedSimpArgs false
open Go.RowKit Pm Pa Pl
/-- the list of the bytes, behind some rounds -/
structure Wl (w : World) (ss : List (List UInt8)) (lv : Value) (xs : List Value) (W : World) : Prop where
  below : Below w.heap.size w W
  l : W.ownsRow w.heap.size 131 1 lv ss.length xs
  parts : ∀ (i : Nat) (s : List UInt8), ss[i]? = some s → ∃ g c, xs[i]? = some (.slice (some ⟨g, 0, none⟩) s.length c) ∧ w.heap.size ≤ g ∧ BB W g s c
section
variable {w W W' : World} {ss : List (List UInt8)} {lv lv' : Value} {xs : List Value}
theorem Wl.keep (h : Wl w ss lv xs W) (hb : Below W.heap.size W W') : Wl w ss lv xs W' :=
  ⟨Below.then h.below hb, h.l.kept (grownBy_of_below hb) (by cases lv.ownBlock <;> simp), fun i s hi => by
    obtain ⟨g, c, h1, h2, h3⟩ := h.parts i s hi
    exact ⟨g, c, h1, h2, h3.keep hb⟩⟩
theorem Wl.step {s : List UInt8} {g c : Nat} (h : Wl w ss lv xs W) (hb : BB W g s c) (hg : w.heap.size ≤ g) (h1 : W'.ownsRow w.heap.size 131 1 lv' (ss.length + 1) (xs ++ [.slice (some ⟨g, 0, none⟩) s.length c])) (h2 : W.grownBy W' lv.ownBlock) :
    Wl w (ss ++ [s]) lv' (xs ++ [.slice (some ⟨g, 0, none⟩) s.length c]) W' := by
  have hxl : xs.length = ss.length := by have := h.l.1; omega
  refine ⟨h.below.grown h2 h.below.size (fun k hk => (h.l.lt k hk).1), by rw [List.length_append]; exact h1, fun i t hi => ?_⟩
  by_cases e : i < ss.length
  · rw [List.getElem?_append_left e] at hi
    obtain ⟨g', c', e1, e2, e3⟩ := h.parts i t hi
    exact ⟨g', c', by rw [List.getElem?_append_left (by omega)]; exact e1, e2, e3.grown h.l h2⟩
  · have hi2 : i < ss.length + 1 := by have := (List.getElem?_eq_some_iff.1 hi).1; simp at this; omega
    obtain rfl : i = ss.length := by omega
    rw [List.getElem?_append_right (Nat.le_refl _), Nat.sub_self] at hi
    obtain rfl : s = t := by simpa using hi
    refine ⟨g, c, ?_, hg, hb.grown h.l h2⟩
    rw [List.getElem?_append_right (by omega), hxl, Nat.sub_self]; rfl
end
theorem flat_snoc (ss : List ByteArray) (k : Nat) (s : ByteArray) (h : ss[k]? = some s) : (ss.take (k + 1)).map (fun s => s.data.toList) = (ss.take k).map (fun s => s.data.toList) ++ [s.data.toList] := by
  rw [List.take_add_one, h]; simp
set_option maxHeartbeats 4000000 in
set_option maxRecDepth 100000 in
theorem as_write {w0 w : World} {p : Nat} {x : Loc} {lim : Nat} {ps : Parts} {L : List UInt8} (h : AS w0 p x lim ps L w) (ss : List ByteArray) (A : Option Addr) (cc : Nat) (ha : StrsAt w A ss) (hl : ss.length ≤ 100000000) {off : Nat} {T : List UInt8} (hT : (ss.map fun s => s.data.toList).flatten = T)
    (hi : Inside ps off T.length) (O : Int) (hO : O = off) (N : Nat) (hN : ss.length = N) : Calls Try.prog 22 #[.pointer (some ⟨p, 0, none⟩), .int .i64 O, .slice A N cc] w fun e w' => e = .returned (.int .i64 0) ∧ AS w0 p x lim ps (splice L off T) w' ∧ Turns [x.q] w w' := by
  subst hN
  have hA := Lib.hid h
  have hin := h.ar.inside hi
  have hend := h.ar.endle
  have hqlt : x.q < w.heap.size := h.ar.mem.dat.lt
  have hT134 : T.length ≤ 134217728 := by omega
  obtain ⟨i0, hi0, hz0, hz1, hz2⟩ := info_parts infoBs
  have hib : i0.bytes * ss.length ≤ 281474976710656 := by rw [hz2]; omega
  replace hi0 := Lib.hid hi0
  replace hz0 := Lib.hid hz0
  replace hz1 := Lib.hid hz1
  replace hz2 := Lib.hid hz2
  replace ha := Lib.hid ha
  replace hT := Lib.hid hT
  clear h
  go_enter Try.func22, Try.ntmps22
  go_wp2_with (first
    | (at_make; refine wpList_make_own _ rfl _ _ _ rfl w.heap.size 131 i0 (.slice none 0 0) 1 Try.underlying130 hi0.out hz0.out hz1.out .i64 .i64 _ ss.length rfl rfl rfl hib (by unfold maxLen; omega) (by simp) ?_; intro w2 hrow hgr)
    | fail)
  have hW0 : Wl w [] (.slice (some ⟨w.heap.size, 0, none⟩) 0 ss.length) [] w2 := ⟨⟨hgr.os, hgr.tape, hgr.output, hgr.size, fun k hk => hgr.block k (by omega) (by simp)⟩, hrow, fun i s hi => by simp at hi⟩
  obtain ⟨v0, hv0⟩ : ∃ v, Hid (v = Value.slice (some ⟨w.heap.size, 0, none⟩) 0 ss.length) := ⟨_, rfl⟩
  rw [← hv0.out] at hW0 ⊢
  clear hrow hgr hv0 hib
  replace hW0 := Lib.hid hW0
  obtain ⟨wo, rfl⟩ : ∃ wo : World, wo = w := ⟨_, rfl⟩
  go_loopw [7, 8, 16] (fun a7 a8 a16 wr => ∃ (k : Nat) (v : Value) (xs : List Value), k ≤ ss.length ∧ a16 = .int .i64 (k : Int) ∧ a7 = .int .i64 ((((ss.take k).map fun s => s.data.toList).flatten.length : Nat) : Int) ∧ v = a8 ∧ Hid (Wl wo ((ss.take k).map fun s => s.data.toList) v xs wr)) (fun _ _ i _ => (ss.length - (intOf i).toNat))
  case atStart => exact ⟨0, v0, [], Nat.zero_le _, rfl, rfl, rfl, hW0⟩
  case round =>
    obtain ⟨k, v, xs, hk, rfl, rfl, rfl, hW⟩ := hrel
    by_cases hlt : k < ss.length
    · obtain ⟨s, hs⟩ : ∃ s, Hid (ss[k]? = some s) := ⟨_, List.getElem?_eq_getElem hlt⟩
      obtain ⟨g, o, rfl, hc0⟩ := ha.out k s hs.out
      have hc : wr.cell? ⟨g, o + k, none⟩ = some (.string s) := (hW.out.below.cell (p := ⟨g, o + k, none⟩) (World.block_lt_of_cell? wo _ hc0)).trans hc0
      have hsn := Lib.hid (flat_snoc ss k s hs.out)
      have hfl : (((ss.take (k + 1)).map fun s => s.data.toList).flatten.length) ≤ T.length := by
        rw [← hT.out]
        have e : ss.map (fun s => s.data.toList) = (ss.take (k + 1)).map (fun s => s.data.toList) ++ (ss.drop (k + 1)).map (fun s => s.data.toList) := by rw [← List.map_append, List.take_append_drop]
        rw [e, List.flatten_append, List.length_append]; omega
      rw [hsn.out, List.flatten_append, List.length_append] at hfl
      have hs1 : ([s.data.toList].flatten).length = s.size := by simp
      rw [hs1] at hfl
      have hml : ((ss.take k).map fun s => s.data.toList).length = k := by rw [List.length_map, List.length_take]; omega
      obtain ⟨M, hM⟩ : ∃ M, Hid (M = ((ss.take k).map fun s => s.data.toList).flatten.length) := ⟨_, rfl⟩
      rw [← hM.out] at hfl ⊢
      have k0 : (0 : Int) ≤ k := by omega
      have k1 : (k : Int) < ss.length := by omega
      go_wp2_with (first
        | ((with_reducible show wpList _ _ _ (⟨some 26, _, _, _, _, _⟩ :: _) _ _); refine wpList_to_bytes2 rfl _ rfl s rfl ?_; intro w5 c5 h5s h5b h5; have hW5 := (hW.out.keep h5b).keep ((Below.refl _ _).alloc (Nat.le_refl _) (.cells #[.slice (some ⟨wr.heap.size, 0, none⟩) s.size c5] 131)); have h5' := h5.keep ((Below.refl _ _).alloc (Nat.le_refl _) (.cells #[.slice (some ⟨wr.heap.size, 0, none⟩) s.size c5] 131)); have hc5 := (Blk.new w5 #[.slice (some ⟨wr.heap.size, 0, none⟩) s.size c5] 131).cell 0; rw [h5s] at hc5)
        | (at_builtin; refine wpList_append_list rfl _ _ rfl wo.heap.size _ k xs rfl (by rw [← hml]; exact hW5.l) (wr.heap.size + 1) (some ⟨wr.heap.size, 0, none⟩) s.size c5 rfl hc5 (by omega) (by have := hW5.below.size; exact this) ?_; intro v6 w6 hown hgrow hloc)
        | fail)
      have hstep := Wl.step (s := s.data.toList) hW5 h5' (by have := hW.out.below.size; exact this) (by rw [hml, Array.length_toList]; exact hown) hgrow
      refine ⟨⟨k + 1, v6, xs ++ [.slice (some ⟨wr.heap.size, 0, none⟩) s.data.toList.length c5], by omega, by go_num, ?_, rfl, ?_⟩, by simp [intOf]; omega⟩
      · rw [hsn.out, List.flatten_append, List.length_append, hs1, ← hM.out]
        push_cast
        rfl
      · rw [hsn.out]; exact hstep
    · obtain rfl : k = ss.length := by omega
      rw [List.take_length] at hW ⊢
      rw [hT.out]
      have hAr := Lib.hid (hA.out.keep hW.out.below)
      obtain ⟨d0, d1, d2, d3, d4, d5, d6⟩ := hAr.out.ar.cells
      clear d0 d1 d3 d4 d5 d6 hk hlt
      have hml : (ss.map fun s => s.data.toList).length = ss.length := by simp
      have hpv : ∃ PA pc, v = .slice PA ss.length pc ∧ PartsAt wr x.q PA (ss.map fun s => s.data.toList) := by
        have hown := hW.out.l
        have hcl := fun g => hown.cells (g := g)
        rcases hown.2 with ⟨e, h0⟩ | ⟨g, cap, cur, e, h1, _, _⟩
        · rw [hml] at h0
          refine ⟨none, 0, by rw [e, h0], fun i t hit => ?_⟩
          have := (List.getElem?_eq_some_iff.1 hit).1
          omega
        · rw [hml] at e
          refine ⟨_, cap, e, fun i t hit => ?_⟩
          obtain ⟨g', c', e1, e2, e3⟩ := hW.out.parts i t hit
          have hc := hcl g (by rw [e]; rfl) i _ e1
          rw [Addr.add_lit] at hc
          refine ⟨g, 0, _, rfl, by omega, by simpa using hc, some ⟨g', 0, none⟩, c', rfl, fun _ => ⟨g', 0, rfl, by omega, fun j b hj => ?_⟩⟩
          rw [Nat.zero_add]
          exact e3.cell j b hj
      obtain ⟨PA, pc, rfl, hps⟩ := hpv
      replace hps := Lib.hid hps
      replace hW := Lib.hid hW.out.below
      have tok1 : True := trivial
      go_wp2_with (first
        | (go_at_call 66; have _t := tok1; refine (good_yes hAr.out.ar hi _ _ (by first | rfl | omega) rfl).mono ?_; rintro e w' ⟨rfl, m1, rfl⟩; clear tok1)
        | (go_at_call 67; have hwr := write_in (hAr.out.drewN m1).ar.mem off PA pc (ss.map fun s => s.data.toList) (hps.out.turn ((Turns.refl [x.q] wr).drewN m1)) (by rw [hml]; omega) (by rw [hT.out]; exact hin); rw [hml, hT.out] at hwr; subst hO; refine hwr.mono ?_; rintro e w9 ⟨rfl, hm9, ht9⟩)
        | fail)
      go_ret
      exact ⟨rfl, (hAr.out.drewN m1).wrote ht9 ((hAr.out.drewN m1).ar.wrote hm9 ht9), ((Turns.of_below hW.out).drewN m1).trans ht9⟩
end Go.Proofs.Ytpbalilnemjeeaa
