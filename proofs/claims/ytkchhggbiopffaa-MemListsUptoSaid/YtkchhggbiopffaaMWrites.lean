/- What is proved here: the walk of the law MemWrites. Conditions: strings of at most 1048576 bytes together. -/
import Derived.Test.YtkchhggbiopffaaMTwice
namespace Go.Proofs.Ytkchhggbiopffaa
set_option linter.unusedVariables false
set_option linter.unusedSimpArgs false
open Go.RowKit Pm
/-- the strings one behind the other -/
def cat (ss : List ByteArray) : ByteArray := ss.foldl (· ++ ·) ByteArray.empty
theorem cat_snoc (ss : List ByteArray) (s : ByteArray) : cat (ss ++ [s]) = cat ss ++ s := by simp [cat, List.foldl_append]
theorem fold_data (ss : List ByteArray) : ∀ acc : ByteArray, (ss.foldl (· ++ ·) acc).data.toList = acc.data.toList ++ (ss.map (fun s => s.data.toList)).flatten := by
  induction ss with
  | nil => intro acc; simp
  | cons x r ih => intro acc; rw [List.foldl_cons, ih, ByteArray.data_append, Array.toList_append]; simp
theorem cat_data (ss : List ByteArray) : (cat ss).data.toList = (ss.map (fun s => s.data.toList)).flatten := by
  rw [cat, fold_data]; rfl
theorem cat_size (ss : List ByteArray) : (cat ss).size = ((ss.map (fun s => s.data.toList)).flatten).length := by
  rw [← cat_data]; rfl
theorem cat_take_le (ss : List ByteArray) (j : Nat) : (cat (ss.take j)).size ≤ (cat ss).size := by
  rw [cat_size, cat_size]
  have h := flat_le (ss.map (fun s => s.data.toList)) j
  rw [← List.map_take] at h
  exact h
set_option maxHeartbeats 1000000 in
set_option maxRecDepth 100000 in
theorem writes_out (t : ByteArray) (off : Int) (A : Option Addr) (cc : Nat) (ss : List ByteArray) (n : Nat) (w : World) (hn : ss.length = n) (ha : StrsAt w A ss) (ht : t.size ≤ 134217728) (hs : (cat ss).size ≤ 1048576) (hl : n ≤ 1048576) (hss : ∀ s ∈ ss, s.size ≤ 1048576) (ho : -9223372036854775808 ≤ off ∧ off ≤ 9223372036854775807) (hi : insF t.size off ((cat ss).size : Int) = false) :
    Calls Try.prog 4 #[.string t, .int .i64 off, .slice A n cc] w fun e w' => e = .returned (.bool true) ∧ Below w.heap.size w w' := by
  replace hi := Lib.hid hi
  go_enter Try.func4, Try.ntmps4
  go_wp2_with fail
  refine (made_any t w ht).mono ?_
  rintro e w' ⟨rfl, hM⟩
  replace hM := Lib.hid hM
  go_wp2_with fail
  go_loopw [8, 24] (fun sv i wr => ∃ j : Nat, j ≤ n ∧ i = .int .i64 j ∧ sv = .string (cat (ss.take j)) ∧ MS w (w.heap.size + 1) w.heap.size t.data.toList t.size wr) (fun _ i _ => (n - (intOf i).toNat))
  case atStart => exact ⟨0, by omega, rfl, rfl, hM.out⟩
  case round =>
    obtain ⟨j, hj, rfl, rfl, hMr⟩ := hrel
    replace hMr := Lib.hid hMr
    by_cases hlt : j < n
    · obtain ⟨s, hsj⟩ : ∃ s, Hid (ss[j]? = some s) := ⟨_, List.getElem?_eq_getElem (by rw [hn]; exact hlt)⟩
      obtain ⟨g, o, rfl, hc⟩ := ha j s hsj.out
      replace hc : wr.cell? ⟨g, o + j, none⟩ = _ := (hMr.out.below.cell (p := ⟨g, o + j, none⟩) (World.block_lt_of_cell? w _ hc)).trans hc
      have hcat : Hid (cat (ss.take (j + 1)) = cat (ss.take j) ++ s) := by unfold Hid; rw [List.take_add_one, hsj.out]; exact cat_snoc _ _
      have hsz : Hid ((cat (ss.take (j + 1))).size ≤ 1048576) := Nat.le_trans (cat_take_le ss (j + 1)) hs
      obtain ⟨acc, hacc⟩ : ∃ a, Hid (a = cat (ss.take j)) := ⟨_, rfl⟩
      rw [← hacc.out]
      have hle : acc.size + s.size ≤ 1048576 := by
        have h := hsz.out
        rw [hcat.out, ← hacc.out, ByteArray.size_append] at h
        exact h
      go_wp2_with fail
      go_roundw
      case rel => exact ⟨j + 1, by omega, by go_num, by rw [hcat.out, hacc.out], hMr.out⟩
      case measure => simp [intOf]; omega
    · obtain rfl : j = n := by omega
      rw [← hn, List.take_length, hn]
      go_wp2_with fail
      obtain ⟨S, hS⟩ : ∃ S, Hid (S = cat ss) := ⟨_, rfl⟩
      rw [← hS.out]
      rw [← hS.out] at hi hs
      have hqs : w.heap.size < wr.heap.size := hMr.out.mem.dat.lt
      refine (bytes_to A cc ss j wr hn (fun i s hi => by
        obtain ⟨g, o, e, hc⟩ := ha i s hi
        exact ⟨g, o, e, (hMr.out.below.cell (p := ⟨g, o + i, none⟩) (World.block_lt_of_cell? w _ hc)).trans hc⟩) (by omega) (fun s hm => by have := hss s hm; omega)).mono ?_
      rintro e w1 ⟨g, cap, rfl, hb1, hp1⟩
      have hM1 := hMr.out.keep hb1
      have hps := hp1 _ hqs
      have hfl : ((ss.map (fun s => s.data.toList)).flatten).length = S.size := by rw [hS.out]; exact (cat_size ss).symm
      have hw := write_out hM1.mem off _ cap _ hps (by rw [List.length_map]; omega) (by rw [hfl]; omega) (by rw [hfl]; exact hi.out)
      rw [List.length_map, hn] at hw
      replace hM1 := Lib.hid hM1
      replace hw := Lib.hid hw
      clear hps hp1
      go_wp2_with fail
      refine hw.out.mono ?_
      rintro e w2 ⟨rfl, rfl⟩
      go_wp2_with (go_at_call 19; (with_reducible refine (lins_to t.size off _ false hi.out _ (by omega)).mono ?_); rintro e w' ⟨rfl, rfl⟩)
      refine (ms_read_in hM1.out 0 t.size (by omega)).mono ?_
      rintro e w3 ⟨rfl, hM3, hb3, hB3⟩
      rw [List.drop_zero, List.take_of_length_le (by simp)] at hb3
      obtain ⟨gl, hgl⟩ : ∃ g, Hid (g = w1.heap.size) := ⟨_, rfl⟩
      rw [← hgl.out] at hb3
      rw [← hgl.out]
      have cx := conv_bytes w3 gl t.size t.size _ t rfl (by simp) hb3
      replace hM3 := Lib.hid hM3
      clear hb3 hB3
      go_wp2_with fail
      refine (twice_to t S off _ ht hs ho).mono ?_
      rintro e w4 ⟨rfl, hb4⟩
      have hB4 := Below.then hM3.out.below hb4
      replace hB4 := Lib.hid hB4
      go_wp2_with fail
      go_ret
      exact ⟨rfl, hB4.out⟩
set_option maxHeartbeats 1000000 in
set_option maxRecDepth 100000 in
theorem writes_in (t : ByteArray) (off : Nat) (A : Option Addr) (cc : Nat) (ss : List ByteArray) (n : Nat) (w : World) (hn : ss.length = n) (ha : StrsAt w A ss) (ht : t.size ≤ 134217728) (hs : (cat ss).size ≤ 1048576) (hl : n ≤ 1048576) (hss : ∀ s ∈ ss, s.size ≤ 1048576) (hi : off + (cat ss).size ≤ t.size) :
    Calls Try.prog 4 #[.string t, .int .i64 off, .slice A n cc] w fun e w' => e = .returned (.bool true) ∧ Below w.heap.size w w' := by
  replace hi := Lib.hid hi
  go_enter Try.func4, Try.ntmps4
  go_wp2_with fail
  refine (made_any t w ht).mono ?_
  rintro e w' ⟨rfl, hM⟩
  replace hM := Lib.hid hM
  go_wp2_with fail
  go_loopw [8, 24] (fun sv i wr => ∃ j : Nat, j ≤ n ∧ i = .int .i64 j ∧ sv = .string (cat (ss.take j)) ∧ MS w (w.heap.size + 1) w.heap.size t.data.toList t.size wr) (fun _ i _ => (n - (intOf i).toNat))
  case atStart => exact ⟨0, by omega, rfl, rfl, hM.out⟩
  case round =>
    obtain ⟨j, hj, rfl, rfl, hMr⟩ := hrel
    replace hMr := Lib.hid hMr
    by_cases hlt : j < n
    · obtain ⟨s, hsj⟩ : ∃ s, Hid (ss[j]? = some s) := ⟨_, List.getElem?_eq_getElem (by rw [hn]; exact hlt)⟩
      obtain ⟨g, o, rfl, hc⟩ := ha j s hsj.out
      replace hc : wr.cell? ⟨g, o + j, none⟩ = _ := (hMr.out.below.cell (p := ⟨g, o + j, none⟩) (World.block_lt_of_cell? w _ hc)).trans hc
      have hcat : Hid (cat (ss.take (j + 1)) = cat (ss.take j) ++ s) := by unfold Hid; rw [List.take_add_one, hsj.out]; exact cat_snoc _ _
      have hsz : Hid ((cat (ss.take (j + 1))).size ≤ 1048576) := Nat.le_trans (cat_take_le ss (j + 1)) hs
      obtain ⟨acc, hacc⟩ : ∃ a, Hid (a = cat (ss.take j)) := ⟨_, rfl⟩
      rw [← hacc.out]
      have hle : acc.size + s.size ≤ 1048576 := by
        have h := hsz.out
        rw [hcat.out, ← hacc.out, ByteArray.size_append] at h
        exact h
      go_wp2_with fail
      go_roundw
      case rel => exact ⟨j + 1, by omega, by go_num, by rw [hcat.out, hacc.out], hMr.out⟩
      case measure => simp [intOf]; omega
    · obtain rfl : j = n := by omega
      rw [← hn, List.take_length, hn]
      go_wp2_with fail
      obtain ⟨S, hS⟩ : ∃ S, Hid (S = cat ss) := ⟨_, rfl⟩
      rw [← hS.out]
      rw [← hS.out] at hi hs
      have hqs : w.heap.size < wr.heap.size := hMr.out.mem.dat.lt
      refine (bytes_to A cc ss j wr hn (fun i s hi => by
        obtain ⟨g, o, e, hc⟩ := ha i s hi
        exact ⟨g, o, e, (hMr.out.below.cell (p := ⟨g, o + i, none⟩) (World.block_lt_of_cell? w _ hc)).trans hc⟩) (by omega) (fun s hm => by have := hss s hm; omega)).mono ?_
      rintro e w1 ⟨g, cap, rfl, hb1, hp1⟩
      have hM1 := hMr.out.keep hb1
      have hps := hp1 _ hqs
      have hfl : ((ss.map (fun s => s.data.toList)).flatten).length = S.size := by rw [hS.out]; exact (cat_size ss).symm
      have hit : Hid (insF t.size off (S.size : Int) = true) := ins_true (by omega) (by omega) (by have := hi.out; omega)
      have hi0 := hi.out
      have hw := write_in hM1.mem off _ cap _ hps (by rw [List.length_map]; omega) (by rw [hfl]; exact hi.out)
      rw [List.length_map, hn] at hw
      replace hM1 := Lib.hid hM1
      replace hw := Lib.hid hw
      clear hps hp1
      have f2 : IntKind.i64.wrap ((off : Int) + (S.size : Int)) = off + S.size := IntWalk.i64_in _ (by omega)
      go_wp2_with fail
      refine hw.out.mono ?_
      rintro e w2 ⟨rfl, hm2, ht2⟩
      replace hM1 := Lib.hid (hM1.out.wrote hm2 ht2)
      clear hm2 hw
      go_wp2_with (go_at_call 19; (with_reducible refine (lins_to t.size off _ true hit.out _ (by omega)).mono ?_); rintro e w' ⟨rfl, rfl⟩)
      have i1 : (0 : Int) ≤ off := by omega
      have i2 : (off : Int) ≤ t.size := by omega
      have i3 : (off : Int) + S.size ≤ t.size := by omega
      have i4 : (0 : Int) ≤ off + S.size := by omega
      have i5 : ¬ (off : Int) + S.size < 0 := by omega
      go_quiet (fail)
      go_wp2_with fail
      obtain ⟨X, hX0⟩ : ∃ X, Hid (X = splice t.data.toList off (ss.map (fun s => s.data.toList)).flatten) := ⟨_, rfl⟩
      rw [← hX0.out] at hM1
      have hXl : X.length = t.size := by rw [hX0.out, splice_len _ _ _ (by rw [hfl]; simpa using hi0)]; simp
      refine (ms_read_in (hM1.out.drewN _) 0 t.size (by omega)).mono ?_
      rintro e w3 ⟨rfl, hM3, hb3, hB3⟩
      rw [List.drop_zero, List.take_of_length_le (by omega)] at hb3
      obtain ⟨gl, hgl⟩ : ∃ g, Hid (g = (w2.drewN nq).heap.size) := ⟨_, rfl⟩
      rw [← hgl.out] at hb3
      rw [← hgl.out]
      have hX : Hid ((t.extract 0 off ++ S ++ t.extract (off + S.size) t.size).data.toList = X) := by
        unfold Hid
        rw [hX0.out, ByteArray.data_append, ByteArray.data_append]
        simp only [Array.toList_append, Lib.extract_data]
        have hSd : (ss.map (fun s => s.data.toList)).flatten = S.data.toList := by rw [hS.out]; exact (cat_data ss).symm
        rw [hSd]
        simp [splice]
        rw [List.take_of_length_le (by simp)]
      have cx := conv_bytes w3 gl t.size t.size _ _ hX.out hXl hb3
      replace hM3 := Lib.hid hM3
      replace hXl := Lib.hid hXl
      clear hb3 hB3
      go_wp2_with fail
      refine (twice_to t S off _ ht hs (by omega)).mono ?_
      rintro e w4 ⟨rfl, hb4⟩
      have hB4 := Below.then hM3.out.below hb4
      replace hB4 := Lib.hid hB4
      go_wp2_with fail
      go_ret
      exact ⟨rfl, hB4.out⟩
theorem writes_all (t : ByteArray) (off : Int) (A : Option Addr) (cc : Nat) (ss : List ByteArray) (n : Nat) (w : World) (hn : ss.length = n) (ha : StrsAt w A ss) (ht : t.size ≤ 134217728) (hs : (cat ss).size ≤ 1048576) (hl : n ≤ 1048576) (hss : ∀ s ∈ ss, s.size ≤ 1048576) (ho : -9223372036854775808 ≤ off ∧ off ≤ 9223372036854775807) :
    Calls Try.prog 4 #[.string t, .int .i64 off, .slice A n cc] w fun e w' => e = .returned (.bool true) ∧ Below w.heap.size w w' := by
  cases hi : insF t.size off ((cat ss).size : Int) with
  | false => exact writes_out t off A cc ss n w hn ha ht hs hl hss ho hi
  | true =>
    obtain ⟨h1, h2, h3⟩ := (insF_iff _ _ _).1 hi
    obtain ⟨o, rfl⟩ := Int.eq_ofNat_of_zero_le h1
    exact writes_in t o A cc ss n w hn ha ht hs hl hss (by omega)
end Go.Proofs.Ytkchhggbiopffaa
