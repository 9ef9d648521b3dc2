/- What is proved here: the contract of the laws' own twice. Conditions: strings of a memory's size. -/
import Derived.Test.YtkchhggbiopffaaMParts
import Derived.Test.YtkchhggbiopffaaMEquals
namespace Go.Proofs.Ytkchhggbiopffaa
set_option linter.unusedVariables false
set_option linter.unusedSimpArgs false
open Go.RowKit Pm
/-- one list of bytes, handed in twice -/
theorem twice_parts {W : World} {q g gr c : Nat} {X : List UInt8} (hb : BB W g X c) (hg : g ≠ q) (hr : gr ≠ q) (h0 : W.cell? ⟨gr, 0, none⟩ = some (.slice (some ⟨g, 0, none⟩) X.length c)) (h1 : W.cell? ⟨gr, 1, none⟩ = some (.slice (some ⟨g, 0, none⟩) X.length c)) : PartsAt W q (some ⟨gr, 0, none⟩) [X, X] := by
  have hp : PartAt W q (.slice (some ⟨g, 0, none⟩) X.length c) X := ⟨_, c, rfl, fun _ => ⟨g, 0, rfl, hg, fun j b hj => by rw [Nat.zero_add]; exact hb.cell j b hj⟩⟩
  intro i s hi
  match i, hi with
  | 0, hi => obtain rfl := Option.some.inj hi; exact ⟨gr, 0, _, rfl, hr, h0, hp⟩
  | 1, hi => obtain rfl := Option.some.inj hi; exact ⟨gr, 0, _, rfl, hr, h1, hp⟩
  | i + 2, hi => simp at hi
theorem conv_bb (w : World) (g k c : Nat) (X : List UInt8) (S : ByteArray) (hX : S.data.toList = X) (hl : X.length = k) (hb : BB w g X c) : (convert 27 9 (.slice (some ⟨g, 0, none⟩) k c)).run Try.prog w = .ok (.string S) w := by
  have h := run_convert_bytes_arg (P := Try.prog) w 27 5 Try.underlying27 Try.underlying5 g 0 k c (X.map fun b => (b.toNat : Int)) (by simp [hl]) (fun i hi => by
    rw [Nat.zero_add, hb.cell i X[i] (List.getElem?_eq_getElem (by omega))]
    simp [List.getD, List.getElem?_eq_getElem (show i < X.length by omega)]) 9 Try.underlying9
  rw [h]
  have e : strOfNums (X.map fun b => (b.toNat : Int)) = S := by
    unfold strOfNums
    subst hX
    obtain ⟨⟨l⟩⟩ := S
    have e2 : ((fun n : Int => UInt8.ofNat n.toNat) ∘ fun b : UInt8 => (b.toNat : Int)) = id := by funext b; simp
    simp only [List.map_map, e2, List.map_id]
  rw [e]
set_option maxHeartbeats 1000000 in
set_option maxRecDepth 100000 in
theorem twice_out (t s : ByteArray) (off : Int) (w : World) (ht : t.size ≤ 134217728) (hs : s.size ≤ 1048576) (ho : -9223372036854775808 ≤ off ∧ off ≤ 9223372036854775807) (hi : insF t.size off (2 * s.size : Int) = false) :
    Calls Try.prog 20 #[.string t, .int .i64 off, .string s] w fun e w' => e = .returned (.bool true) ∧ Below w.heap.size w w' := by
  replace hi := Lib.hid hi
  have f1 : IntKind.i64.wrap (2 * (s.size : Int)) = 2 * s.size := IntWalk.i64_in _ (by omega)
  go_enter Try.func20, Try.ntmps20
  go_wp2_with fail
  refine (made_any t w ht).mono ?_
  rintro e w' ⟨rfl, hM⟩
  replace hM := Lib.hid hM
  go_wp2_with ((with_reducible show wpList _ _ _ (⟨some 18, _, _, _, _, _⟩ :: _) _ _); refine wpList_to_bytes2 rfl (.tmp 17) rfl s rfl ?_; intro w1 c1 hz1 hb1 hB1; replace hB1 := Lib.hid hB1; replace hb1 := Lib.hid hb1; replace hz1 := Lib.hid hz1)
  have hsz := hM.out.below.size
  have hqs : w.heap.size < w'.heap.size := by exact hM.out.mem.dat.lt
  have hb2 := below_new w1 (.cells #[.slice (some ⟨w'.heap.size, 0, none⟩) s.size c1, .slice (some ⟨w'.heap.size, 0, none⟩) s.size c1] 27)
  have hM1 := (hM.out.keep hb1.out).keep hb2
  have hr := Blk.new w1 #[.slice (some ⟨w'.heap.size, 0, none⟩) s.size c1, .slice (some ⟨w'.heap.size, 0, none⟩) s.size c1] 27
  have hps := twice_parts (q := w.heap.size) (hB1.out.keep hb2) (by omega) (by have := hz1.out; omega) (hr.cell 0) (hr.cell 1)
  refine (write_out hM1.mem off _ 2 _ hps (by simp) (by simp; omega) (by rw [show ((([s.data.toList, s.data.toList].flatten).length : Nat) : Int) = 2 * s.size by simp; omega]; exact hi.out)).mono ?_
  rintro e w2 ⟨rfl, rfl⟩
  replace hM1 := Lib.hid hM1
  clear hps hr hM
  go_wp2_with (go_at_call 19; (with_reducible refine (lins_to t.size off _ false hi.out _ (by omega)).mono ?_); rintro e w' ⟨rfl, rfl⟩)
  refine (ms_read_in hM1.out 0 t.size (by omega)).mono ?_
  rintro e w3 ⟨rfl, hM3, hb3, hB3⟩
  rw [show ∀ o, (w1.alloc o).heap.size = w1.heap.size + 1 from fun o => by simp] at hb3
  have hBs := (hB1.out.keep hb2).keep hB3
  rw [List.drop_zero, List.take_of_length_le (by simp)] at hb3
  have cx := conv_bytes w3 (w1.heap.size + 1) t.size t.size _ t rfl (by simp) hb3
  have cy := conv_bb w3 w'.heap.size s.size c1 _ s rfl (by simp) hBs
  replace hM3 := Lib.hid hM3
  clear hb3 hBs hB3
  go_wp2_with fail
  go_ret
  exact ⟨ret_bool (by simp), hM3.out.below⟩
set_option maxHeartbeats 1000000 in
set_option maxRecDepth 100000 in
theorem twice_in (t s : ByteArray) (off : Nat) (w : World) (ht : t.size ≤ 134217728) (hs : s.size ≤ 1048576) (hi : off + 2 * s.size ≤ t.size) :
    Calls Try.prog 20 #[.string t, .int .i64 off, .string s] w fun e w' => e = .returned (.bool true) ∧ Below w.heap.size w w' := by
  have hit : Hid (insF t.size off (2 * s.size : Int) = true) := ins_true (by omega) (by omega) (by omega)
  have f1 : IntKind.i64.wrap (2 * (s.size : Int)) = 2 * s.size := IntWalk.i64_in _ (by omega)
  have f2 : IntKind.i64.wrap ((off : Int) + 2 * (s.size : Int)) = off + 2 * s.size := IntWalk.i64_in _ (by omega)
  go_enter Try.func20, Try.ntmps20
  go_wp2_with fail
  refine (made_any t w ht).mono ?_
  rintro e w' ⟨rfl, hM⟩
  replace hM := Lib.hid hM
  go_wp2_with ((with_reducible show wpList _ _ _ (⟨some 18, _, _, _, _, _⟩ :: _) _ _); refine wpList_to_bytes2 rfl (.tmp 17) rfl s rfl ?_; intro w1 c1 hz1 hb1 hB1; replace hB1 := Lib.hid hB1; replace hb1 := Lib.hid hb1; replace hz1 := Lib.hid hz1)
  have hsz := hM.out.below.size
  have hqs : w.heap.size < w'.heap.size := by exact hM.out.mem.dat.lt
  have hb2 := below_new w1 (.cells #[.slice (some ⟨w'.heap.size, 0, none⟩) s.size c1, .slice (some ⟨w'.heap.size, 0, none⟩) s.size c1] 27)
  have hM1 := (hM.out.keep hb1.out).keep hb2
  have hr := Blk.new w1 #[.slice (some ⟨w'.heap.size, 0, none⟩) s.size c1, .slice (some ⟨w'.heap.size, 0, none⟩) s.size c1] 27
  have hBa := hB1.out.keep hb2
  have hps := twice_parts (q := w.heap.size) hBa (by omega) (by have := hz1.out; omega) (hr.cell 0) (hr.cell 1)
  refine (write_in hM1.mem off _ 2 _ hps (by simp) (by simp; omega)).mono ?_
  rintro e w2 ⟨rfl, hm2, ht2⟩
  replace hM1 := Lib.hid (hM1.wrote hm2 ht2)
  have hB2 : BB w2 w'.heap.size s.data.toList c1 := hBa.at (ht2.block _ hBa.lt (by simp; omega))
  replace hB2 := Lib.hid hB2
  have hz2 : Hid (w2.heap.size = w2.heap.size) := rfl
  clear hps hr hM hBa hm2
  go_wp2_with (go_at_call 19; (with_reducible refine (lins_to t.size off _ true hit.out _ (by omega)).mono ?_); rintro e w' ⟨rfl, rfl⟩)
  have i1 : (0 : Int) ≤ off := by omega
  have i2 : (off : Int) ≤ t.size := by omega
  have i3 : (off : Int) + 2 * s.size ≤ t.size := by omega
  have i4 : (0 : Int) ≤ off + 2 * s.size := by omega
  have i5 : ¬ (off : Int) + 2 * s.size < 0 := by omega
  go_quiet (fail)
  go_wp2_with fail
  refine (ms_read_in (hM1.out.drewN _) 0 t.size (by omega)).mono ?_
  rintro e w3 ⟨rfl, hM3, hb3, hB3⟩
  rw [List.drop_zero, List.take_of_length_le (by rw [splice_len _ _ _ (by simp; omega)]; simp)] at hb3
  obtain ⟨gl, hgl⟩ : ∃ g, Hid (g = (w2.drewN nq).heap.size) := ⟨_, rfl⟩
  rw [← hgl.out] at hb3
  rw [← hgl.out]
  have hBs := (hB2.out.at (w' := w2.drewN nq) rfl).keep hB3
  have hX : Hid ((t.extract 0 off ++ s ++ s ++ t.extract (off + 2 * s.size) t.size).data.toList = splice t.data.toList off [s.data.toList, s.data.toList].flatten) := by
    unfold Hid
    rw [ByteArray.data_append, ByteArray.data_append, ByteArray.data_append]
    simp only [Array.toList_append, Lib.extract_data]
    simp [splice]
    rw [List.take_of_length_le (by simp)]
    congr 1
    omega
  have cx := conv_bytes w3 gl t.size t.size _ _ hX.out (by rw [splice_len _ _ _ (by simp; omega)]; simp) hb3
  have cy := conv_bb w3 w'.heap.size s.size c1 _ s rfl (by simp) hBs
  replace hM3 := Lib.hid hM3
  clear hb3 hBs hB3
  go_wp2_with fail
  go_ret
  exact ⟨ret_bool (by simp), hM3.out.below⟩
/-- one list, handed in as two parts -/
theorem twice_to (t s : ByteArray) (off : Int) (w : World) (ht : t.size ≤ 134217728) (hs : s.size ≤ 1048576) (ho : -9223372036854775808 ≤ off ∧ off ≤ 9223372036854775807) :
    Calls Try.prog 20 #[.string t, .int .i64 off, .string s] w fun e w' => e = .returned (.bool true) ∧ Below w.heap.size w w' := by
  cases hi : insF t.size off (2 * s.size : Int) with
  | false => exact twice_out t s off w ht hs ho hi
  | true =>
    obtain ⟨h1, h2, h3⟩ := (insF_iff _ _ _).1 hi
    obtain ⟨o, rfl⟩ := Int.eq_ofNat_of_zero_le h1
    exact twice_in t s o w ht hs (by omega)
end Go.Proofs.Ytkchhggbiopffaa
