/- What is proved here: a string turned into bytes, as a step; the contracts of the laws' own made and at. Conditions: sizes of a memory. -/
import Derived.Test.YtkchhggbiopffaaMSix
import Derived.Lib.ConvBytes
namespace Go.Proofs.Ytkchhggbiopffaa
set_option linter.unusedVariables false
set_option linter.unusedSimpArgs false
open Go.RowKit Pm
section
variable {w : World} {ops : Array Oper} {rest : List Oper} {o : Oper} {a : Act} {Q : Exit → Act → World → Prop}
theorem bytes_below (w : World) (e : TypeId) (s : ByteArray) : Below w.heap.size w (Lib.bytesWorld w e s) :=
  ⟨by unfold Lib.bytesWorld World.freeze; rw [if_neg (by decide)]; rfl, by unfold Lib.bytesWorld World.freeze; rw [if_neg (by decide)]; rfl, by unfold Lib.bytesWorld World.freeze; rw [if_neg (by decide)]; rfl, by rw [Lib.bytesWorld_size]; omega, fun k hk => Lib.bytesWorld_at_old w e s k hk⟩
theorem bytes_cells (w : World) (s : ByteArray) (j : Nat) (b : UInt8) (h : s.data.toList[j]? = some b) : (Lib.bytesWorld w 5 s).cell? ⟨w.heap.size, j, none⟩ = some (.int .u8 (b.toNat : Int)) := by
  have hj : j < s.size := by have := (List.getElem?_eq_some_iff.1 h).1; simpa using this
  rw [Lib.bytesWorld_cell w _ s j hj]
  rw [List.getD, h]; rfl
theorem bytes_free (w : World) (s : ByteArray) (j : Nat) (hj : j < s.size) : (Lib.bytesWorld w 5 s).frozen? ⟨w.heap.size, j, none⟩ = false := by
  have hs : s.size ≤ (Lib.bytesCells w 5 s).size := by simp [Lib.bytesCells]
  simp only [World.frozen?, Lib.bytesWorld_at_new]
  simp; omega
/-- []byte(s) -/
theorem wpList_to_bytes (hg : o.guard = none) (x : Operand) (hop : o.op = Op.convert 9 27 x) (s : ByteArray) (hx : a.eval x = .string s)
    (h : ∀ w' c, w'.heap.size = w.heap.size + 1 → Below w.heap.size w w' → (∀ j b, s.data.toList[j]? = some b → w'.cell? ⟨w.heap.size, j, none⟩ = some (.int .u8 (b.toNat : Int))) → (∀ j, j < s.size → w'.frozen? ⟨w.heap.size, j, none⟩ = false) →
      wpList Try.prog ops Q rest (a.put o.dst (.slice (some ⟨w.heap.size, 0, none⟩) s.size c)) w') : wpList Try.prog ops Q (o :: rest) a w := by
  refine wpList_plain hg fun K hK' => ?_
  have hr := Lib.run_convert_string_bytes (P := Try.prog) w 9 27 5 s Try.underlying9 Try.underlying27 Try.underlying5
  unfold Oper.wp
  simp [execOp, hop, hx, hr, Result.andThen]
  exact hK' _ _ (h _ _ (Lib.bytesWorld_size _ _ _) (bytes_below _ _ _) (bytes_cells w s) (bytes_free w s))
end
set_option maxHeartbeats 1000000 in
set_option maxRecDepth 100000 in
theorem made_any (s : ByteArray) (w : World) (hs : s.size ≤ 134217728) : Calls Try.prog 16 #[.int .i64 0, .string s] w fun e w' => e = .returned (.pointer (some ⟨w.heap.size + 1, 0, none⟩)) ∧ MS w (w.heap.size + 1) w.heap.size s.data.toList s.size w' := by
  go_enter Try.func16, Try.ntmps16
  go_wp2_with fail
  refine (new_yes s.size _ hs).mono ?_
  rintro e w1 ⟨rfl, hm, hb⟩
  have hsz : w.heap.size + 1 < w1.heap.size := hm.ptr.lt
  have HM := Lib.hid hm
  clear hm
  replace hb := Lib.hid hb
  have hsp : Hid (splice (List.replicate s.size (0 : UInt8)) 0 s.data.toList = s.data.toList) := splice_whole _ _ (by simp)
  go_wp2_with (first | (go_at_call 14; (with_reducible refine (len_any HM.out).mono ?_); rintro e w' ⟨rfl, rfl⟩) | ((with_reducible show wpList _ _ _ (⟨some 35, _, _, _, _, _⟩ :: _) _ _); refine wpList_to_bytes rfl (.tmp 34) rfl s rfl ?_; intro w2 c hz2 hb2 hc2 hf2; replace hb2 := Lib.hid hb2; replace hc2 := Lib.hid hc2; replace hf2 := Lib.hid hf2; replace hz2 := Lib.hid hz2))
  have hsz2 : w1.heap.size < w2.heap.size := by have := hz2.out; omega
  have hps : PartsAt (w2.alloc (.cells #[.slice (some ⟨w1.heap.size, 0, none⟩) s.size c] 27)) w.heap.size (some ⟨w2.heap.size, 0, none⟩) [s.data.toList] := by
    intro i t ht
    cases i with
    | zero =>
      obtain rfl : s.data.toList = t := by simpa using ht
      refine ⟨w2.heap.size, 0, _, rfl, by omega, (Blk.new w2 _ _).cell 0, some ⟨w1.heap.size, 0, none⟩, c, by simp, fun _ => ⟨w1.heap.size, 0, rfl, by omega, fun j b hb => ?_⟩⟩
      rw [Nat.zero_add]
      exact ((Below.refl w2.heap.size w2).alloc (Nat.le_refl _) _).cell (p := ⟨w1.heap.size, j, none⟩) hsz2 |>.trans (hc2.out j b hb)
    | succ i => simp at ht
  refine (write_in ((HM.out.keep hb2.out).alloc _) 0 _ _ [s.data.toList] hps (by simp) (by simp)).mono ?_
  rintro e w3 ⟨rfl, hm3, ht3⟩
  rw [show [s.data.toList].flatten = s.data.toList by simp, hsp.out] at hm3
  have hB : Below w.heap.size w w3 := Turns.below (((hb.out.trans (hb2.out.mono (by omega))).alloc (by omega) _)) ht3 (by simp) (by simp; omega)
  replace hm3 := Lib.hid hm3
  go_wp2_with fail
  go_ret
  exact ⟨rfl, hB, hm3.out, by omega, Nat.le_refl _⟩
theorem made_no (s : ByteArray) (w : World) (hs : 134217728 < s.size) (hs2 : s.size ≤ maxLen) : Calls Try.prog 16 #[.int .i64 0, .string s] w fun e w' => e = .returned (.pointer none) ∧ w = w' := by
  unfold maxLen at hs2
  go_enter Try.func16, Try.ntmps16
  go_wp2_with fail
  go_ret
  exact ⟨rfl, rfl⟩
/-- the byte at a place, -1: there is none -/
def atF (L : List UInt8) (n : Nat) (i : Int) : Int := if 0 ≤ i ∧ i < n then ((L.getD i.toNat 0).toNat : Int) else -1
set_option maxRecDepth 100000 in
theorem at_to {w0 w : World} {p q n : Nat} {L : List UInt8} (h : MS w0 p q L n w) (i v : Int) (hv : atF L n i = v) : Calls Try.prog 22 #[.pointer (some ⟨p, 0, none⟩), .int .i64 i] w fun e w' => e = .returned (.int .i64 v) ∧ MS w0 p q L n w' := by
  by_cases hi : 0 ≤ i ∧ i < n
  · obtain ⟨h0, h1⟩ := hi
    obtain ⟨j, rfl⟩ := Int.eq_ofNat_of_zero_le h0
    have hjl : j < L.length := by have := h.mem.le; omega
    have e : Hid (((L[j]'hjl).toNat : Int) = v) := by
      unfold Hid; unfold atF at hv; rw [if_pos ⟨h0, h1⟩] at hv
      rw [← hv]; simp [List.getD, hjl]
    have hone : (L.drop j).take 1 = [L[j]'hjl] := by
      rw [List.drop_eq_getElem_cons hjl]; rfl
    replace hone := Lib.hid hone
    have hlt : (L[j]'hjl).toNat < 256 := (L[j]'hjl).toNat_lt
    obtain ⟨b, hb⟩ : ∃ b, Hid (L[j]'hjl = b) := ⟨_, rfl⟩
    rw [hb.out] at e hone hlt
    replace h := Lib.hid h
    clear hv
    go_enter Try.func22, Try.ntmps22
    go_wp2_with fail
    refine (read_in h.out.mem j 1 (by omega)).mono ?_
    rintro e' w1 ⟨rfl, hbk, hbl⟩
    rw [hone.out] at hbk
    have hc : w1.cell? ⟨w.heap.size, 0, none⟩ = some (.int .u8 (b.toNat : Int)) := hbk.cell 0
    have hM := Lib.hid (h.out.keep hbl)
    replace hbk := Lib.hid hbk
    replace hbl := Lib.hid hbl
    go_wp2_with fail
    go_ret
    exact ⟨ret_int (by rw [← e.out]), hM.out⟩
  · have hr : Hid (-1 = v) := by unfold atF at hv; rw [if_neg hi] at hv; exact hv
    have hn : Hid (insF n i 1 = false) := ins_false (by omega)
    replace h := Lib.hid h
    clear hv hi
    go_enter Try.func22, Try.ntmps22
    go_wp2_with fail
    refine (read_out h.out.mem i 1 hn.out).mono ?_
    rintro e' w1 ⟨rfl, rfl⟩
    go_wp2_with fail
    go_ret
    exact ⟨ret_int hr.out, h.out⟩
end Go.Proofs.Ytkchhggbiopffaa
