/- What is proved here: the contract of the law's own ends. Conditions: a memory and a reference memory of the same bytes. -/
import Derived.Test.YtkchhggbiopffaaPEnds
namespace Go.Proofs.Ytkchhggbiopffaa
set_option linter.unusedVariables false
set_option linter.unusedSimpArgs false
open Go.RowKit Pm
theorem ends_nil (rv : Value) (w : World) : Calls Try.prog 32 #[.pointer none, rv] w fun e w' => e = .returned (.bool true) ∧ Below w.heap.size w w' := by
  go_enter Try.func32, Try.ntmps32
  go_wp2_with fail
  go_ret
  exact ⟨rfl, Below.refl _ _⟩
section
variable {w w' : World} {p q r : Nat} {L : List UInt8} {n : Nat} {V : Value} {A : List ActV}
set_option maxHeartbeats 1000000 in
set_option maxRecDepth 100000 in
theorem ends_few (h : Pair w p q r L n V A) (hn : n ≤ 2048) : Calls Try.prog 32 #[.pointer (some ⟨p, 0, none⟩), .pointer (some ⟨r, 0, none⟩)] w fun e w' => e = .returned (.bool true) ∧ Below w.heap.size w w' := by
  have r0 := h.r0
  have hB : Below w.heap.size w w := Below.refl _ _
  have hP := Lib.hid h
  replace h := Lib.hid h
  replace hB := Lib.hid hB
  go_enter Try.func32, Try.ntmps32
  go_wp2_with (go_at_call 31; (first | with_reducible refine (plays_len hP.out).mono ?_ | with_reducible refine (plays_read hP.out _ _).mono ?_); rintro e w2 ⟨rfl, hb2⟩; replace hP := Lib.hid (hP.out.keep hb2); have r0 := hP.out.r0; replace hB := Lib.hid (Below.then hB.out hb2); clear hb2)
  go_ret
  exact ⟨rfl, hB.out⟩
set_option maxHeartbeats 1000000 in
set_option maxRecDepth 100000 in
theorem ends_many (h : Pair w p q r L n V A) (hn : 2048 < n) (hA : A.length ≤ 100000000000) : Calls Try.prog 32 #[.pointer (some ⟨p, 0, none⟩), .pointer (some ⟨r, 0, none⟩)] w fun e w' => e = .returned (.bool true) ∧ Below w.heap.size w w' := by
  have r0 := h.r0
  have r1 := h.ref.c1
  have hn' : (2048 : Int) < n := by omega
  obtain ⟨ln, hln⟩ : ∃ n, A.length = n := ⟨_, rfl⟩
  have hV : ∃ A0 cap, V = .slice A0 ln cap := by
    rcases h.ref.row.2 with ⟨rfl, h0⟩ | ⟨g, cap, cur, rfl, h1, h2, h3, h4, _⟩
    · exact ⟨none, 0, by rw [← hln, h0]⟩
    · exact ⟨_, cap, by rw [hln]⟩
  obtain ⟨A0, cap, rfl⟩ := hV
  rw [hln] at hA
  have hB0 : Below w.heap.size w w := Below.refl _ _
  replace h := Lib.hid h
  go_enter Try.func32, Try.ntmps32
  go_wp2_with fail
  go_loopw [21] (fun iv wr => ∃ j : Nat, j ≤ ln ∧ iv = .int .i64 j ∧ Hid (Below w.heap.size w wr)) (fun iv _ => (ln - intOf iv).toNat)
  case atStart => exact ⟨0, by omega, rfl, hB0⟩
  case round =>
    obtain ⟨j, hj, rfl, hB⟩ := hrel
    have hP := Lib.hid (h.out.keep hB.out)
    by_cases hlt : j < ln
    · obtain ⟨a, ha⟩ : ∃ a, Hid (A[j]? = some a) := ⟨_, List.getElem?_eq_getElem (by omega)⟩
      obtain ⟨g, cap', hVe, hcs⟩ := hP.out.ref.act j a ha.out
      obtain ⟨rfl, -, rfl⟩ : A0 = some ⟨g, 0, none⟩ ∧ ln = A.length ∧ cap = cap' := by simpa using hVe
      clear hVe
      have hok := h.out.ref.ok a (List.mem_of_getElem? ha.out)
      obtain ⟨hk, hsp, hfm, htx⟩ := hok
      obtain ⟨k, off, m, src, b, s⟩ := a
      simp only at hk hsp hfm htx
      have c0 := hcs 0 _ rfl
      have c1 := hcs 1 _ rfl
      have c2 := hcs 2 _ rfl
      have c3 := hcs 3 _ rfl
      have c4 := hcs 4 _ rfl
      have c5 := hcs 5 _ rfl
      simp only [Nat.add_zero] at c0
      have hO := Blk.new wr #[.int .i64 k, .int .i64 off, .int .i64 m, .int .i64 src, .int .u8 (b.toNat : Int), .string s] 85
      have hB1 := hB.out.alloc hB.out.size (.cells #[.int .i64 k, .int .i64 off, .int .i64 m, .int .i64 src, .int .u8 (b.toNat : Int), .string s] 85)
      have hP1 := hP.out.alloc (.cells #[.int .i64 k, .int .i64 off, .int .i64 m, .int .i64 src, .int .u8 (b.toNat : Int), .string s] 85)
      clear hk hfm htx hcs
      go_upto_region 9 with (fail)
      clear c0 c1 c2 c3 c4 c5
      obtain ⟨ob, hob⟩ : ∃ ob, Hid (ob = wr.heap.size) := ⟨_, rfl⟩
      rw [← hob.out] at hO
      rw [← hob.out]
      generalize World.alloc wr _ = wz at hO hB1 hP1 ⊢
      have o1 : wz.cell? ⟨ob, 1, none⟩ = some (.int .i64 off) := hO.cell 1
      have o2 : wz.cell? ⟨ob, 2, none⟩ = some (.int .i64 m) := hO.cell 2
      have a1 := Lib.hid (around_any hP1 off (by omega))
      have a2 := Lib.hid (fun (w2 : World) (hb : Below wz.heap.size wz w2) => around_any (hP1.keep hb) (off + m) (by omega))
      have f1 : IntKind.i64.wrap ((off : Int) + (m : Int)) = ((off + m : Nat) : Int) := by rw [IntWalk.i64_in _ (by omega)]; omega
      replace hB1 := Lib.hid hB1
      replace hO := Lib.hid hO
      clear hP1
      go_wp2_with fail
      refine a1.out.mono ?_
      rintro e w2 ⟨rfl, hb2⟩
      have o3 : w2.cell? ⟨ob, 1, none⟩ = some (.int .i64 off) := (hO.out.keep hb2).cell 1
      have o4 : w2.cell? ⟨ob, 2, none⟩ = some (.int .i64 m) := (hO.out.keep hb2).cell 2
      have a3 := Lib.hid (a2.out w2 hb2)
      have hB2 := Lib.hid (Below.then hB1.out hb2)
      clear hb2
      go_wp2_with fail
      refine a3.out.mono ?_
      rintro e w3 ⟨rfl, hb3⟩
      have hB3 := Lib.hid (Below.then hB2.out hb3)
      clear hb3
      go_wp2_with fail
      go_roundw
      case rel => exact ⟨j + 1, by omega, by go_num, hB3.out⟩
      case measure => simp [intOf]; omega
    · obtain rfl : j = ln := by omega
      have r0 := hP.out.r0
      go_wp2_with (go_at_call 31; (first | with_reducible refine (plays_len hP.out).mono ?_ | with_reducible refine (plays_read hP.out _ _).mono ?_); rintro e w2 ⟨rfl, hb2⟩; replace hP := Lib.hid (hP.out.keep hb2); have r0 := hP.out.r0; replace hB := Lib.hid (Below.then hB.out hb2); clear hb2)
      go_ret
      exact ⟨rfl, hB.out⟩
theorem ends_any (h : Pair w p q r L n V A) (hA : A.length ≤ 100000000000) : Calls Try.prog 32 #[.pointer (some ⟨p, 0, none⟩), .pointer (some ⟨r, 0, none⟩)] w fun e w' => e = .returned (.bool true) ∧ Below w.heap.size w w' := by
  by_cases hn : n ≤ 2048
  · exact ends_few h hn
  · exact ends_many h (by omega) hA
end
end Go.Proofs.Ytkchhggbiopffaa
