/- What is proved here: the contract of the law's own once at a Read. Conditions: a memory and a book apart from it. -/
import Derived.Test.YtkchhggbiopffaaQWrite
namespace Go.Proofs.Ytkchhggbiopffaa
set_option linter.unusedVariables false
set_option linter.unusedSimpArgs false
open Go.RowKit Pm
theorem nil_eq (w : World) : (binOp .eql 27 (.slice none 0 0) (.slice none 0 0)).run Try.prog w = .ok (.bool true) w := by kernel_rfl
section
variable {w0 w w' : World} {p q n : Nat} {L : List UInt8} {V : Value} {B : List PageV}
set_option maxHeartbeats 2000000 in
set_option maxRecDepth 100000 in
theorem once_read_out (h : Lst w0 w p q n L V B) (mm a b nn : Int) (v : Nat) (P : Value) (hi : insF n a nn = false) :
    Calls Try.prog 28 #[.pointer (some ⟨p, 0, none⟩), .agg (opv 8 mm a b nn v P), V] w (Onced w0 p B) := by
  have hX := h.keep ((Below.refl _ _).alloc (Nat.le_refl _) (.cells (opv 8 mm a b nn v P) 59))
  have hO := Blk.new w (opv 8 mm a b nn v P) 59
  obtain ⟨ob, hob⟩ : ∃ ob, Hid (ob = w.heap.size) := ⟨_, rfl⟩
  rw [← hob.out] at hO
  have hn : n ≤ 9223372036854775807 := by have := h.mem.le; have := h.mem.cap; omega
  replace h := Lib.hid h
  replace hi := Lib.hid hi
  go_enter Try.func28, Try.ntmps28
  unfold opv at hX hO ⊢
  go_upto_region 1 with (fail)
  rw [← hob.out]
  generalize World.alloc w _ = wz at hX hO ⊢
  replace hX := Lib.hid hX
  obtain ⟨q1, q2, q3, q4, q5, q6⟩ := opblk hO
  go_upto_region 14 with (go_at_call 15; (with_reducible refine (read_out hX.out.mem a nn hi.out).mono ?_); rintro e w' ⟨rfl, rfl⟩)
  replace hX := Lib.hid (hX.out.keep (Below.refl _ _).drew)
  go_region_held3 (fun w' => w'.cell? ⟨ob, 0, none⟩ = some (.int .i64 8) ∧ w'.cell? ⟨ob, 2, none⟩ = some (.int .i64 a) ∧ w'.cell? ⟨ob, 3, none⟩ = some (.int .i64 b) ∧ w'.cell? ⟨ob, 4, none⟩ = some (.int .i64 nn) ∧ w'.cell? ⟨ob, 5, none⟩ = some (.int .u64 v) ∧ w'.cell? ⟨ob, 6, none⟩ = some P)
    (first | exact opblk hO | exact opblk hO.drew | exact ⟨by assumption, by assumption, by assumption, by assumption, by assumption, by assumption⟩ | go_keep)
    ((first
      | (go_at_call 14; (first | with_reducible refine (len_any hX.out.mem).mono ?_ | with_reducible refine (len_any hX.out.mem.drew).mono ?_ | with_reducible refine (len_any (hX.out.mem.drewN _)).mono ?_); rintro e w' ⟨rfl, rfl⟩)
      | (go_at_call 19; (with_reducible refine (lins_to n a nn false hi.out _ hn).mono ?_); rintro e w' ⟨rfl, rfl⟩)))
  have y0 := nil_eq
  go_wp2_with fail
  go_ret2
  exact ⟨q, n, L, V, B, rfl, hX.out.keep (by first | exact Below.refl _ _ | exact (Below.refl _ _).drew | exact below_drewN (Below.refl _ _) _), by omega, by omega⟩
end
end Go.Proofs.Ytkchhggbiopffaa
