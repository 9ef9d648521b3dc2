/- What is proved here: the contract of the law's own once at a Write. Conditions: a memory and a book apart from it, a call of bulk at most 1048576. -/
import Derived.Test.YtkchhggbiopffaaQOnce
namespace Go.Proofs.Ytkchhggbiopffaa
set_option linter.unusedVariables false
set_option linter.unusedSimpArgs false
open Go.RowKit Pm
section
variable {w0 w w' : World} {p q n : Nat} {L : List UInt8} {V : Value} {B : List PageV}
theorem strs_keep {A0 : Option Addr} {ss : List ByteArray} (h : StrsAt w A0 ss) (hb : Below w.heap.size w w') : StrsAt w' A0 ss := fun i s hi => by
  obtain ⟨g, o, e, hc⟩ := h i s hi
  exact ⟨g, o, e, (hb.cell (p := ⟨g, o + i, none⟩) (World.block_lt_of_cell? _ _ hc)).trans hc⟩
theorem parts_drewN {PA : Option Addr} {ps : List (List UInt8)} (h : PartsAt w q PA ps) (m : Nat) : PartsAt (w.drewN m) q PA ps := h
theorem write_moved (h : MemAt w p q L n) (off : Int) (PA : Option Addr) (pc : Nat) (ss : List ByteArray) (k : Nat) (hk : ss.length = k) (hps : PartsAt w q PA (ss.map (fun s => s.data.toList))) (hm : k ≤ 1048576) (hT : (cat ss).size ≤ 1048576) :
    Calls Try.prog 17 #[.pointer (some ⟨p, 0, none⟩), .int .i64 off, .slice PA k pc] w (Moved w p q) := by
  have hl : (ss.map (fun s => s.data.toList)).length = k := by simp [hk]
  rw [cat_size] at hT
  obtain ⟨ps, hp⟩ : ∃ ps, ss.map (fun s => s.data.toList) = ps := ⟨_, rfl⟩
  rw [hp] at hl hT hps
  subst hl
  cases hi : insF n off ps.flatten.length with
  | false =>
    refine (write_out h off PA pc ps hps (by omega) (by omega) hi).mono ?_
    rintro e w' ⟨rfl, rfl⟩
    exact ⟨_, q, L, n, rfl, h, Turns.refl _ _, Or.inl rfl⟩
  | true =>
    obtain ⟨h1, h2, h3⟩ := (insF_iff _ _ _).1 hi
    obtain ⟨off', rfl⟩ := Int.eq_ofNat_of_zero_le h1
    refine (write_in h off' PA pc ps hps (by omega) (by omega)).mono ?_
    rintro e w' ⟨rfl, hm, ht⟩
    exact ⟨_, q, _, n, rfl, hm, one_turns (S := []) ht, Or.inl rfl⟩
set_option maxHeartbeats 2000000 in
set_option maxRecDepth 100000 in
theorem once_write (h : Lst w0 w p q n L V B) (mm a b nn : Int) (v : Nat) (A0 : Option Addr) (cc : Nat) (ss : List ByteArray) (k : Nat) (hk : ss.length = k) (hs : StrsAt w A0 ss) (hs1 : (cat ss).size ≤ 1048576) (hs2 : k ≤ 1048576) (hss : ∀ s ∈ ss, s.size ≤ 1048576) :
    Calls Try.prog 28 #[.pointer (some ⟨p, 0, none⟩), .agg (opv 9 mm a b nn v (.slice A0 k cc)), V] w (Onced w0 p B) := by
  have hB0 := (Below.refl w.heap.size w).alloc (Nat.le_refl _) (.cells (opv 9 mm a b nn v (.slice A0 k cc)) 59)
  have hX := h.keep hB0
  have hS := strs_keep hs hB0
  have hO := Blk.new w (opv 9 mm a b nn v (.slice A0 k cc)) 59
  have op : w.heap.size ≠ p := by have := h.mem.ptr.lt; omega
  have oq : w.heap.size ≠ q := by have := h.mem.dat.lt; omega
  obtain ⟨ob, hob⟩ : ∃ ob, Hid (ob = w.heap.size) := ⟨_, rfl⟩
  rw [← hob.out] at hO op oq
  replace h := Lib.hid h
  clear hB0
  go_enter Try.func28, Try.ntmps28
  unfold opv at hX hO hS ⊢
  go_upto_region 1 with (fail)
  rw [← hob.out]
  generalize World.alloc w _ = wz at hX hO hS ⊢
  replace op := Lib.hid op
  replace oq := Lib.hid oq
  replace hk := Lib.hid hk
  replace hss := Lib.hid (fun s hs => Nat.le_trans (hss s hs) (by decide) : ∀ s ∈ ss, s.size ≤ 140737488355326)
  replace hs1 := Lib.hid hs1
  clear hs
  obtain ⟨q1, q2, q3, q4, q5, q6⟩ := opblk hO
  go_upto_region 11 with (fail)
  replace hX := Lib.hid (hX.keep (Below.refl _ _).drew)
  replace hS := Lib.hid (strs_keep hS (Below.refl _ _).drew)
  have hqz := Lib.hid hX.out.mem.dat.lt
  go_region_held3 (fun w' => w'.cell? ⟨ob, 0, none⟩ = some (.int .i64 9) ∧ w'.cell? ⟨ob, 2, none⟩ = some (.int .i64 a) ∧ w'.cell? ⟨ob, 3, none⟩ = some (.int .i64 b) ∧ w'.cell? ⟨ob, 4, none⟩ = some (.int .i64 nn) ∧ w'.cell? ⟨ob, 5, none⟩ = some (.int .u64 v) ∧ w'.cell? ⟨ob, 6, none⟩ = some (.slice A0 k cc))
    (first | exact opblk hO | exact opblk hO.drew | exact ⟨by assumption, by assumption, by assumption, by assumption, by assumption, by assumption⟩ | go_keep)
    ((first
      | (go_at_call 18; (with_reducible refine (bytes_to A0 cc ss k _ hk.out hS.out (by omega) hss.out).mono ?_); rintro e w1 ⟨gp, cp, rfl, hb1, hps⟩; replace hps := Lib.hid (hps q hqz.out); replace hX := Lib.hid (hX.out.keep hb1); replace hO := (hO.drew).keep hb1)
      | (go_at_call 17; (with_reducible refine (write_moved hX.out.mem a _ _ ss k hk.out hps.out hs2 hs1.out).mono ?_); rintro e w2 hm2; obtain ⟨rr, q', L', n', rfl, hmm, htt, hqq⟩ := hm2; have hX2 := Lib.hid (hX.out.step htt (fun x hx => by simpa using hx) hmm hqq); replace hO := hO.turn htt (by simp; exact ⟨op.out, oq.out⟩))))
  all_goals
    go_wp2_with fail
    go_ret2
    exact ⟨q', n', L', V, B, rfl, hX2.out, by omega, by omega⟩
end
end Go.Proofs.Ytkchhggbiopffaa
