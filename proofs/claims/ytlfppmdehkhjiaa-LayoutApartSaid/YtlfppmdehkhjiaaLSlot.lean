/- What is proved here: the contract of the law's own slotApart. Conditions: a right layout, a row of marks that is free from the slot on. -/
import Derived.Test.YtlfppmdehkhjiaaLMark
namespace Go.Proofs.Ytlfppmdehkhjiaa
set_option linter.unusedVariables false
set_option linter.unusedSimpArgs false
open Go.RowKit Pl Ps
/-- marks in block g, a layout in block rb -/
structure SA (w0 : World) (g : Nat) (O : List Bool) (rb : Nat) (cs : Array Value) (w : World) : Prop where
  t : Turns [g] w0 w
  o : Blk w g (bls O) 4
  l : Blk w rb cs 24
  ne : rb ≠ g
section
variable {w0 w w' : World} {g rb : Nat} {O O' : List Bool} {cs : Array Value}
theorem SA.keep (h : SA w0 g O rb cs w) (hb : Below w.heap.size w w') : SA w0 g O rb cs w' := ⟨h.t.thenB hb, h.o.keep hb, h.l.keep hb, h.ne⟩
theorem SA.drew (h : SA w0 g O rb cs w) : SA w0 g O rb cs w.drew := ⟨h.t.drew, h.o.drew, h.l.drew, h.ne⟩
theorem SA.drewN (h : SA w0 g O rb cs w) (n : Nat) : SA w0 g O rb cs (w.drewN n) := ⟨h.t.drewN n, h.o.drewN n, h.l.drewN n, h.ne⟩
theorem SA.mark (h : SA w0 g O rb cs w) (ho : Blk w' g (bls O') 4) (ht : Turns [g] w w') : SA w0 g O' rb cs w' := ⟨h.t.next ht (fun x hx => Or.inl hx), ho, h.l.turn ht (by simpa using h.ne), h.ne⟩
end
theorem sa_call {w0 w : World} {g rb : Nat} {O : List Bool} {cs : Array Value} {f : FuncId} {args : Array Value} {v : Ending} (hS : SA w0 g O rb cs w) (h : Calls Try.prog f args w fun e w' => e = v ∧ Below w.heap.size w w') : Calls Try.prog f args w fun e w' => e = v ∧ SA w0 g O rb cs w' :=
  h.mono fun _ _ ⟨he, hb⟩ => ⟨he, hS.keep hb⟩
theorem sa_mark {w0 w : World} {g rb : Nat} {O : List Bool} {cs : Array Value} (hS : SA w0 g O rb cs w) (N0 : Nat) (hN0 : O.length = N0) (off n c : Nat) (I N : Int) (hI : I = off) (hN : N = n) (hf : FreeFrom O off) (hfit : off + n ≤ N0) (hl : N0 ≤ 1000000) :
    Calls Try.prog 20 #[.slice (some ⟨g, 0, none⟩) N0 c, .int .i64 I, .int .i64 N] w fun e w' => e = .returned (.bool true) ∧ ∃ O' : List Bool, O'.length = N0 ∧ FreeFrom O' (off + n) ∧ SA w0 g O' rb cs w' := by
  subst hN0
  exact (mark_in O g off n c I N hI hN w hS.o hf hfit hl).mono fun _ _ ⟨he, ⟨O', h1, h2, h3⟩, ht⟩ => ⟨he, O', h1, h2, hS.mark h3 ht⟩
theorem FreeFrom.mono {O : List Bool} {a b : Nat} (h : FreeFrom O a) (hab : a ≤ b) : FreeFrom O b := fun j h1 h2 => h j (by omega) h2
set_option maxHeartbeats 1000000 in
set_option maxRecDepth 100000 in
theorem slot_in (k e eo bo sl x n : Nat) (ka ea c gr : Int) (hg : Pl.Good k e ka ea c) (hL : Pl.Last k e ka ea c eo bo sl gr) (i : Nat) (hi : i < 8) (hx : (x : Int) = 8 + i * sl) (O : List Bool) (hO : O.length = n) (hgr : (n : Int) = gr) (g cc : Nat) (w : World) (hb : Blk w g (bls O) 4) (hf : FreeFrom O x) :
    Calls Try.prog 21 #[.slice (some ⟨g, 0, none⟩) n cc, .agg #[.int .i64 k, .int .i64 e, .int .i64 ka, .int .i64 ea, .int .i64 c, .int .i64 eo, .int .i64 bo, .int .i64 sl, .int .i64 gr], .int .i64 i] w fun e' w' =>
      e' = .returned (.bool true) ∧ (∃ O' : List Bool, O'.length = n ∧ FreeFrom O' (x + sl) ∧ Blk w' g (bls O') 4) ∧ Turns [g] w w' := by
  replace hO := Lib.hid hO
  have hv := Lib.hid (hL.valid hg)
  have hk : Hid (placeF ⟨k, e, ka, ea, c, eo, bo, sl, gr⟩ i 0 = x) := by unfold Hid; rw [place_in hv.out i 0 (by omega) (by omega), hx]; simp
  have he : Hid (placeF ⟨k, e, ka, ea, c, eo, bo, sl, gr⟩ i eo = ((x + eo : Nat) : Int)) := by unfold Hid; rw [place_in hv.out i _ (by omega) (by omega)]; push_cast; omega
  have hbo : Hid (placeF ⟨k, e, ka, ea, c, eo, bo, sl, gr⟩ i bo = ((x + bo : Nat) : Int)) := by unfold Hid; rw [place_in hv.out i _ (by omega) (by omega)]; push_cast; omega
  obtain ⟨y, hy⟩ : ∃ y : Nat, Hid (y = x + eo) := ⟨_, rfl⟩
  obtain ⟨z, hz⟩ : ∃ z : Nat, Hid (z = x + bo) := ⟨_, rfl⟩
  rw [← hy.out] at he
  rw [← hz.out] at hbo
  have b1 := hL.bo3
  have b2 := hL.slv
  have m0 : 0 ≤ (i : Int) * sl := Int.mul_nonneg (by omega) (by omega)
  have m1 : (i : Int) * sl ≤ 7 * sl := Int.mul_le_mul_of_nonneg_right (by omega) (by omega)
  have hx8 : x % 8 = 0 := by
    have e8 : ((i : Int) * sl) % 8 = 0 := by
      rw [Int.mul_emod, show (sl : Int) % 8 = 0 by omega]; simp
    omega
  have hgv := hL.grv
  have hboT := hL.boT
  have ho1 := hL.eo1
  have ho2 := hL.bo1
  have r1 : Hid ((x : Int) % ka = 0) := by unfold Hid; rcases hg.kav with h | h | h | h <;> subst h <;> omega
  have r2 : Hid ((y : Int) % ea = 0) := by
    have h3 := hL.eo3
    have h4 := hy.out
    unfold Hid
    rw [Int.tmod_eq_emod_of_nonneg (by omega)] at h3
    rcases hg.eav with h | h | h | h <;> subst h <;> omega
  have r3 : Hid ((z : Int) % 8 = 0) := by have := hz.out; unfold Hid; omega
  have n1 : ¬ ka = 0 := by rcases hg.kav with h | h | h | h <;> omega
  have n2 : ¬ ea = 0 := by rcases hg.eav with h | h | h | h <;> omega
  have n3 : 1 ≤ ka := by rcases hg.kav with h | h | h | h <;> omega
  have n4 : 1 ≤ ea := by rcases hg.eav with h | h | h | h <;> omega
  have l1 : x + sl ≤ n := by omega
  have l2 : n ≤ 4096 := by omega
  have y1 : x + k ≤ y := by have := hy.out; omega
  have z1 : y + e ≤ z := by have := hy.out; have := hz.out; omega
  have z2 : z + 8 = x + sl := by have := hz.out; omega
  clear b1 b2 m0 m1 hx8 hgv hboT ho1 ho2 hx hgr
  replace hL := Lib.hid hL
  replace hg := Lib.hid hg
  replace hf := Lib.hid hf
  have hgl := hb.lt
  have hS : SA w g O w.heap.size #[.int .i64 k, .int .i64 e, .int .i64 ka, .int .i64 ea, .int .i64 c, .int .i64 eo, .int .i64 bo, .int .i64 sl, .int .i64 gr] (w.alloc (.cells #[.int .i64 k, .int .i64 e, .int .i64 ka, .int .i64 ea, .int .i64 c, .int .i64 eo, .int .i64 bo, .int .i64 sl, .int .i64 gr] 24)) :=
    ⟨(Turns.refl _ _).alloc _, hb.alloc _, Blk.new _ _ _, by omega⟩
  replace hb := Lib.hid hb
  replace z2 := Lib.hid z2
  go_enter Try.func21, Try.ntmps21
  go_wp2_with fail
  refine (sa_call hS (keyAt_to k e ka ea c eo bo sl gr i _ _ hk.out)).mono ?_
  rintro e' w1 ⟨rfl, hS⟩
  have cl := hS.l.cell
  replace hS := Lib.hid hS
  go_wp2_with fail
  refine (sa_call hS.out (elemAt_to k e ka ea c eo bo sl gr i _ _ he.out)).mono ?_
  rintro e' w2 ⟨rfl, hS⟩
  have cl := hS.l.cell
  replace hS := Lib.hid hS
  go_wp2_with fail
  refine (sa_call hS.out (birthAt_to k e ka ea c eo bo sl gr i _ _ hbo.out)).mono ?_
  rintro e' w3 ⟨rfl, hS⟩
  have cl := hS.l.cell
  replace hS := Lib.hid hS
  replace r1 := r1.out
  replace r2 := r2.out
  replace r3 := r3.out
  go_wp2_with fail
  refine (sa_mark hS.out n hO.out x k cc _ _ rfl rfl hf.out (by have := z2.out; omega) (by omega)).mono ?_
  rintro e' w4 ⟨rfl, O1, hl1, hf1, hS⟩
  have cl := hS.l.cell
  replace hS := Lib.hid hS
  replace hl1 := Lib.hid hl1
  go_wp2_with fail
  refine (sa_mark hS.out n hl1.out y e cc _ _ rfl rfl (hf1.mono y1) (by have := z2.out; omega) (by omega)).mono ?_
  rintro e' w5 ⟨rfl, O2, hl2, hf2, hS⟩
  have cl := hS.l.cell
  replace hS := Lib.hid hS
  replace hl2 := Lib.hid hl2
  go_wp2_with fail
  refine (sa_mark hS.out n hl2.out z 8 cc _ _ rfl rfl (hf2.mono z1) (by have := z2.out; omega) (by omega)).mono ?_
  rintro e' w6 ⟨rfl, O3, hl3, hf3, hS⟩
  replace hl3 := Lib.hid hl3
  replace hS := Lib.hid hS
  go_wp2_with fail
  go_ret
  exact ⟨rfl, ⟨O3, hl3, by rw [← z2.out]; exact hf3, hS.out.o⟩, hS.out.t⟩
end Go.Proofs.Ytlfppmdehkhjiaa
