/- What is proved here: the library's slices.Contains and slices.BinarySearch where Free calls them; delete at the operation. No condition. -/
import Derived.Test.YtpbalilnemjeeaaAFreeP
import Derived.Test.YtpbalilnemjeeaaASearch
import Derived.Shelf.Slices.Turned
namespace Go.Proofs.Ytpbalilnemjeeaa
set_option linter.unusedVariables false
set_option linter.unusedSimpArgs false
open Go.Shelf Go.RowKit Pm Pa
def renC : Ren := ⟨fun | 107 => 75 | 108 => 106 | n => n, fun | 0 => 0 | 3 => 3 | 4 => 4 | 28 => 29 | n => n, fun n => n⟩
theorem laysC : Lays.n107 Try.prog renC := {
  mixed := by kernel_rfl
  f107 := by kernel_rfl
  f108 := by kernel_rfl
  t0 := by kernel_rfl
  a0 := fun w => by kernel_rfl
  z0 := fun w => by kernel_rfl
  v0 := fun w => by kernel_rfl
  t3 := by kernel_rfl
  a3 := fun w => by kernel_rfl
  z3 := fun w => by kernel_rfl
  v3 := fun w => by kernel_rfl
  t4 := by kernel_rfl
  a4 := fun w => by kernel_rfl
  z4 := fun w => by kernel_rfl
  v4 := fun w => by kernel_rfl
  t28 := by kernel_rfl
  a28 := fun w => by kernel_rfl
  z28 := fun w => by kernel_rfl
  v28 := fun w => by kernel_rfl }
theorem ints_in_at {w : World} {b o : Nat} {zs : List Int} (h : IntsIn w (some ⟨b, o, none⟩) zs) (j : Nat) (hj : j < zs.length) : w.cell? ⟨b, o + j, none⟩ = some (.int .i64 (zs.getD j 0)) := by
  obtain ⟨g, o', e, hc⟩ := h j zs[j] (List.getElem?_eq_getElem hj)
  injection e with e
  injection e with e1 e2
  subst e1 e2
  rw [List.getD_eq_getElem?_getD, List.getElem?_eq_getElem hj]
  exact hc
theorem contains_any {w : World} (b o n c : Nat) (zs : List Int) (hin : IntsIn w (some ⟨b, o, none⟩) zs) (x : Int) (hn : n ≤ zs.length) (hbig : n ≤ 1099511627776) (B : Bool) (hB : (zs.take n).contains x = B) :
    Calls Try.prog 75 #[.slice (some ⟨b, o, none⟩) n c, .int .i64 x] w fun e w' => e = .returned (.bool B) ∧ w = w' := by
  subst hB
  refine (Any.slices_Contains_int laysC b o n c zs x w hn (by omega) (fun j hj => ints_in_at hin j hj)).mono ?_
  rintro e w' ⟨rfl, rfl⟩
  exact ⟨rfl, rfl⟩
theorem count_low (A B : List Nat) (e : Nat) (hA : ∀ y ∈ A, y < e) (hB : ∀ y ∈ B, e < y) : ((A ++ B).map fun (y : Nat) => (y : Int)).countP (· < (e : Int)) = A.length := by
  rw [List.map_append, List.countP_append]
  have h1 : (A.map fun (y : Nat) => (y : Int)).countP (· < (e : Int)) = A.length := by
    rw [List.countP_eq_length.2, List.length_map]
    intro z hz
    obtain ⟨y, hy, rfl⟩ := List.mem_map.1 hz
    have := hA y hy
    simp; exact this
  have h2 : (B.map fun (y : Nat) => (y : Int)).countP (· < (e : Int)) = 0 := by
    rw [List.countP_eq_zero]
    intro z hz
    obtain ⟨y, hy, rfl⟩ := List.mem_map.1 hz
    have := hB y hy
    simp; omega
  rw [h1, h2]; rfl
theorem search_row {w : World} {fb : List Nat} {u : Value} {A B : List Nat} (h : FreeRow w fb u (A ++ B)) (e : Nat) (hA : ∀ y ∈ A, y < e) (hB : ∀ y ∈ B, e < y) (hs : (A ++ B).Pairwise (· < ·)) (hlen : (A ++ B).length ≤ 1099511627776) (E I : Int) (hE : E = e) (hI : I = A.length) :
    Calls Try.prog 76 #[u, .int .i64 E] w fun r w' => ∃ b, r = .returned (.tuple #[.int .i64 I, .bool b]) ∧ ∃ q, w' = w.drewN q := by
  subst hE hI
  rcases h with ⟨rfl, h0⟩ | ⟨g, o, cap, cur, rfl, _, e3, e4, e5, e7, e6⟩
  · obtain ⟨rfl, rfl⟩ := List.append_eq_nil_iff.1 h0
    refine (Any.slices_BinarySearch_int_empty laysS none 0 (e : Int) w).mono ?_
    rintro r w' ⟨rfl, rfl⟩
    exact ⟨false, rfl, 0, rfl⟩
  · have hl : ((A ++ B).map fun (y : Nat) => (y : Int)).length = (A ++ B).length := List.length_map _
    have hB2 : Blk w g cur 3 := e3
    refine (search_any g o _ cap ((A ++ B).map fun (y : Nat) => (y : Int)) (e : Int) w (by rw [hl]; exact Nat.le_refl _) (by omega) (fun j hj => ?_) ?_).mono ?_
    · rw [hl] at hj
      rw [hB2.cell (o + j), e6 j (A ++ B)[j] (List.getElem?_eq_getElem hj), List.getD_eq_getElem?_getD, List.getElem?_map, List.getElem?_eq_getElem hj]
      rfl
    · rw [List.take_of_length_le (by rw [hl]; exact Nat.le_refl _), List.pairwise_map]
      exact hs.imp (fun h => by omega)
    · rintro r w' ⟨rfl, hq⟩
      rw [List.take_of_length_le (by rw [hl]; exact Nat.le_refl _), count_low A B e hA hB]
      exact ⟨_, rfl, hq⟩
theorem wpList_delete_im {w : World} {ops : Array Oper} {rest : List Oper} {o : Oper} {a : Act} {Q : Exit → Act → World → Prop} (hg : o.guard = none) (m x : Operand)
    (hop : o.op = Op.call { callee := Callee.builtin Builtin.delete, args := #[m, x], argTypes := #[125, 3] }) {b n : Nat} {f : Int → Option Value} (h : SM w b n f) {k : Int} (hk : (Lit.int .i64 k).wf = true)
    (hm : a.eval m = .map (some b)) (hx : a.eval x = .int .i64 k)
    (hK : ∀ w', SM w' b n (upd f k none) → Turns [b] w w' → wpList Try.prog ops Q rest (a.put o.dst (.tuple #[])) w') : wpList Try.prog ops Q (o :: rest) a w := by
  refine wpList_plain hg fun K' hK' => ?_
  obtain ⟨w', hrun, r1, r2⟩ := IM.drop Try.underlying125 h hk o.type
  unfold Oper.wp
  simp [execOp, hop, resolve, invoke, builtin, hm, hx, hrun, Result.andThen]
  exact hK' _ _ (hK w' r1 r2)
end Go.Proofs.Ytpbalilnemjeeaa
