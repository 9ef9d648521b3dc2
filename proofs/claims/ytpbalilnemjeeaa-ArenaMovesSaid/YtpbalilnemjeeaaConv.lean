/- What is proved here: a string turned into bytes, as a step. No condition. -/
import Derived.Test.YtpbalilnemjeeaaMSix
import Derived.Lib.ConvBytes
namespace Go.Proofs.Ytpbalilnemjeeaa
set_option linter.unusedVariables false
set_option linter.unusedSimpArgs false
open Go.RowKit Pm
section
variable {w : World} {ops : Array Oper} {rest : List Oper} {o : Oper} {a : Act} {Q : Exit → Act → World → Prop}
theorem bytes_below (w : World) (e : TypeId) (s : ByteArray) : Below w.heap.size w (Lib.bytesWorld w e s) :=
  ⟨by unfold Lib.bytesWorld World.freeze; rw [if_neg (by decide)]; rfl, by unfold Lib.bytesWorld World.freeze; rw [if_neg (by decide)]; rfl, by unfold Lib.bytesWorld World.freeze; rw [if_neg (by decide)]; rfl, by rw [Lib.bytesWorld_size]; omega, fun k hk => Lib.bytesWorld_at_old w e s k hk⟩
theorem bytes_cells (w : World) (s : ByteArray) (j : Nat) (b : UInt8) (h : s.data.toList[j]? = some b) : (Lib.bytesWorld w 5 s).cell? ⟨w.heap.size, j, none⟩ = some (.int .u8 (b.toNat : Int)) := by
  have hj : j < s.size := by have := (List.getElem?_eq_some_iff.1 h).1; simpa using this
  rw [Lib.bytesWorld_cell w _ s j hj]
  rw [List.getD, h]; rfl
theorem bytes_free (w : World) (s : ByteArray) (j : Nat) (hj : j < s.size) : (Lib.bytesWorld w 5 s).frozen? ⟨w.heap.size, j, none⟩ = false := by
  have hs : s.size ≤ (Lib.bytesCells w 5 s).size := by simp [Lib.bytesCells]
  simp only [World.frozen?, Lib.bytesWorld_at_new]
  simp; omega
/-- []byte(s) -/
theorem wpList_to_bytes (hg : o.guard = none) (x : Operand) (hop : o.op = Op.convert 9 131 x) (s : ByteArray) (hx : a.eval x = .string s)
    (h : ∀ w' c, w'.heap.size = w.heap.size + 1 → Below w.heap.size w w' → (∀ j b, s.data.toList[j]? = some b → w'.cell? ⟨w.heap.size, j, none⟩ = some (.int .u8 (b.toNat : Int))) → (∀ j, j < s.size → w'.frozen? ⟨w.heap.size, j, none⟩ = false) →
      wpList Try.prog ops Q rest (a.put o.dst (.slice (some ⟨w.heap.size, 0, none⟩) s.size c)) w') : wpList Try.prog ops Q (o :: rest) a w := by
  refine wpList_plain hg fun K hK' => ?_
  have hr := Lib.run_convert_string_bytes (P := Try.prog) w 9 131 5 s Try.underlying9 Try.underlying131 Try.underlying5
  unfold Oper.wp
  simp [execOp, hop, hx, hr, Result.andThen]
  exact hK' _ _ (h _ _ (Lib.bytesWorld_size _ _ _) (bytes_below _ _ _) (bytes_cells w s) (bytes_free w s))
end
end Go.Proofs.Ytpbalilnemjeeaa
