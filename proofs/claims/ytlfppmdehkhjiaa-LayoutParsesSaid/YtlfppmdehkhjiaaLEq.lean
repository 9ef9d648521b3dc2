/- What is proved here: two layouts are compared field by field. -/
import Derived.Test.YtlfppmdehkhjiaaLPlain
import Derived.Test.YtlfppmdehkhjiaaKit
import Derived.Laws.StructEq
import Derived.KernelRfl
namespace Go.Proofs.Ytlfppmdehkhjiaa
set_option linter.unusedVariables false
set_option linter.unusedSimpArgs false
open Go.RowKit Pl
section
variable {P : Program} {d : Nat} {xs ys : Array Value} {f : Field} {fs : List Field} {a b : Value} {r s : Bool} {w : World}
theorem eqf_cons (hn : (f.name == "_") = false) (ha : (part f.type xs f.offset).run P w = .ok a w) (hb : (part f.type ys f.offset).run P w = .ok b w) (he : (Op.equalIn d f.type a b).run P w = .ok r w) (hr : (Op.eqFields d xs ys fs).run P w = .ok s w) : (Op.eqFields d xs ys (f :: fs)).run P w = .ok (r && s) w := by
  have hn' : f.name ≠ "_" := by simpa using hn
  rw [Op.eqFields]
  simp only [if_pos hn', Sem.run_bind, ha, hb, he, Result.andThen_ok]
  cases r
  · simp
  · simpa using hr
theorem eqf_nil : (Op.eqFields d xs ys []).run P w = .ok true w := by simp [Op.eqFields]
end
theorem eq_fields (l m : LV) (w : World) : (Op.eqFields 9999 #[.int .i64 l.k, .int .i64 l.e, .int .i64 l.ka, .int .i64 l.ea, .int .i64 l.c, .int .i64 l.eo, .int .i64 l.bo, .int .i64 l.sl, .int .i64 l.gr] #[.int .i64 m.k, .int .i64 m.e, .int .i64 m.ka, .int .i64 m.ea, .int .i64 m.c, .int .i64 m.eo, .int .i64 m.bo, .int .i64 m.sl, .int .i64 m.gr] (Try.prog.fieldsOf 24).toList).run Try.prog w = .ok (LV.beq l m) w := by
  have hu : ∀ x y : Int, (Op.equalIn 9999 3 (.int .i64 x) (.int .i64 y)).run Try.prog w = .ok (x == y) w := fun x y => run_equalIn_int w 9998 3 .i64 .i64 x y Try.underlying3
  unfold LV.beq
  refine eqf_cons (by kernel_rfl) (by kernel_rfl) (by kernel_rfl) (hu _ _) ?_
  refine eqf_cons (by kernel_rfl) (by kernel_rfl) (by kernel_rfl) (hu _ _) ?_
  refine eqf_cons (by kernel_rfl) (by kernel_rfl) (by kernel_rfl) (hu _ _) ?_
  refine eqf_cons (by kernel_rfl) (by kernel_rfl) (by kernel_rfl) (hu _ _) ?_
  refine eqf_cons (by kernel_rfl) (by kernel_rfl) (by kernel_rfl) (hu _ _) ?_
  refine eqf_cons (by kernel_rfl) (by kernel_rfl) (by kernel_rfl) (hu _ _) ?_
  refine eqf_cons (by kernel_rfl) (by kernel_rfl) (by kernel_rfl) (hu _ _) ?_
  refine eqf_cons (by kernel_rfl) (by kernel_rfl) (by kernel_rfl) (hu _ _) ?_
  exact eqf_cons (by kernel_rfl) (by kernel_rfl) (by kernel_rfl) (hu _ _) eqf_nil
theorem layGuard : Try.prog.eqGuardType Try.prog.depth 24 = false := by kernel_rfl
theorem layUnder : Try.prog.underlying 24 = some (.struct (Try.prog.fieldsOf 24)) := by kernel_rfl
theorem layHeld : Try.prog.stoodInHeld 24 = false := by kernel_rfl
theorem eql_lay (l m : LV) (w : World) : (binOp .eql 24 (.agg #[.int .i64 l.k, .int .i64 l.e, .int .i64 l.ka, .int .i64 l.ea, .int .i64 l.c, .int .i64 l.eo, .int .i64 l.bo, .int .i64 l.sl, .int .i64 l.gr]) (.agg #[.int .i64 m.k, .int .i64 m.e, .int .i64 m.ka, .int .i64 m.ea, .int .i64 m.c, .int .i64 m.eo, .int .i64 m.bo, .int .i64 m.sl, .int .i64 m.gr])).run Try.prog w = .ok (.bool (LV.beq l m)) w := by
  rw [run_eql_struct, run_equalIn_agg w 9999 _ _ _ layUnder layHeld, eq_fields]; rfl
theorem neq_lay (l m : LV) (w : World) : (binOp .neq 24 (.agg #[.int .i64 l.k, .int .i64 l.e, .int .i64 l.ka, .int .i64 l.ea, .int .i64 l.c, .int .i64 l.eo, .int .i64 l.bo, .int .i64 l.sl, .int .i64 l.gr]) (.agg #[.int .i64 m.k, .int .i64 m.e, .int .i64 m.ka, .int .i64 m.ea, .int .i64 m.c, .int .i64 m.eo, .int .i64 m.bo, .int .i64 m.sl, .int .i64 m.gr])).run Try.prog w = .ok (.bool (!LV.beq l m)) w := by
  rw [run_neq_struct, run_equalIn_agg w 9999 _ _ _ layUnder layHeld, eq_fields]; rfl
end Go.Proofs.Ytlfppmdehkhjiaa
