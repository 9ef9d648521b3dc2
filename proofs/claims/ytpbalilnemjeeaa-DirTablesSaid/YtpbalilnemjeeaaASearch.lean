/- What is proved here: the library's slices.BinarySearch at []int, laid at this program. No condition. -/
import Derived.Test.YtpbalilnemjeeaaKit
import Derived.Shelf.Slices.SearchI
import Derived.Shelf.Slices.Empties
namespace Go.Proofs.Ytpbalilnemjeeaa
open Go.Shelf Go.RowKit
def renS : Ren := ⟨fun | 25 => 76 | 31 => 107 | 32 => 108 | 37 => 128 | n => n, fun | 0 => 0 | 3 => 3 | 4 => 4 | 22 => 29 | 40 => 47 | n => n, fun n => n⟩
theorem laysS : Lays2.n25 Try.prog renS := {
  mixed := by kernel_rfl
  f25 := by kernel_rfl
  f31 := by kernel_rfl
  f32 := by kernel_rfl
  f37 := by kernel_rfl
  t0 := by kernel_rfl
  a0 := fun w => by kernel_rfl
  z0 := fun w => by kernel_rfl
  v0 := fun w => by kernel_rfl
  t3 := by kernel_rfl
  a3 := fun w => by kernel_rfl
  z3 := fun w => by kernel_rfl
  v3 := fun w => by kernel_rfl
  t4 := by kernel_rfl
  a4 := fun w => by kernel_rfl
  z4 := fun w => by kernel_rfl
  v4 := fun w => by kernel_rfl
  t22 := by kernel_rfl
  a22 := fun w => by kernel_rfl
  z22 := fun w => by kernel_rfl
  v22 := fun w => by kernel_rfl
  t40 := by kernel_rfl
  a40 := fun w => by kernel_rfl
  z40 := fun w => by kernel_rfl
  v40 := fun w => by kernel_rfl }
theorem search_any (b off n c : Nat) (zs : List Int) (x : Int) (w : World) (hz : n ≤ zs.length) (hbig : n < 4611686018427387904) (hc : ∀ j, j < zs.length → w.cell? ⟨b, off + j, none⟩ = some (.int .i64 (zs.getD j 0))) (hs : (zs.take n).Pairwise (· ≤ ·)) :
    Calls Try.prog 76 #[.slice (some ⟨b, off, none⟩) n c, .int .i64 x] w fun e w' => e = .returned (.tuple #[.int .i64 ((zs.take n).countP (· < x) : Nat), .bool ((zs.take n).contains x)]) ∧ ∃ q, w' = w.drewN q :=
  Any.slices_BinarySearch_int laysS b off n c zs x w hz hbig hc hs
end Go.Proofs.Ytpbalilnemjeeaa
