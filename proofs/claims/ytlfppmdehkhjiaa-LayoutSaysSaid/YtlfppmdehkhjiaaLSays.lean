/- What is proved here: the walk of the law LayoutSays. The numbers are ints. -/
import Derived.Test.YtlfppmdehkhjiaaLSays0
import Derived.Test.YtlfppmdehkhjiaaLSays1
import Derived.Test.YtlfppmdehkhjiaaLSays2
import Derived.Test.YtlfppmdehkhjiaaLSays3
import Derived.Test.YtlfppmdehkhjiaaLSays4
namespace Go.Proofs.Ytlfppmdehkhjiaa
set_option linter.unusedVariables false
set_option linter.unusedSimpArgs false
open Go.RowKit Pl
theorem says_all (K E A B C D X : Int) (w : World) (hK : -9223372036854775808 ≤ K ∧ K ≤ 9223372036854775807) (hE : -9223372036854775808 ≤ E ∧ E ≤ 9223372036854775807) (hA : -9223372036854775808 ≤ A ∧ A ≤ 9223372036854775807) (hB : -9223372036854775808 ≤ B ∧ B ≤ 9223372036854775807) (hC : -9223372036854775808 ≤ C ∧ C ≤ 9223372036854775807) (hD : -9223372036854775808 ≤ D ∧ D ≤ 9223372036854775807) (hXb : -9223372036854775808 ≤ X ∧ X ≤ 9223372036854775807) :
    Calls Try.prog 5 #[.agg #[.int .i64 K, .int .i64 E, .int .i64 A, .int .i64 B, .int .i64 C, .int .i64 D, .int .i64 X]] w fun e' w' => e' = .returned (.bool true) ∧ Below w.heap.size w w' := by
  rcases (by omega : D % 5 = 0 ∨ D % 5 = 1 ∨ D % 5 = 2 ∨ D % 5 = 3 ∨ D % 5 = 4) with h | h | h | h | h
  · exact says_0 K E A B C D X w hK hE hA hB hC (Lib.hid h) hD hXb
  · exact says_1 K E A B C D X w hK hE hA hB hC (Lib.hid h) hD hXb
  · exact says_2 K E A B C D X w hK hE hA hB hC (Lib.hid h) hD hXb
  · exact says_3 K E A B C D X w hK hE hA hB hC (Lib.hid h) hD hXb
  · exact says_4 K E A B C D X w hK hE hA hB hC (Lib.hid h) hD hXb
end Go.Proofs.Ytlfppmdehkhjiaa
