/- What is proved: the closed statement Names in its printed form: with enough rounds the printed function answers true. Its conditions: none. -/
import Derived.Test.YtlfppmdehkhjiaaPNamesx1
import Derived.KernelRfl
namespace Go.Proofs.Ytlfppmdehkhjiaa.Pure
open Go.RowKit Go.Proofs.Ytlfppmdehkhjiaa.PNames Go.Proofs.YtlfppmdehkhjiaaW.PrintWords Go.Proofs.YtlfppmdehkhjiaaW.PrintLast

theorem Names : lardertop_Names.Pure := ⟨200, by kernel_rfl⟩

end Go.Proofs.Ytlfppmdehkhjiaa.Pure
