/- What is proved here: the library's table as the laid condition gives it; a slice of steps that came in; a start that meets the condition. No condition. -/
import Derived.Test.YtakmaedimelaaaaDoorRow
import Derived.Test.YtakmaedimelaaaaDoorTie
import Derived.Test.YtakmaedimelaaaaDoorCFirst
import Derived.LaidMore
import Derived.Deep.Slices
import Derived.Deep.Fields
import Derived.ChangeSame
import Derived.ChangeArms
import Derived.Stop.Joined
namespace Go.Proofs.YtakmaedimelaaaaDoor
open Go.ChangeShapes Go.WideShapes Go.ChangeAt Go.RowKit Go.Deep Pl
set_option linter.unusedVariables false
set_option linter.unusedSimpArgs false
theorem gTab : Tryd.prog.globalNamed "math/bits.deBruijn64tab" = some 0 := by kernel_rfl
theorem tTab : (Tryd.prog.globals[0]?).map (·.type) = some 57 := by kernel_rfl
abbrev laid1 : List (String × DataW Unit) := [("math/bits.deBruijn64tab", Rows.laid_math_bits_deBruijn64tab)]
/-- the door's own heap meets the condition -/
theorem door_met (os : Os) (i : Input) (hi : i = ⟨#[], i.args, []⟩) : laidMetH Tryd.prog laid1 ((World.doorLaid Tryd.prog 14 os).forCall (fun _ _ => 0) i).memory := by
  rw [hi]
  exact laidMetH_of_parts3 (fuel := 8) (laidMet_of_run' 8 (by kernel_rfl) (by kernel_rfl)) (by kernel_rfl) (by kernel_rfl)
theorem laid_list : (Rows.laid_math_bits_deBruijn64tab : DataW Unit) = .agg (Lib.deBruijn64tab.map fun n : Nat => .lit (.int .u8 (n : Int))) := rfl
theorem tab_of_laid {W : World} (h : laidMetH Tryd.prog laid1 W) : Tab W := by
  rw [MakeChecks.laidMetH_plain _ _ _ (by kernel_rfl)] at h
  obtain ⟨ps, ⟨g0, t0, cs0, f0, p0, q0, hg0, ht0, hv0, hd0, _, _⟩, _, _⟩ := h
  obtain rfl := Option.some.inj (gTab.symm.trans hg0)
  obtain rfl := Option.some.inj (tTab.symm.trans ht0)
  intro j hj
  obtain ⟨xs, m1, rfl, hx1, hlen, hn3, hel⟩ := DataW.trod_array Tryd.underlying57 hd0
  have c3 : Tryd.prog.cellsOf 5 = 1 := by kernel_rfl
  rw [laid_list] at hx1
  simp only [Prod.mk.injEq, DataW.agg.injEq] at hx1
  have h0 := hel j hj
  rw [c3] at h0
  have hxs : xs[j]? = some (xs[j]'(by omega)) := List.getElem?_eq_getElem (by omega)
  rw [hxs] at h0
  have hx2 : (xs.map (·.1))[j]? = some (.lit (.int .u8 ((Lib.deBruijn64tab.getD j 0 : Nat) : Int))) := by
    rw [← hx1.1, List.getElem?_map]
    have hlt : j < Lib.deBruijn64tab.length := by rw [show Lib.deBruijn64tab.length = 64 from rfl]; exact hj
    rw [List.getElem?_eq_getElem hlt]
    simp [List.getD, List.getElem?_eq_getElem hlt]
  rw [List.getElem?_map, hxs] at hx2
  simp only [Option.map_some, Option.some.injEq] at hx2
  obtain ⟨k, e1, e2, _⟩ := DataW.trod_int Tryd.underlying5 h0
  have hk : k = ((Lib.deBruijn64tab.getD j 0 : Nat) : Int) := by rw [e2] at hx2; simpa using hx2
  subst hk
  have := World.var?_cell hg0 hv0 j
  rw [this]
  have e3 : cs0.toList[j]? = some (.int .u8 ((Lib.deBruijn64tab.getD j 0 : Nat) : Int)) := by
    have h1 : ((cs0.toList.drop (j * 1)).take 1)[0]? = some (.int .u8 ((Lib.deBruijn64tab.getD j 0 : Nat) : Int)) := by rw [e1]; rfl
    rw [List.getElem?_take, if_pos (by decide), List.getElem?_drop] at h1
    simpa using h1
  simpa using e3
theorem spot_none {w : World} {a : Addr} {v : Value} (h : w.cell? a = some v) : a.spot = none := by
  unfold World.cell? at h
  split at h
  · split at h
    · cases h
    · rename_i hs; simpa using hs
  · cases h
theorem addr_at {w : World} {a : Addr} {j : Nat} {v : Value} (h : w.cell? (a.add j) = some v) (hs : a.spot = none) : w.cell? ⟨a.block, a.off + j, none⟩ = some v := by
  obtain ⟨b, o, s⟩ := a
  simp only at hs
  subst hs
  have e : (⟨b, o, none⟩ : Addr).add j = ⟨b, o + j, none⟩ := by unfold Addr.add; split <;> simp_all
  rw [e] at h; exact h
theorem add_zero' (a : Addr) : a.add 0 = a := by
  unfold Addr.add; simp
end Go.Proofs.YtakmaedimelaaaaDoor
