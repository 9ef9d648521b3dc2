/- What is proved here: the contract of the laws' own bytes. Conditions: a list of strings that lies in memory. -/
import Derived.Test.YtkchhggbiopffaaMRoomy
namespace Go.Proofs.Ytkchhggbiopffaa
set_option linter.unusedVariables false
set_option linter.unusedSimpArgs false
open Go.RowKit Pm
theorem own_some {w : World} {base : Nat} {e : TypeId} {v : Value} {n : Nat} {xs : List Value} (h : w.ownsRow base e 1 v n xs) (hn : 0 < n) :
    ∃ g cap, v = .slice (some ⟨g, 0, none⟩) n cap ∧ base ≤ g ∧ n ≤ cap ∧ ∀ j u, xs[j]? = some u → w.cell? ⟨g, j, none⟩ = some u := by
  have hc := fun g => h.cells (g := g)
  rcases h.2 with ⟨rfl, h0⟩ | ⟨g, cap, cur, rfl, h1, _, h2, _⟩
  · omega
  · refine ⟨g, cap, rfl, h1, h2, fun j u hu => ?_⟩
    have := hc g rfl j u hu
    rw [Addr.add_lit] at this
    simpa using this
theorem PartIn.at {W : World} {base q : Nat} {v u : Value} {s : List UInt8} (h : PartIn W base v u s) (hq : q < base) : PartAt W q v s := by
  obtain ⟨g, c, rfl, _, hg, hb⟩ := h
  refine ⟨_, c, rfl, fun _ => ⟨g, 0, rfl, by omega, fun j b hj => ?_⟩⟩
  rw [Nat.zero_add]
  exact hb.cell j b (by rw [List.getElem?_append_left (List.getElem?_eq_some_iff.1 hj).1]; exact hj)
set_option maxRecDepth 100000 in
theorem bytes_to (A : Option Addr) (cc : Nat) (ss : List ByteArray) (n : Nat) (w : World) (hn : ss.length = n) (ha : StrsAt w A ss) (hl : n ≤ 100000000000) (hs : ∀ s ∈ ss, s.size ≤ 140737488355326) :
    Calls Try.prog 18 #[.slice A n cc] w fun e w' => ∃ g cap, e = .returned (.slice (some ⟨g, 0, none⟩) n cap) ∧ Below w.heap.size w w' ∧ ∀ q, q < w.heap.size → PartsAt w' q (some ⟨g, 0, none⟩) (ss.map (fun s => s.data.toList)) := by
  go_enter Try.func18, Try.ntmps18
  go_wp2_with fail
  refine (roomy_to A cc ss n w hn ha hl hs).mono ?_
  rintro e w' ⟨lv, wv, xs, ys, last, rfl, hb, h1, h2, hx, hp⟩
  obtain ⟨g, cap, rfl, hg, hcap, hc⟩ := own_some h1 (by omega)
  clear h1 h2
  replace hc := Lib.hid hc
  go_wp2_with fail
  go_ret
  refine ⟨g, cap, rfl, hb, fun q hq => ?_⟩
  intro i t hi
  rw [List.getElem?_map] at hi
  obtain ⟨s, hs', rfl⟩ := Option.map_eq_some_iff.1 hi
  obtain ⟨v, u, d1, d2, d3⟩ := hp i s hs'
  refine ⟨g, 0, v, rfl, by omega, ?_, d3.at hq⟩
  rw [Nat.zero_add]
  exact hc.out i v (by rw [List.getElem?_append_left (List.getElem?_eq_some_iff.1 d1).1]; exact d1)
end Go.Proofs.Ytkchhggbiopffaa
