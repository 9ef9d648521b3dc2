/- What is proved here: sizes behind a take and a Free; a block stays inside when another is freed; Size of a live block. No condition. -/
import Derived.Test.YtpbalilnemjeeaaAFreeW
import Derived.Test.YtpbalilnemjeeaaDPlace
namespace Go.Proofs.Ytpbalilnemjeeaa
set_option linter.unusedVariables false
set_option linter.unusedSimpArgs false
open Go.RowKit Pm Pa Pl Pd
theorem take_size (ps : Parts) (hp : ∀ y ∈ ps, 1 ≤ y.1) (c : Nat) (hc : 1 ≤ c) (j : Int) : sizeFrom 16 (takeP ps c) j = if j = ((takeAt ps c : Nat) : Int) then some c else sizeFrom 16 ps j := by
  rcases take_case ps c with ⟨_, e1, e2, _⟩ | ⟨a, b, rfl, _, e1, e2, _⟩
  · rw [e1, e2]; exact sizeFrom_app 16 ps hp c j
  · rw [e1, e2, sizeFrom_flip a b c true false (fun y hy => hp y (by simp [hy])) hc j]
    by_cases h : j = ((endOf a : Nat) : Int)
    · rw [if_pos h, if_pos h]; rfl
    · rw [if_neg h, if_neg h]
theorem take_none (ps : Parts) (hp : ∀ y ∈ ps, 1 ≤ y.1) (c : Nat) (hc : 1 ≤ c) : sizeFrom 16 ps ((takeAt ps c : Nat) : Int) = none := by
  rcases take_case ps c with ⟨_, e1, e2, _⟩ | ⟨a, b, rfl, _, e1, e2, _⟩
  · rw [e2]; exact sizeFrom_end 16 ps hp _ (by unfold endOf; omega)
  · rw [e2, sizeFrom_flip a b c false true (fun y hy => hp y (by simp [hy])) hc, if_pos rfl]; rfl
theorem deadP_get (o : Nat) (ps : Parts) (hp : ∀ y ∈ ps, 1 ≤ y.1) (E : Int) (i : Nat) : (deadP o ps E)[i]? = (ps[i]?).map fun y => if E = ((o + total (ps.take i) : Nat) : Int) then (y.1, false) else y := by
  induction ps generalizing o i with
  | nil => simp [deadP]
  | cons y t ih =>
    have hy := hp y (by simp)
    have ht : ∀ z ∈ t, 1 ≤ z.1 := fun z hz => hp z (List.mem_cons_of_mem _ hz)
    unfold deadP
    by_cases e : E = (o : Int)
    · rw [if_pos e]
      cases i with
      | zero => simp [total, e]
      | succ i =>
        rw [List.getElem?_cons_succ, List.getElem?_cons_succ, List.take_succ_cons, total_cons]
        have hne : ¬ E = ((o + (y.1 + total (t.take i)) : Nat) : Int) := by omega
        simp only [if_neg hne, Option.map_id']
    · rw [if_neg e]
      cases i with
      | zero => simp [total, e]
      | succ i =>
        rw [List.getElem?_cons_succ, List.getElem?_cons_succ, List.take_succ_cons, total_cons, ih (o + y.1) ht i, Nat.add_assoc]
theorem stOf_fst {ps qs : Parts} (h : qs.map (·.1) = ps.map (·.1)) (i : Nat) : stOf qs i = stOf ps i := by
  unfold stOf total
  rw [List.map_take, List.map_take, h]
theorem take_part (ps : Parts) (c : Nat) : ∃ i, (takeP ps c)[i]? = some (c, true) ∧ stOf (takeP ps c) i = takeAt ps c := by
  rcases take_case ps c with ⟨_, e1, e2, _⟩ | ⟨a, b, rfl, _, e1, e2, _⟩
  · rw [e1, e2]
    exact ⟨ps.length, by simp, by unfold stOf endOf; rw [List.take_left' rfl]⟩
  · rw [e1, e2]
    exact ⟨a.length, by simp, by unfold stOf endOf; rw [List.take_left' rfl]⟩
theorem inside_take_free {c : Nat} (ps : Parts) (hp : ∀ y ∈ takeP ps c, 1 ≤ y.1) (j k : Nat) (h : j + k ≤ c) (E : Int) (hE : E ≠ ((takeAt ps c : Nat) : Int)) : Inside (freeP (takeP ps c) E) (takeAt ps c + j) k := by
  obtain ⟨i, h1, h2⟩ := take_part ps c
  have h3 := stOf_fst (deadP_fst 16 (takeP ps c) E) i
  refine ⟨i, c, ?_, ?_, ?_⟩
  · unfold freeP
    rw [deadP_get 16 _ hp, h1, Option.map_some, if_neg]
    intro e
    apply hE
    rw [e, ← h2]; rfl
  · show stOf (deadP 16 (takeP ps c) E) i ≤ _
    rw [h3, h2]; omega
  · show _ ≤ stOf (deadP 16 (takeP ps c) E) i + c
    rw [h3, h2]; omega
theorem live_start {ps : Parts} (E : Int) (c : Nat) (h : sizeFrom 16 ps E = some c) : 0 ≤ E ∧ E ≤ endOf ps := by
  obtain ⟨a, b, hab, rfl⟩ := live_split 16 ps E c h
  have : 16 + total a ≤ endOf ps := by rw [hab]; unfold endOf; rw [total_app]; omega
  omega
theorem ar_size {w : World} {p : Nat} {x : Loc} {lim : Nat} {ps : Parts} {L : List UInt8} (h : ArAt w p x lim ps L) (E : Int) (c : Nat) (hE : sizeFrom 16 ps E = some c) :
    Calls Try.prog 41 #[.pointer (some ⟨p, 0, none⟩), .int .i64 E] w fun e w' => e = .returned (.tuple #[.int .i64 (c : Int), .int .i64 0]) ∧ w = w' := by
  obtain ⟨c0, c1, c2, c3, c4, c5, c6⟩ := h.cells
  have hb := live_start E c hE
  have hel := h.endle
  have hwe : (Lit.int .i64 E).wf = true := WalkArith.wf_i64 (by omega)
  have hlk : (Instr.lookup 125 (.map (some x.bs)) (.int .i64 E) true).run Try.prog w = .ok (.tuple #[.int .i64 (c : Int), .bool true]) w := by
    have := SM.look_ok h.sz hwe
    unfold szF at this
    rw [hE] at this
    exact this
  clear h hE
  go_enter Try.func41, Try.ntmps41
  go_wp2_with fail
  go_ret2
  exact ⟨rfl, rfl⟩
/-- the entries, each twice -/
def dbl (es : List Int) : List Int := (es.map fun e => [e, e]).flatten
theorem dbl_len (es : List Int) : (dbl es).length = 2 * es.length := by
  induction es with
  | nil => rfl
  | cons e t ih => simp [dbl] at ih ⊢; omega
theorem dbl_get (es : List Int) (i : Nat) : (dbl es)[2 * i]? = es[i]? ∧ (dbl es)[2 * i + 1]? = es[i]? := by
  induction es generalizing i with
  | nil => simp [dbl]
  | cons e t ih =>
    cases i with
    | zero => simp [dbl]
    | succ i =>
      have h := ih i
      have e1 : dbl (e :: t) = e :: e :: dbl t := by simp [dbl]
      rw [e1, show 2 * (i + 1) = (2 * i + 1) + 1 by omega]
      simpa using h
theorem dbl_rng {es : List Int} (h : ∀ e ∈ es, isI e) : ∀ e ∈ dbl es, isI e := by
  intro e he
  unfold dbl at he
  obtain ⟨l, hl, hel⟩ := List.mem_flatten.1 he
  obtain ⟨a, ha, rfl⟩ := List.mem_map.1 hl
  simp at hel
  subst hel
  exact h _ ha
end Go.Proofs.Ytpbalilnemjeeaa
