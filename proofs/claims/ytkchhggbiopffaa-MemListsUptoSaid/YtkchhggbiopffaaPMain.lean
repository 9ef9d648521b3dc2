/- What is proved here: the walk of the law MemPlays. Conditions: a script of bulk at most 1048576 that lies in memory. -/
import Derived.Test.YtkchhggbiopffaaPEnd2
namespace Go.Proofs.Ytkchhggbiopffaa
set_option linter.unusedVariables false
set_option linter.unusedSimpArgs false
open Go.RowKit Pm
/-- a call of the script -/
structure OpV where
  kd : Int
  mm : Int
  a : Int
  b : Int
  nn : Int
  v : Nat
  A0 : Option Addr
  ss : List ByteArray
  cc : Nat
structure OpV.Ok (w : World) (o : OpV) : Prop where
  hv : o.v < 2 ^ 64
  ho : -9223372036854775808 ≤ o.a ∧ o.a ≤ 9223372036854775807
  strs : StrsAt w o.A0 o.ss
  sum : (cat o.ss).size ≤ 1048576
  len : o.ss.length ≤ 1048576
  each : ∀ s ∈ o.ss, s.size ≤ 1048576
/-- a script in memory -/
def OpsAt (w : World) (A : Option Addr) (os : List OpV) : Prop := ∀ (i : Nat) (o : OpV), os[i]? = some o → o.Ok w ∧ ∃ g k : Nat, A = some ⟨g, k, none⟩ ∧
  w.cell? ⟨g, k + i * 7, none⟩ = some (.int .i64 o.kd) ∧ w.cell? ⟨g, k + i * 7 + 1, none⟩ = some (.int .i64 o.mm) ∧ w.cell? ⟨g, k + i * 7 + 2, none⟩ = some (.int .i64 o.a) ∧ w.cell? ⟨g, k + i * 7 + 3, none⟩ = some (.int .i64 o.b) ∧
  w.cell? ⟨g, k + i * 7 + 4, none⟩ = some (.int .i64 o.nn) ∧ w.cell? ⟨g, k + i * 7 + 5, none⟩ = some (.int .u64 o.v) ∧ w.cell? ⟨g, k + i * 7 + 6, none⟩ = some (.slice o.A0 o.ss.length o.cc)
/-- one memory and its reference: neither is there, or both are and hold the same bytes -/
def SideAt (w0 w : World) (mv rv : Value) (foot : List Nat) (N : Nat) : Prop :=
  (mv = .pointer none ∧ rv = .pointer none ∧ foot = []) ∨
  ∃ p q r L n V A, mv = .pointer (some ⟨p, 0, none⟩) ∧ rv = .pointer (some ⟨r, 0, none⟩) ∧ foot = p :: q :: r :: V.ownBlock.toList ∧ Pair w p q r L n V A ∧ A.length ≤ N ∧ ∀ x, x ∈ foot → w0.heap.size ≤ x
section
variable {w0 w w' : World} {mv rv : Value} {foot foot2 : List Nat} {N : Nat}
theorem SideAt.lt (h : SideAt w0 w mv rv foot N) (x : Nat) (hx : x ∈ foot) : x < w.heap.size := by
  rcases h with ⟨_, _, rfl⟩ | ⟨p, q, r, L, n, V, A, _, _, rfl, hP, _, _⟩
  · simp at hx
  · simp only [List.mem_cons, Option.mem_toList] at hx
    rcases hx with rfl | rfl | rfl | e
    · exact hP.mem.ptr.lt
    · exact hP.mem.dat.lt
    · exact hP.ref.ptr.lt
    · exact row_lt hP.ref.row x e
theorem SideAt.old (h : SideAt w0 w mv rv foot N) (x : Nat) (hx : x ∈ foot) : w0.heap.size ≤ x := by
  rcases h with ⟨_, _, rfl⟩ | ⟨p, q, r, L, n, V, A, _, _, rfl, hP, _, ho⟩
  · simp at hx
  · exact ho x hx
theorem SideAt.more {N' : Nat} (h : SideAt w0 w mv rv foot N) (hN : N ≤ N') : SideAt w0 w mv rv foot N' := by
  rcases h with h | ⟨p, q, r, L, n, V, A, h1, h2, h3, hP, hl, ho⟩
  · exact Or.inl h
  · exact Or.inr ⟨p, q, r, L, n, V, A, h1, h2, h3, hP, by omega, ho⟩
theorem SideAt.turn {S : List Nat} (h : SideAt w0 w mv rv foot N) (ht : Turns S w w') (hd : ∀ x, x ∈ foot → ¬ x ∈ S) : SideAt w0 w' mv rv foot N := by
  rcases h with h | ⟨p, q, r, L, n, V, A, h1, h2, rfl, hP, hl, ho⟩
  · exact Or.inl h
  · exact Or.inr ⟨p, q, r, L, n, V, A, h1, h2, rfl, ⟨hP.mem.turn ht (hd p (by simp)) (hd q (by simp)), hP.ref.turn ht (hd r (by simp)) (fun g hg => hd g (by simp [hg]))⟩, hl, ho⟩
theorem SideAt.keep (h : SideAt w0 w mv rv foot N) (hb : Below w.heap.size w w') : SideAt w0 w' mv rv foot N := h.turn (Turns.of_below (S := []) hb) (fun _ _ => by simp)
/-- a call on one memory: its side goes on, the other stays -/
theorem side_step {p q r : Nat} {L : List UInt8} {n : Nat} {V : Value} {A : List ActV} {e : Ending} (hB : Below w0.heap.size w0 w) (hP : Pair w p q r L n V A) (hA : A.length ≤ N) (ho : ∀ x, x ∈ p :: q :: r :: V.ownBlock.toList → w0.heap.size ≤ x) (h : Played w p q r V A e w') :
    e = .returned (.bool true) ∧ Below w0.heap.size w0 w' ∧ ∃ foot', SideAt w0 w' (.pointer (some ⟨p, 0, none⟩)) (.pointer (some ⟨r, 0, none⟩)) foot' (N + 1) ∧ (∀ x, x ∈ foot' → x ∈ p :: q :: r :: V.ownBlock.toList ∨ w.heap.size ≤ x) ∧ Turns (p :: q :: r :: V.ownBlock.toList) w w' := by
  obtain ⟨q', L', n', V', A', he, hP', hl, ht, hq, hm⟩ := h
  have hin : ∀ x, x ∈ p :: q' :: r :: V'.ownBlock.toList → x ∈ p :: q :: r :: V.ownBlock.toList ∨ w.heap.size ≤ x := by
    intro x hx
    simp only [List.mem_cons, Option.mem_toList] at hx ⊢
    rcases hx with rfl | rfl | rfl | e2
    · exact Or.inl (Or.inl rfl)
    · rcases hq with rfl | hq
      · exact Or.inl (Or.inr (Or.inl rfl))
      · exact Or.inr hq
    · exact Or.inl (Or.inr (Or.inr (Or.inl rfl)))
    · rcases hm with hm | ⟨k, hk, hk2⟩
      · exact Or.inl (Or.inr (Or.inr (Or.inr (by rw [← hm]; exact e2))))
      · rw [hk] at e2
        obtain rfl := Option.some.inj e2
        exact Or.inr hk2
  refine ⟨he, Turns.below hB ht ho hB.size, _, Or.inr ⟨p, q', r, L', n', V', A', rfl, rfl, rfl, hP', by omega, fun x hx => ?_⟩, hin, ht⟩
  rcases hin x hx with h1 | h1
  · exact ho x h1
  · exact Nat.le_trans hB.size h1
end
def okN (size : Int) : Bool := decide (0 ≤ size ∧ size ≤ 134217728)
def errN (size : Int) : Int := if okN size then 0 else 12
def MadeM (w : World) (size : Int) (e : Ending) (w' : World) : Prop := ∃ mv, e = .returned (.tuple #[mv, .int .i64 (errN size)]) ∧ Below w.heap.size w w' ∧
  ((okN size = false ∧ mv = .pointer none) ∨ (okN size = true ∧ ∃ p q, mv = .pointer (some ⟨p, 0, none⟩) ∧ w.heap.size ≤ p ∧ w.heap.size ≤ q ∧ MemAt w' p q (List.replicate size.toNat 0) size.toNat))
def MadeR (w : World) (size : Int) (e : Ending) (w' : World) : Prop := ∃ rv, e = .returned (.tuple #[rv, .int .i64 (errN size)]) ∧ Below w.heap.size w w' ∧
  ((okN size = false ∧ rv = .pointer none) ∨ (okN size = true ∧ ∃ r, rv = .pointer (some ⟨r, 0, none⟩) ∧ w.heap.size ≤ r ∧ RefAt w' r (.slice none 0 0) [] (List.replicate size.toNat 0)))
theorem new_made (size : Int) (w : World) : Calls Try.prog 13 #[.int .i64 size] w (MadeM w size) := by
  by_cases h : 0 ≤ size ∧ size ≤ 134217728
  · have ho : okN size = true := by unfold okN; exact decide_eq_true h
    obtain ⟨k, rfl⟩ := Int.eq_ofNat_of_zero_le h.1
    refine (new_yes k w (by omega)).mono ?_
    rintro e w' ⟨rfl, hm, hb⟩
    exact ⟨_, by unfold errN; rw [ho]; rfl, hb, Or.inr ⟨ho, _, _, rfl, by omega, by omega, hm⟩⟩
  · have ho : okN size = false := by unfold okN; exact decide_eq_false h
    refine (new_no size w (by omega)).mono ?_
    rintro e w' ⟨rfl, rfl⟩
    exact ⟨_, by unfold errN; rw [ho]; rfl, Below.refl _ _, Or.inl ⟨ho, rfl⟩⟩
theorem rnew_made (size : Int) (w : World) : Calls Try.prog 30 #[.int .i64 size] w (MadeR w size) := by
  by_cases h : 0 ≤ size ∧ size ≤ 134217728
  · have ho : okN size = true := by unfold okN; exact decide_eq_true h
    obtain ⟨k, rfl⟩ := Int.eq_ofNat_of_zero_le h.1
    refine (rnew_yes k w (by omega)).mono ?_
    rintro e w' ⟨rfl, hm, hb⟩
    exact ⟨_, by unfold errN; rw [ho]; rfl, hb, Or.inr ⟨ho, _, rfl, Nat.le_refl _, hm⟩⟩
  · have ho : okN size = false := by unfold okN; exact decide_eq_false h
    refine (rnew_no size w (by omega)).mono ?_
    rintro e w' ⟨rfl, rfl⟩
    exact ⟨_, by unfold errN; rw [ho]; rfl, Below.refl _ _, Or.inl ⟨ho, rfl⟩⟩
/-- the two, made one behind the other -/
theorem made_side {w0 w w1 w2 : World} {size : Int} {mv rv : Value} (hB : Below w0.heap.size w0 w) (h1 : MadeM w size (.returned (.tuple #[mv, .int .i64 (errN size)])) w1) (h2 : MadeR w1 size (.returned (.tuple #[rv, .int .i64 (errN size)])) w2) :
    ∃ foot, SideAt w0 w2 mv rv foot 0 ∧ (∀ x, x ∈ foot → w.heap.size ≤ x) ∧ Below w0.heap.size w0 w2 ∧ Below w.heap.size w w2 := by
  obtain ⟨mv', e1, hb1, h1⟩ := h1
  obtain ⟨rv', e2, hb2, h2⟩ := h2
  obtain rfl : mv = mv' := by injection e1 with e1; injection e1 with e1; simpa using e1
  obtain rfl : rv = rv' := by injection e2 with e2; injection e2 with e2; simpa using e2
  have hb12 := Below.then hb1 hb2
  rcases h1 with ⟨o1, rfl⟩ | ⟨o1, p, q, rfl, hp, hq, hm⟩
  · rcases h2 with ⟨o2, rfl⟩ | ⟨o2, _⟩
    · exact ⟨[], Or.inl ⟨rfl, rfl, rfl⟩, fun x hx => by simp at hx, Below.then hB hb12, hb12⟩
    · rw [o1] at o2; cases o2
  · rcases h2 with ⟨o2, _⟩ | ⟨o2, r, rfl, hr, hR⟩
    · rw [o1] at o2; cases o2
    · have hin : ∀ x, x ∈ p :: q :: r :: (Value.slice none 0 0).ownBlock.toList → w.heap.size ≤ x := by
        intro x hx
        have hs := hb1.size
        simp [Value.ownBlock] at hx
        rcases hx with rfl | rfl | rfl <;> omega
      refine ⟨_, Or.inr ⟨p, q, r, _, _, _, [], rfl, rfl, rfl, ⟨hm.keep hb2, by rw [List.take_of_length_le (by simp)]; exact hR⟩, by simp, fun x hx => Nat.le_trans hB.size (hin x hx)⟩, hin, Below.then hB hb12, hb12⟩
theorem ptr_eq_mem (mv : Value) (b : Bool) (h : (b = true ∧ mv = .pointer none) ∨ (b = false ∧ ∃ p, mv = .pointer (some ⟨p, 0, none⟩))) (w : World) : (binOp .eql 22 mv (.pointer none)).run Try.prog w = .ok (.bool b) w := by
  rcases h with ⟨rfl, rfl⟩ | ⟨rfl, a, rfl⟩
  · kernel_rfl
  · kernel_rfl
theorem ptr_eq_ref (mv : Value) (b : Bool) (h : (b = true ∧ mv = .pointer none) ∨ (b = false ∧ ∃ p, mv = .pointer (some ⟨p, 0, none⟩))) (w : World) : (binOp .eql 62 mv (.pointer none)).run Try.prog w = .ok (.bool b) w := by
  rcases h with ⟨rfl, rfl⟩ | ⟨rfl, a, rfl⟩
  · kernel_rfl
  · kernel_rfl
end Go.Proofs.Ytkchhggbiopffaa
