/- What is proved here: a map keyed by int in a block of memory, as a function: look-up, store, delete, make. No condition. -/
import Derived.Test.YtpbalilnemjeeaaMemAt
import Derived.Maps.OwnSet
import Derived.Maps.OwnOps
import Derived.Maps.Views
namespace Go.Proofs.Ytpbalilnemjeeaa
set_option linter.unusedVariables false
set_option linter.unusedSimpArgs false
set_option linter.unusedSectionVars false
open Go.RowKit Go.Maps Go.ChangeMaps
/-- f, turned at one key -/
def upd (f : Int → Option Value) (k : Int) (v : Option Value) : Int → Option Value := fun j => if j = k then v else f j
theorem upd_same (f : Int → Option Value) (k : Int) (v : Option Value) : upd f k v k = v := if_pos rfl
theorem upd_other (f : Int → Option Value) (k j : Int) (v : Option Value) (h : j ≠ k) : upd f k v j = f j := if_neg h
theorem int_keyed' : Keyed Try.prog 3 := int_keyed Try.underlying3
theorem key_int {k : Int} (h : (Lit.int .i64 k).wf = true) : keyOf Try.prog 3 (.int .i64 k) = some (.int .i64 k) := keyOf_int_mk Try.underlying3 h
theorem lit_ne {j k : Int} (h : j ≠ k) : Lit.int .i64 j ≠ Lit.int .i64 k := fun e => h (by injection e)
theorem int_key (k : Int) (h : (Lit.int .i64 k).wf = true) : WideAt.IsKeyLit (Lit.int .i64 k) := int_keyed'.key (key_int h)
/-- block b is a map of at most n entries; at key k it holds f k -/
def IM (T E : TypeId) (R : Value → Option (DataW Unit × List MemPlace)) (zero : Value) (w : World) (b n : Nat) (f : Int → Option Value) : Prop :=
  ∃ D : DataW Unit, w.ownsMap Try.prog 3 R b n D ∧ ∀ k : Int, (Lit.int .i64 k).wf = true → Maps.has D (.int .i64 k) = (f k).isSome ∧ ∀ v, f k = some v → ∀ zd, ∃ ps, R v = some (D.atKey (.int .i64 k) zd, ps)
/-- what is read tells what is held -/
def Tells (R : Value → Option (DataW Unit × List MemPlace)) : Prop := ∀ v v' z z', R v = some z → R v' = some z' → z.1 = z'.1 → v = v'
section
variable {T E : TypeId} {R : Value → Option (DataW Unit × List MemPlace)} {zero : Value} {w w1 : World} {b n : Nat} {f : Int → Option Value}
theorem IM.lt (h : IM T E R zero w b n f) : b < w.heap.size := by
  obtain ⟨D, hD, _⟩ := h
  exact hD.lt
theorem IM.turn {S : List Nat} (h : IM T E R zero w b n f) (ht : Turns S w w1) (hb : ¬ b ∈ S) : IM T E R zero w1 b n f := by
  obtain ⟨D, ⟨es, clock, h1, h2⟩, h3⟩ := h
  exact ⟨D, ⟨es, clock, (ht.block b (Array.getElem?_eq_some_iff.1 h1).1 hb).trans h1, h2⟩, h3⟩
theorem IM.keep (h : IM T E R zero w b n f) (hb : Below w.heap.size w w1) : IM T E R zero w1 b n f := h.turn (S := []) (Turns.of_below hb) (by simp)
theorem IM.drew (h : IM T E R zero w b n f) : IM T E R zero w.drew b n f := h
theorem IM.drewN (h : IM T E R zero w b n f) (m : Nat) : IM T E R zero (w.drewN m) b n f := h
theorem IM.alloc (h : IM T E R zero w b n f) (o : Obj) : IM T E R zero (w.alloc o) b n f := h.keep ((Below.refl _ _).alloc (Nat.le_refl _) o)
theorem IM.made (w : World) : IM T E R zero (w.alloc (.map #[] 0)) w.heap.size 0 (fun _ => none) :=
  ⟨.map [], World.ownsMap_made w Try.prog 3 R, fun k _ => ⟨rfl, fun v h => by cases h⟩⟩
theorem IM.mono (h : IM T E R zero w b n f) {n' : Nat} (hn : n ≤ n') : IM T E R zero w b n' f := by
  obtain ⟨D, h1, h2⟩ := h
  exact ⟨D, h1.mono hn, h2⟩
theorem IM.congr (h : IM T E R zero w b n f) {g : Int → Option Value} (hg : ∀ k, (Lit.int .i64 k).wf = true → g k = f k) : IM T E R zero w b n g := by
  obtain ⟨D, h1, h2⟩ := h
  exact ⟨D, h1, fun k hk => by rw [hg k hk]; exact h2 k hk⟩
variable (hT : Try.prog.underlying T = some (.map 3 E)) (hz : ∀ w, (zeroValue E).run Try.prog w = .ok zero w) (hzd : ∃ z, R zero = some z) (hR : Tells R)
include hT hz hzd hR
theorem IM.look_ok (h : IM T E R zero w b n f) {k : Int} (hk : (Lit.int .i64 k).wf = true) : (Instr.lookup T (.map (some b)) (.int .i64 k) true).run Try.prog w = .ok (.tuple #[(f k).getD zero, .bool (f k).isSome]) w := by
  obtain ⟨D, h1, h2⟩ := h
  obtain ⟨⟨zd, zp⟩, hzd⟩ := hzd
  obtain ⟨v, ps, hrun, hRv⟩ := h1.look_ok int_keyed' hT (hz w) hzd (key_int hk)
  obtain ⟨h3, h4⟩ := h2 k hk
  rw [h3] at hrun
  rw [hrun]
  cases hf : f k with
  | some u =>
    obtain ⟨qs, hq⟩ := h4 u hf zd
    rw [hR v u _ _ hRv hq rfl]; rfl
  | none =>
    rw [hf] at h3
    rw [Maps.atKey_of_not_has h3] at hRv
    rw [hR v zero _ _ hRv hzd rfl]; rfl
theorem IM.look (h : IM T E R zero w b n f) {k : Int} (hk : (Lit.int .i64 k).wf = true) : (Instr.lookup T (.map (some b)) (.int .i64 k) false).run Try.prog w = .ok ((f k).getD zero) w := by
  obtain ⟨D, h1, h2⟩ := h
  obtain ⟨⟨zd, zp⟩, hzd⟩ := hzd
  obtain ⟨v, ps, hrun, hRv⟩ := h1.lookup int_keyed' hT (hz w) hzd (key_int hk)
  obtain ⟨h3, h4⟩ := h2 k hk
  rw [hrun]
  cases hf : f k with
  | some u =>
    obtain ⟨qs, hq⟩ := h4 u hf zd
    rw [hR v u _ _ hRv hq rfl]; rfl
  | none =>
    rw [hf] at h3
    rw [Maps.atKey_of_not_has h3] at hRv
    rw [hR v zero _ _ hRv hzd rfl]; rfl
omit hz hzd hR in
theorem turns_mapped {b : Nat} {w w' : World} (h : w.mapTurned w' b) : Turns [b] w w' := by
  obtain ⟨es, clock, es', clock', h1, rfl⟩ := h
  exact ⟨rfl, rfl, rfl, by simp [setBlock], fun k hk hn => heap_setBlock_other h1 _ (fun e => hn (by simp [e]))⟩
omit hz hzd hR in
theorem IM.store (h : IM T E R zero w b n f) (hn : n < maxLen) {k : Int} (hk : (Lit.int .i64 k).wf = true) {v : Value} {z : DataW Unit × List MemPlace} (hv : R v = some z) :
    ∃ w', (Instr.mapUpdate T (.map (some b)) (.int .i64 k) v).run Try.prog w = .ok () w' ∧ IM T E R zero w' b (n + 1) (upd f k (some v)) ∧ Turns [b] w w' := by
  obtain ⟨D, h1, h2⟩ := h
  obtain ⟨d, ps⟩ := z
  have hM := h1.isMap
  obtain ⟨w', hrun, h3, h4⟩ := h1.store int_keyed' hT hn (key_int hk) hv
  refine ⟨w', hrun, ⟨_, h3, fun j hj => ?_⟩, turns_mapped hT h4⟩
  by_cases e : j = k
  · subst e
    rw [upd_same]
    refine ⟨Maps.has_put_same hM (int_key _ hk) d, fun u hu zd => ⟨ps, ?_⟩⟩
    cases hu
    rw [Maps.atKey_put_same hM (int_key _ hk)]
    exact hv
  · rw [upd_other _ _ _ _ e]
    obtain ⟨h5, h6⟩ := h2 j hj
    refine ⟨(Maps.has_put_other (lit_ne e) d).trans h5, fun u hu zd => ?_⟩
    rw [Maps.atKey_put_other (lit_ne e)]
    exact h6 u hu zd
omit hz hzd hR in
theorem IM.drop (h : IM T E R zero w b n f) {k : Int} (hk : (Lit.int .i64 k).wf = true) (ty : TypeId) :
    ∃ w', (Builtin.delete_ #[T, 3] ty #[.map (some b), .int .i64 k]).run Try.prog w = .ok (.tuple #[]) w' ∧ IM T E R zero w' b n (upd f k none) ∧ Turns [b] w w' := by
  obtain ⟨D, h1, h2⟩ := h
  obtain ⟨w', hrun, h3, h4⟩ := h1.drop int_keyed' hT (key_int hk) ty
  refine ⟨w', hrun, ⟨_, h3, fun j hj => ?_⟩, turns_mapped hT h4⟩
  by_cases e : j = k
  · subst e
    rw [upd_same]
    exact ⟨Maps.has_del_same, fun u hu => by cases hu⟩
  · rw [upd_other _ _ _ _ e]
    obtain ⟨h5, h6⟩ := h2 j hj
    refine ⟨(Maps.has_del_other (lit_ne e)).trans h5, fun u hu zd => ?_⟩
    rw [Maps.atKey_del_other (lit_ne e)]
    exact h6 u hu zd
end
/-- the map of the live blocks -/
abbrev SM (w : World) (b n : Nat) (f : Int → Option Value) : Prop := IM 125 3 (plainElem Try.prog 3) (.int .i64 0) w b n f
theorem tells_int : Tells (plainElem Try.prog 3) := by
  intro v v' z z' h h' e
  obtain ⟨c, rfl, hc, _⟩ := plainElem_int_inv Try.underlying3 h
  obtain ⟨c', rfl, hc', _⟩ := plainElem_int_inv Try.underlying3 h'
  rw [hc, hc'] at e
  simp at e
  rw [e]
theorem zeroInt (w : World) : (zeroValue 3).run Try.prog w = .ok (.int .i64 0) w := by kernel_rfl
theorem plain_int {k : Int} (h : (Lit.int .i64 k).wf = true) : plainElem (H := Unit) Try.prog 3 (.int .i64 k) = some (.lit (.int .i64 k), []) := plainElem_int Try.underlying3 h
/-- a slice of the call's own, by its head -/
def heads : Value → Option (DataW Unit × List MemPlace)
  | .slice none 0 0 => some (.nil, [])
  | .slice (some ⟨g, o, none⟩) n c => some (.agg [.lit (.int .i64 g), .lit (.int .i64 o), .lit (.int .i64 n), .lit (.int .i64 c)], [])
  | _ => none
theorem tells_heads : Tells heads := by
  intro v v' z z' h h' e
  unfold heads at h h'
  split at h <;> split at h' <;> simp_all
  all_goals (subst h; subst h'; simp at e; first | done | omega)
abbrev FM (w : World) (b n : Nat) (f : Int → Option Value) : Prop := IM 126 29 heads (.slice none 0 0) w b n f
theorem zeroInts (w : World) : (zeroValue 29).run Try.prog w = .ok (.slice none 0 0) w := by kernel_rfl
section
variable {w : World} {b n : Nat} {f : Int → Option Value}
theorem SM.look_ok (h : SM w b n f) {k : Int} (hk : (Lit.int .i64 k).wf = true) : (Instr.lookup 125 (.map (some b)) (.int .i64 k) true).run Try.prog w = .ok (.tuple #[(f k).getD (.int .i64 0), .bool (f k).isSome]) w :=
  IM.look_ok Try.underlying125 zeroInt ⟨_, plain_int (by decide)⟩ tells_int h hk
theorem SM.look (h : SM w b n f) {k : Int} (hk : (Lit.int .i64 k).wf = true) : (Instr.lookup 125 (.map (some b)) (.int .i64 k) false).run Try.prog w = .ok ((f k).getD (.int .i64 0)) w :=
  IM.look Try.underlying125 zeroInt ⟨_, plain_int (by decide)⟩ tells_int h hk
theorem SM.store (h : SM w b n f) (hn : n < maxLen) {k c : Int} (hk : (Lit.int .i64 k).wf = true) (hc : (Lit.int .i64 c).wf = true) :
    ∃ w', (Instr.mapUpdate 125 (.map (some b)) (.int .i64 k) (.int .i64 c)).run Try.prog w = .ok () w' ∧ SM w' b (n + 1) (upd f k (some (.int .i64 c))) ∧ Turns [b] w w' :=
  IM.store Try.underlying125 h hn hk (plain_int hc)
theorem FM.look (h : FM w b n f) {k : Int} (hk : (Lit.int .i64 k).wf = true) : (Instr.lookup 126 (.map (some b)) (.int .i64 k) false).run Try.prog w = .ok ((f k).getD (.slice none 0 0)) w :=
  IM.look Try.underlying126 zeroInts ⟨_, rfl⟩ tells_heads h hk
end
end Go.Proofs.Ytpbalilnemjeeaa
