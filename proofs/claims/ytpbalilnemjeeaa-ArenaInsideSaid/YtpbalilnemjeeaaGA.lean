/- What is proved here: an arena in memory; its class, its takes where nothing is free, its tests, its calls on a live span. No condition but those that each lemma names. -/
import Derived.Test.YtpbalilnemjeeaaGM
import Derived.Shelf.Slices.SearchI
import Derived.Shelf.Slices.Empties
import Derived.Maps.OwnSet
import Derived.Maps.OwnOps
import Derived.Maps.Views
import Derived.WalkKit
import Derived.IntWalk
import Derived.Below
import Derived.Lib.Hide
import Derived.Maps.AppendAt
import Derived.OwnWalk
import Derived.RangeFuncBox
import Derived.Lib.Strings
import Derived.Lib.ConvBytes
/- What is proved here: the library's slices.BinarySearch at []int, laid at this program. No condition. -/
namespace Go.Proofs.Ytpbalilnemjeeaa
open Go.Shelf Go.RowKit
def renS : Ren := ⟨fun | 25 => 76 | 31 => 107 | 32 => 108 | 37 => 128 | n => n, fun | 0 => 0 | 3 => 3 | 4 => 4 | 22 => 29 | 40 => 47 | n => n, fun n => n⟩
theorem laysS : Lays2.n25 Try.prog renS := {
  mixed := by kernel_rfl
  f25 := by kernel_rfl
  f31 := by kernel_rfl
  f32 := by kernel_rfl
  f37 := by kernel_rfl
  t0 := by kernel_rfl
  a0 := fun w => by kernel_rfl
  z0 := fun w => by kernel_rfl
  v0 := fun w => by kernel_rfl
  t3 := by kernel_rfl
  a3 := fun w => by kernel_rfl
  z3 := fun w => by kernel_rfl
  v3 := fun w => by kernel_rfl
  t4 := by kernel_rfl
  a4 := fun w => by kernel_rfl
  z4 := fun w => by kernel_rfl
  v4 := fun w => by kernel_rfl
  t22 := by kernel_rfl
  a22 := fun w => by kernel_rfl
  z22 := fun w => by kernel_rfl
  v22 := fun w => by kernel_rfl
  t40 := by kernel_rfl
  a40 := fun w => by kernel_rfl
  z40 := fun w => by kernel_rfl
  v40 := fun w => by kernel_rfl }
theorem search_any (b off n c : Nat) (zs : List Int) (x : Int) (w : World) (hz : n ≤ zs.length) (hbig : n < 4611686018427387904) (hc : ∀ j, j < zs.length → w.cell? ⟨b, off + j, none⟩ = some (.int .i64 (zs.getD j 0))) (hs : (zs.take n).Pairwise (· ≤ ·)) :
    Calls Try.prog 76 #[.slice (some ⟨b, off, none⟩) n c, .int .i64 x] w fun e w' => e = .returned (.tuple #[.int .i64 ((zs.take n).countP (· < x) : Nat), .bool ((zs.take n).contains x)]) ∧ ∃ q, w' = w.drewN q :=
  Any.slices_BinarySearch_int laysS b off n c zs x w hz hbig hc hs
end Go.Proofs.Ytpbalilnemjeeaa
/- What is proved here: a map keyed by int in a block of memory, as a function: look-up, store, delete, make. No condition. -/
namespace Go.Proofs.Ytpbalilnemjeeaa
set_option linter.unusedVariables false
set_option linter.unusedSimpArgs false
set_option linter.unusedSectionVars false
open Go.RowKit Go.Maps Go.ChangeMaps
/-- f, turned at one key -/
def upd (f : Int → Option Value) (k : Int) (v : Option Value) : Int → Option Value := fun j => if j = k then v else f j
theorem upd_same (f : Int → Option Value) (k : Int) (v : Option Value) : upd f k v k = v := if_pos rfl
theorem upd_other (f : Int → Option Value) (k j : Int) (v : Option Value) (h : j ≠ k) : upd f k v j = f j := if_neg h
theorem int_keyed' : Keyed Try.prog 3 := int_keyed Try.underlying3
theorem key_int {k : Int} (h : (Lit.int .i64 k).wf = true) : keyOf Try.prog 3 (.int .i64 k) = some (.int .i64 k) := keyOf_int_mk Try.underlying3 h
theorem lit_ne {j k : Int} (h : j ≠ k) : Lit.int .i64 j ≠ Lit.int .i64 k := fun e => h (by injection e)
theorem int_key (k : Int) (h : (Lit.int .i64 k).wf = true) : WideAt.IsKeyLit (Lit.int .i64 k) := int_keyed'.key (key_int h)
/-- block b is a map of at most n entries; at key k it holds f k -/
def IM (T E : TypeId) (R : Value → Option (DataW Unit × List MemPlace)) (zero : Value) (w : World) (b n : Nat) (f : Int → Option Value) : Prop :=
  ∃ D : DataW Unit, w.ownsMap Try.prog 3 R b n D ∧ ∀ k : Int, (Lit.int .i64 k).wf = true → Maps.has D (.int .i64 k) = (f k).isSome ∧ ∀ v, f k = some v → ∀ zd, ∃ ps, R v = some (D.atKey (.int .i64 k) zd, ps)
/-- what is read tells what is held -/
def Tells (R : Value → Option (DataW Unit × List MemPlace)) : Prop := ∀ v v' z z', R v = some z → R v' = some z' → z.1 = z'.1 → v = v'
section
variable {T E : TypeId} {R : Value → Option (DataW Unit × List MemPlace)} {zero : Value} {w w1 : World} {b n : Nat} {f : Int → Option Value}
theorem IM.lt (h : IM T E R zero w b n f) : b < w.heap.size := by
  obtain ⟨D, hD, _⟩ := h
  exact hD.lt
theorem IM.turn {S : List Nat} (h : IM T E R zero w b n f) (ht : Turns S w w1) (hb : ¬ b ∈ S) : IM T E R zero w1 b n f := by
  obtain ⟨D, ⟨es, clock, h1, h2⟩, h3⟩ := h
  exact ⟨D, ⟨es, clock, (ht.block b (Array.getElem?_eq_some_iff.1 h1).1 hb).trans h1, h2⟩, h3⟩
theorem IM.keep (h : IM T E R zero w b n f) (hb : Below w.heap.size w w1) : IM T E R zero w1 b n f := h.turn (S := []) (Turns.of_below hb) (by simp)
theorem IM.drew (h : IM T E R zero w b n f) : IM T E R zero w.drew b n f := h
theorem IM.drewN (h : IM T E R zero w b n f) (m : Nat) : IM T E R zero (w.drewN m) b n f := h
theorem IM.alloc (h : IM T E R zero w b n f) (o : Obj) : IM T E R zero (w.alloc o) b n f := h.keep ((Below.refl _ _).alloc (Nat.le_refl _) o)
theorem IM.made (w : World) : IM T E R zero (w.alloc (.map #[] 0)) w.heap.size 0 (fun _ => none) :=
  ⟨.map [], World.ownsMap_made w Try.prog 3 R, fun k _ => ⟨rfl, fun v h => by cases h⟩⟩
theorem IM.mono (h : IM T E R zero w b n f) {n' : Nat} (hn : n ≤ n') : IM T E R zero w b n' f := by
  obtain ⟨D, h1, h2⟩ := h
  exact ⟨D, h1.mono hn, h2⟩
theorem IM.congr (h : IM T E R zero w b n f) {g : Int → Option Value} (hg : ∀ k, (Lit.int .i64 k).wf = true → g k = f k) : IM T E R zero w b n g := by
  obtain ⟨D, h1, h2⟩ := h
  exact ⟨D, h1, fun k hk => by rw [hg k hk]; exact h2 k hk⟩
variable (hT : Try.prog.underlying T = some (.map 3 E)) (hz : ∀ w, (zeroValue E).run Try.prog w = .ok zero w) (hzd : ∃ z, R zero = some z) (hR : Tells R)
include hT hz hzd hR
theorem IM.look_ok (h : IM T E R zero w b n f) {k : Int} (hk : (Lit.int .i64 k).wf = true) : (Instr.lookup T (.map (some b)) (.int .i64 k) true).run Try.prog w = .ok (.tuple #[(f k).getD zero, .bool (f k).isSome]) w := by
  obtain ⟨D, h1, h2⟩ := h
  obtain ⟨⟨zd, zp⟩, hzd⟩ := hzd
  obtain ⟨v, ps, hrun, hRv⟩ := h1.look_ok int_keyed' hT (hz w) hzd (key_int hk)
  obtain ⟨h3, h4⟩ := h2 k hk
  rw [h3] at hrun
  rw [hrun]
  cases hf : f k with
  | some u =>
    obtain ⟨qs, hq⟩ := h4 u hf zd
    rw [hR v u _ _ hRv hq rfl]; rfl
  | none =>
    rw [hf] at h3
    rw [Maps.atKey_of_not_has h3] at hRv
    rw [hR v zero _ _ hRv hzd rfl]; rfl
theorem IM.look (h : IM T E R zero w b n f) {k : Int} (hk : (Lit.int .i64 k).wf = true) : (Instr.lookup T (.map (some b)) (.int .i64 k) false).run Try.prog w = .ok ((f k).getD zero) w := by
  obtain ⟨D, h1, h2⟩ := h
  obtain ⟨⟨zd, zp⟩, hzd⟩ := hzd
  obtain ⟨v, ps, hrun, hRv⟩ := h1.lookup int_keyed' hT (hz w) hzd (key_int hk)
  obtain ⟨h3, h4⟩ := h2 k hk
  rw [hrun]
  cases hf : f k with
  | some u =>
    obtain ⟨qs, hq⟩ := h4 u hf zd
    rw [hR v u _ _ hRv hq rfl]; rfl
  | none =>
    rw [hf] at h3
    rw [Maps.atKey_of_not_has h3] at hRv
    rw [hR v zero _ _ hRv hzd rfl]; rfl
omit hz hzd hR in
theorem turns_mapped {b : Nat} {w w' : World} (h : w.mapTurned w' b) : Turns [b] w w' := by
  obtain ⟨es, clock, es', clock', h1, rfl⟩ := h
  exact ⟨rfl, rfl, rfl, by simp [setBlock], fun k hk hn => heap_setBlock_other h1 _ (fun e => hn (by simp [e]))⟩
omit hz hzd hR in
theorem IM.store (h : IM T E R zero w b n f) (hn : n < maxLen) {k : Int} (hk : (Lit.int .i64 k).wf = true) {v : Value} {z : DataW Unit × List MemPlace} (hv : R v = some z) :
    ∃ w', (Instr.mapUpdate T (.map (some b)) (.int .i64 k) v).run Try.prog w = .ok () w' ∧ IM T E R zero w' b (n + 1) (upd f k (some v)) ∧ Turns [b] w w' := by
  obtain ⟨D, h1, h2⟩ := h
  obtain ⟨d, ps⟩ := z
  have hM := h1.isMap
  obtain ⟨w', hrun, h3, h4⟩ := h1.store int_keyed' hT hn (key_int hk) hv
  refine ⟨w', hrun, ⟨_, h3, fun j hj => ?_⟩, turns_mapped hT h4⟩
  by_cases e : j = k
  · subst e
    rw [upd_same]
    refine ⟨Maps.has_put_same hM (int_key _ hk) d, fun u hu zd => ⟨ps, ?_⟩⟩
    cases hu
    rw [Maps.atKey_put_same hM (int_key _ hk)]
    exact hv
  · rw [upd_other _ _ _ _ e]
    obtain ⟨h5, h6⟩ := h2 j hj
    refine ⟨(Maps.has_put_other (lit_ne e) d).trans h5, fun u hu zd => ?_⟩
    rw [Maps.atKey_put_other (lit_ne e)]
    exact h6 u hu zd
omit hz hzd hR in
theorem IM.drop (h : IM T E R zero w b n f) {k : Int} (hk : (Lit.int .i64 k).wf = true) (ty : TypeId) :
    ∃ w', (Builtin.delete_ #[T, 3] ty #[.map (some b), .int .i64 k]).run Try.prog w = .ok (.tuple #[]) w' ∧ IM T E R zero w' b n (upd f k none) ∧ Turns [b] w w' := by
  obtain ⟨D, h1, h2⟩ := h
  obtain ⟨w', hrun, h3, h4⟩ := h1.drop int_keyed' hT (key_int hk) ty
  refine ⟨w', hrun, ⟨_, h3, fun j hj => ?_⟩, turns_mapped hT h4⟩
  by_cases e : j = k
  · subst e
    rw [upd_same]
    exact ⟨Maps.has_del_same, fun u hu => by cases hu⟩
  · rw [upd_other _ _ _ _ e]
    obtain ⟨h5, h6⟩ := h2 j hj
    refine ⟨(Maps.has_del_other (lit_ne e)).trans h5, fun u hu zd => ?_⟩
    rw [Maps.atKey_del_other (lit_ne e)]
    exact h6 u hu zd
end
/-- the map of the live blocks -/
abbrev SM (w : World) (b n : Nat) (f : Int → Option Value) : Prop := IM 125 3 (plainElem Try.prog 3) (.int .i64 0) w b n f
theorem tells_int : Tells (plainElem Try.prog 3) := by
  intro v v' z z' h h' e
  obtain ⟨c, rfl, hc, _⟩ := plainElem_int_inv Try.underlying3 h
  obtain ⟨c', rfl, hc', _⟩ := plainElem_int_inv Try.underlying3 h'
  rw [hc, hc'] at e
  simp at e
  rw [e]
theorem zeroInt (w : World) : (zeroValue 3).run Try.prog w = .ok (.int .i64 0) w := by kernel_rfl
theorem plain_int {k : Int} (h : (Lit.int .i64 k).wf = true) : plainElem (H := Unit) Try.prog 3 (.int .i64 k) = some (.lit (.int .i64 k), []) := plainElem_int Try.underlying3 h
/-- a slice of the call's own, by its head -/
def heads : Value → Option (DataW Unit × List MemPlace)
  | .slice none 0 0 => some (.nil, [])
  | .slice (some ⟨g, o, none⟩) n c => some (.agg [.lit (.int .i64 g), .lit (.int .i64 o), .lit (.int .i64 n), .lit (.int .i64 c)], [])
  | _ => none
theorem tells_heads : Tells heads := by
  intro v v' z z' h h' e
  unfold heads at h h'
  split at h <;> split at h' <;> simp_all
  all_goals (subst h; subst h'; simp at e; first | done | omega)
abbrev FM (w : World) (b n : Nat) (f : Int → Option Value) : Prop := IM 126 29 heads (.slice none 0 0) w b n f
theorem zeroInts (w : World) : (zeroValue 29).run Try.prog w = .ok (.slice none 0 0) w := by kernel_rfl
section
variable {w : World} {b n : Nat} {f : Int → Option Value}
theorem SM.look_ok (h : SM w b n f) {k : Int} (hk : (Lit.int .i64 k).wf = true) : (Instr.lookup 125 (.map (some b)) (.int .i64 k) true).run Try.prog w = .ok (.tuple #[(f k).getD (.int .i64 0), .bool (f k).isSome]) w :=
  IM.look_ok Try.underlying125 zeroInt ⟨_, plain_int (by decide)⟩ tells_int h hk
theorem SM.look (h : SM w b n f) {k : Int} (hk : (Lit.int .i64 k).wf = true) : (Instr.lookup 125 (.map (some b)) (.int .i64 k) false).run Try.prog w = .ok ((f k).getD (.int .i64 0)) w :=
  IM.look Try.underlying125 zeroInt ⟨_, plain_int (by decide)⟩ tells_int h hk
theorem SM.store (h : SM w b n f) (hn : n < maxLen) {k c : Int} (hk : (Lit.int .i64 k).wf = true) (hc : (Lit.int .i64 c).wf = true) :
    ∃ w', (Instr.mapUpdate 125 (.map (some b)) (.int .i64 k) (.int .i64 c)).run Try.prog w = .ok () w' ∧ SM w' b (n + 1) (upd f k (some (.int .i64 c))) ∧ Turns [b] w w' :=
  IM.store Try.underlying125 h hn hk (plain_int hc)
theorem FM.look (h : FM w b n f) {k : Int} (hk : (Lit.int .i64 k).wf = true) : (Instr.lookup 126 (.map (some b)) (.int .i64 k) false).run Try.prog w = .ok ((f k).getD (.slice none 0 0)) w :=
  IM.look Try.underlying126 zeroInts ⟨_, rfl⟩ tells_heads h hk
end
end Go.Proofs.Ytpbalilnemjeeaa
/- What is proved here: plain facts on the classes of blocks: the class is the least of 16, 32, 48, 64, 96, .. that is enough. No condition. -/
set_option linter.unusedVariables false
set_option linter.unusedSimpArgs false
namespace Go.Proofs.Ytpbalilnemjeeaa.Pl
/-- the loop of doubling, with fuel -/
def twoOf (n : Int) : Nat → Int → Int
  | 0, x => x
  | k + 1, x => if x < n then twoOf n k (x * 2) else x
/-- the class of n where n is in range -/
def clsIn (n : Int) : Int :=
  if 24 < twoOf n 16 16 / 4 * 3 ∧ n ≤ twoOf n 16 16 / 4 * 3 then twoOf n 16 16 / 4 * 3 else twoOf n 16 16
def cls (n : Int) : Int := if 1 ≤ n ∧ n ≤ 1048576 then clsIn n else 0
theorem cls_out {n : Int} (h : n < 1 ∨ 1048576 < n) : cls n = 0 := by unfold cls; rw [if_neg (by omega)]
theorem cls_clsIn {n : Int} (h1 : 1 ≤ n) (h2 : n ≤ 1048576) : cls n = clsIn n := by unfold cls; rw [if_pos ⟨h1, h2⟩]
theorem twoOf_step (n : Int) (k : Nat) (x y : Int) (h : x < n) (hy : x * 2 = y) : twoOf n (k + 1) x = twoOf n k y := by
  simp only [twoOf]; rw [if_pos h, hy]
theorem twoOf_stop (n : Int) (k : Nat) (x : Int) (h : ¬ x < n) : twoOf n k x = x := by
  cases k with
  | zero => rfl
  | succ k => simp only [twoOf]; rw [if_neg h]
theorem cls_two (n t m : Int) (h1 : 1 ≤ n) (h2 : n ≤ 1048576) (ht : twoOf n 16 16 = t) (hm : t / 4 * 3 = m) (hn : ¬ (24 < m ∧ n ≤ m)) : cls n = t := by
  unfold cls clsIn; rw [if_pos ⟨h1, h2⟩, ht, hm, if_neg hn]
theorem cls_mid (n t m : Int) (h1 : 1 ≤ n) (h2 : n ≤ 1048576) (ht : twoOf n 16 16 = t) (hm : t / 4 * 3 = m) (h3 : 24 < m) (h4 : n ≤ m) : cls n = m := by
  unfold cls clsIn; rw [if_pos ⟨h1, h2⟩, ht, hm, if_pos ⟨h3, h4⟩]
theorem cls16 {n : Int} (h1 : 0 < n) (h2 : n ≤ 16) : cls n = 16 :=
  cls_two n 16 12 (by omega) (by omega) (by rw [twoOf_stop n _ 16 (by omega)]) (by decide) (by omega)
theorem cls32 {n : Int} (h1 : 16 < n) (h2 : n ≤ 32) : cls n = 32 :=
  cls_two n 32 24 (by omega) (by omega) (by rw [twoOf_step n _ 16 32 (by omega) (by decide), twoOf_stop n _ 32 (by omega)]) (by decide) (by omega)
theorem cls48 {n : Int} (h1 : 32 < n) (h2 : n ≤ 48) : cls n = 48 :=
  cls_mid n 64 48 (by omega) (by omega) (by rw [twoOf_step n _ 16 32 (by omega) (by decide), twoOf_step n _ 32 64 (by omega) (by decide), twoOf_stop n _ 64 (by omega)]) (by decide) (by decide) (by omega)
theorem cls64 {n : Int} (h1 : 48 < n) (h2 : n ≤ 64) : cls n = 64 :=
  cls_two n 64 48 (by omega) (by omega) (by rw [twoOf_step n _ 16 32 (by omega) (by decide), twoOf_step n _ 32 64 (by omega) (by decide), twoOf_stop n _ 64 (by omega)]) (by decide) (by omega)
theorem cls96 {n : Int} (h1 : 64 < n) (h2 : n ≤ 96) : cls n = 96 :=
  cls_mid n 128 96 (by omega) (by omega) (by rw [twoOf_step n _ 16 32 (by omega) (by decide), twoOf_step n _ 32 64 (by omega) (by decide), twoOf_step n _ 64 128 (by omega) (by decide), twoOf_stop n _ 128 (by omega)]) (by decide) (by decide) (by omega)
theorem cls128 {n : Int} (h1 : 96 < n) (h2 : n ≤ 128) : cls n = 128 :=
  cls_two n 128 96 (by omega) (by omega) (by rw [twoOf_step n _ 16 32 (by omega) (by decide), twoOf_step n _ 32 64 (by omega) (by decide), twoOf_step n _ 64 128 (by omega) (by decide), twoOf_stop n _ 128 (by omega)]) (by decide) (by omega)
theorem cls192 {n : Int} (h1 : 128 < n) (h2 : n ≤ 192) : cls n = 192 :=
  cls_mid n 256 192 (by omega) (by omega) (by rw [twoOf_step n _ 16 32 (by omega) (by decide), twoOf_step n _ 32 64 (by omega) (by decide), twoOf_step n _ 64 128 (by omega) (by decide), twoOf_step n _ 128 256 (by omega) (by decide), twoOf_stop n _ 256 (by omega)]) (by decide) (by decide) (by omega)
theorem cls256 {n : Int} (h1 : 192 < n) (h2 : n ≤ 256) : cls n = 256 :=
  cls_two n 256 192 (by omega) (by omega) (by rw [twoOf_step n _ 16 32 (by omega) (by decide), twoOf_step n _ 32 64 (by omega) (by decide), twoOf_step n _ 64 128 (by omega) (by decide), twoOf_step n _ 128 256 (by omega) (by decide), twoOf_stop n _ 256 (by omega)]) (by decide) (by omega)
theorem cls384 {n : Int} (h1 : 256 < n) (h2 : n ≤ 384) : cls n = 384 :=
  cls_mid n 512 384 (by omega) (by omega) (by rw [twoOf_step n _ 16 32 (by omega) (by decide), twoOf_step n _ 32 64 (by omega) (by decide), twoOf_step n _ 64 128 (by omega) (by decide), twoOf_step n _ 128 256 (by omega) (by decide), twoOf_step n _ 256 512 (by omega) (by decide), twoOf_stop n _ 512 (by omega)]) (by decide) (by decide) (by omega)
theorem cls512 {n : Int} (h1 : 384 < n) (h2 : n ≤ 512) : cls n = 512 :=
  cls_two n 512 384 (by omega) (by omega) (by rw [twoOf_step n _ 16 32 (by omega) (by decide), twoOf_step n _ 32 64 (by omega) (by decide), twoOf_step n _ 64 128 (by omega) (by decide), twoOf_step n _ 128 256 (by omega) (by decide), twoOf_step n _ 256 512 (by omega) (by decide), twoOf_stop n _ 512 (by omega)]) (by decide) (by omega)
theorem cls768 {n : Int} (h1 : 512 < n) (h2 : n ≤ 768) : cls n = 768 :=
  cls_mid n 1024 768 (by omega) (by omega) (by rw [twoOf_step n _ 16 32 (by omega) (by decide), twoOf_step n _ 32 64 (by omega) (by decide), twoOf_step n _ 64 128 (by omega) (by decide), twoOf_step n _ 128 256 (by omega) (by decide), twoOf_step n _ 256 512 (by omega) (by decide), twoOf_step n _ 512 1024 (by omega) (by decide), twoOf_stop n _ 1024 (by omega)]) (by decide) (by decide) (by omega)
theorem cls1024 {n : Int} (h1 : 768 < n) (h2 : n ≤ 1024) : cls n = 1024 :=
  cls_two n 1024 768 (by omega) (by omega) (by rw [twoOf_step n _ 16 32 (by omega) (by decide), twoOf_step n _ 32 64 (by omega) (by decide), twoOf_step n _ 64 128 (by omega) (by decide), twoOf_step n _ 128 256 (by omega) (by decide), twoOf_step n _ 256 512 (by omega) (by decide), twoOf_step n _ 512 1024 (by omega) (by decide), twoOf_stop n _ 1024 (by omega)]) (by decide) (by omega)
theorem cls1536 {n : Int} (h1 : 1024 < n) (h2 : n ≤ 1536) : cls n = 1536 :=
  cls_mid n 2048 1536 (by omega) (by omega) (by rw [twoOf_step n _ 16 32 (by omega) (by decide), twoOf_step n _ 32 64 (by omega) (by decide), twoOf_step n _ 64 128 (by omega) (by decide), twoOf_step n _ 128 256 (by omega) (by decide), twoOf_step n _ 256 512 (by omega) (by decide), twoOf_step n _ 512 1024 (by omega) (by decide), twoOf_step n _ 1024 2048 (by omega) (by decide), twoOf_stop n _ 2048 (by omega)]) (by decide) (by decide) (by omega)
theorem cls2048 {n : Int} (h1 : 1536 < n) (h2 : n ≤ 2048) : cls n = 2048 :=
  cls_two n 2048 1536 (by omega) (by omega) (by rw [twoOf_step n _ 16 32 (by omega) (by decide), twoOf_step n _ 32 64 (by omega) (by decide), twoOf_step n _ 64 128 (by omega) (by decide), twoOf_step n _ 128 256 (by omega) (by decide), twoOf_step n _ 256 512 (by omega) (by decide), twoOf_step n _ 512 1024 (by omega) (by decide), twoOf_step n _ 1024 2048 (by omega) (by decide), twoOf_stop n _ 2048 (by omega)]) (by decide) (by omega)
theorem cls3072 {n : Int} (h1 : 2048 < n) (h2 : n ≤ 3072) : cls n = 3072 :=
  cls_mid n 4096 3072 (by omega) (by omega) (by rw [twoOf_step n _ 16 32 (by omega) (by decide), twoOf_step n _ 32 64 (by omega) (by decide), twoOf_step n _ 64 128 (by omega) (by decide), twoOf_step n _ 128 256 (by omega) (by decide), twoOf_step n _ 256 512 (by omega) (by decide), twoOf_step n _ 512 1024 (by omega) (by decide), twoOf_step n _ 1024 2048 (by omega) (by decide), twoOf_step n _ 2048 4096 (by omega) (by decide), twoOf_stop n _ 4096 (by omega)]) (by decide) (by decide) (by omega)
theorem cls4096 {n : Int} (h1 : 3072 < n) (h2 : n ≤ 4096) : cls n = 4096 :=
  cls_two n 4096 3072 (by omega) (by omega) (by rw [twoOf_step n _ 16 32 (by omega) (by decide), twoOf_step n _ 32 64 (by omega) (by decide), twoOf_step n _ 64 128 (by omega) (by decide), twoOf_step n _ 128 256 (by omega) (by decide), twoOf_step n _ 256 512 (by omega) (by decide), twoOf_step n _ 512 1024 (by omega) (by decide), twoOf_step n _ 1024 2048 (by omega) (by decide), twoOf_step n _ 2048 4096 (by omega) (by decide), twoOf_stop n _ 4096 (by omega)]) (by decide) (by omega)
theorem cls6144 {n : Int} (h1 : 4096 < n) (h2 : n ≤ 6144) : cls n = 6144 :=
  cls_mid n 8192 6144 (by omega) (by omega) (by rw [twoOf_step n _ 16 32 (by omega) (by decide), twoOf_step n _ 32 64 (by omega) (by decide), twoOf_step n _ 64 128 (by omega) (by decide), twoOf_step n _ 128 256 (by omega) (by decide), twoOf_step n _ 256 512 (by omega) (by decide), twoOf_step n _ 512 1024 (by omega) (by decide), twoOf_step n _ 1024 2048 (by omega) (by decide), twoOf_step n _ 2048 4096 (by omega) (by decide), twoOf_step n _ 4096 8192 (by omega) (by decide), twoOf_stop n _ 8192 (by omega)]) (by decide) (by decide) (by omega)
theorem cls8192 {n : Int} (h1 : 6144 < n) (h2 : n ≤ 8192) : cls n = 8192 :=
  cls_two n 8192 6144 (by omega) (by omega) (by rw [twoOf_step n _ 16 32 (by omega) (by decide), twoOf_step n _ 32 64 (by omega) (by decide), twoOf_step n _ 64 128 (by omega) (by decide), twoOf_step n _ 128 256 (by omega) (by decide), twoOf_step n _ 256 512 (by omega) (by decide), twoOf_step n _ 512 1024 (by omega) (by decide), twoOf_step n _ 1024 2048 (by omega) (by decide), twoOf_step n _ 2048 4096 (by omega) (by decide), twoOf_step n _ 4096 8192 (by omega) (by decide), twoOf_stop n _ 8192 (by omega)]) (by decide) (by omega)
theorem cls12288 {n : Int} (h1 : 8192 < n) (h2 : n ≤ 12288) : cls n = 12288 :=
  cls_mid n 16384 12288 (by omega) (by omega) (by rw [twoOf_step n _ 16 32 (by omega) (by decide), twoOf_step n _ 32 64 (by omega) (by decide), twoOf_step n _ 64 128 (by omega) (by decide), twoOf_step n _ 128 256 (by omega) (by decide), twoOf_step n _ 256 512 (by omega) (by decide), twoOf_step n _ 512 1024 (by omega) (by decide), twoOf_step n _ 1024 2048 (by omega) (by decide), twoOf_step n _ 2048 4096 (by omega) (by decide), twoOf_step n _ 4096 8192 (by omega) (by decide), twoOf_step n _ 8192 16384 (by omega) (by decide), twoOf_stop n _ 16384 (by omega)]) (by decide) (by decide) (by omega)
theorem cls16384 {n : Int} (h1 : 12288 < n) (h2 : n ≤ 16384) : cls n = 16384 :=
  cls_two n 16384 12288 (by omega) (by omega) (by rw [twoOf_step n _ 16 32 (by omega) (by decide), twoOf_step n _ 32 64 (by omega) (by decide), twoOf_step n _ 64 128 (by omega) (by decide), twoOf_step n _ 128 256 (by omega) (by decide), twoOf_step n _ 256 512 (by omega) (by decide), twoOf_step n _ 512 1024 (by omega) (by decide), twoOf_step n _ 1024 2048 (by omega) (by decide), twoOf_step n _ 2048 4096 (by omega) (by decide), twoOf_step n _ 4096 8192 (by omega) (by decide), twoOf_step n _ 8192 16384 (by omega) (by decide), twoOf_stop n _ 16384 (by omega)]) (by decide) (by omega)
theorem cls24576 {n : Int} (h1 : 16384 < n) (h2 : n ≤ 24576) : cls n = 24576 :=
  cls_mid n 32768 24576 (by omega) (by omega) (by rw [twoOf_step n _ 16 32 (by omega) (by decide), twoOf_step n _ 32 64 (by omega) (by decide), twoOf_step n _ 64 128 (by omega) (by decide), twoOf_step n _ 128 256 (by omega) (by decide), twoOf_step n _ 256 512 (by omega) (by decide), twoOf_step n _ 512 1024 (by omega) (by decide), twoOf_step n _ 1024 2048 (by omega) (by decide), twoOf_step n _ 2048 4096 (by omega) (by decide), twoOf_step n _ 4096 8192 (by omega) (by decide), twoOf_step n _ 8192 16384 (by omega) (by decide), twoOf_step n _ 16384 32768 (by omega) (by decide), twoOf_stop n _ 32768 (by omega)]) (by decide) (by decide) (by omega)
theorem cls32768 {n : Int} (h1 : 24576 < n) (h2 : n ≤ 32768) : cls n = 32768 :=
  cls_two n 32768 24576 (by omega) (by omega) (by rw [twoOf_step n _ 16 32 (by omega) (by decide), twoOf_step n _ 32 64 (by omega) (by decide), twoOf_step n _ 64 128 (by omega) (by decide), twoOf_step n _ 128 256 (by omega) (by decide), twoOf_step n _ 256 512 (by omega) (by decide), twoOf_step n _ 512 1024 (by omega) (by decide), twoOf_step n _ 1024 2048 (by omega) (by decide), twoOf_step n _ 2048 4096 (by omega) (by decide), twoOf_step n _ 4096 8192 (by omega) (by decide), twoOf_step n _ 8192 16384 (by omega) (by decide), twoOf_step n _ 16384 32768 (by omega) (by decide), twoOf_stop n _ 32768 (by omega)]) (by decide) (by omega)
theorem cls49152 {n : Int} (h1 : 32768 < n) (h2 : n ≤ 49152) : cls n = 49152 :=
  cls_mid n 65536 49152 (by omega) (by omega) (by rw [twoOf_step n _ 16 32 (by omega) (by decide), twoOf_step n _ 32 64 (by omega) (by decide), twoOf_step n _ 64 128 (by omega) (by decide), twoOf_step n _ 128 256 (by omega) (by decide), twoOf_step n _ 256 512 (by omega) (by decide), twoOf_step n _ 512 1024 (by omega) (by decide), twoOf_step n _ 1024 2048 (by omega) (by decide), twoOf_step n _ 2048 4096 (by omega) (by decide), twoOf_step n _ 4096 8192 (by omega) (by decide), twoOf_step n _ 8192 16384 (by omega) (by decide), twoOf_step n _ 16384 32768 (by omega) (by decide), twoOf_step n _ 32768 65536 (by omega) (by decide), twoOf_stop n _ 65536 (by omega)]) (by decide) (by decide) (by omega)
theorem cls65536 {n : Int} (h1 : 49152 < n) (h2 : n ≤ 65536) : cls n = 65536 :=
  cls_two n 65536 49152 (by omega) (by omega) (by rw [twoOf_step n _ 16 32 (by omega) (by decide), twoOf_step n _ 32 64 (by omega) (by decide), twoOf_step n _ 64 128 (by omega) (by decide), twoOf_step n _ 128 256 (by omega) (by decide), twoOf_step n _ 256 512 (by omega) (by decide), twoOf_step n _ 512 1024 (by omega) (by decide), twoOf_step n _ 1024 2048 (by omega) (by decide), twoOf_step n _ 2048 4096 (by omega) (by decide), twoOf_step n _ 4096 8192 (by omega) (by decide), twoOf_step n _ 8192 16384 (by omega) (by decide), twoOf_step n _ 16384 32768 (by omega) (by decide), twoOf_step n _ 32768 65536 (by omega) (by decide), twoOf_stop n _ 65536 (by omega)]) (by decide) (by omega)
theorem cls98304 {n : Int} (h1 : 65536 < n) (h2 : n ≤ 98304) : cls n = 98304 :=
  cls_mid n 131072 98304 (by omega) (by omega) (by rw [twoOf_step n _ 16 32 (by omega) (by decide), twoOf_step n _ 32 64 (by omega) (by decide), twoOf_step n _ 64 128 (by omega) (by decide), twoOf_step n _ 128 256 (by omega) (by decide), twoOf_step n _ 256 512 (by omega) (by decide), twoOf_step n _ 512 1024 (by omega) (by decide), twoOf_step n _ 1024 2048 (by omega) (by decide), twoOf_step n _ 2048 4096 (by omega) (by decide), twoOf_step n _ 4096 8192 (by omega) (by decide), twoOf_step n _ 8192 16384 (by omega) (by decide), twoOf_step n _ 16384 32768 (by omega) (by decide), twoOf_step n _ 32768 65536 (by omega) (by decide), twoOf_step n _ 65536 131072 (by omega) (by decide), twoOf_stop n _ 131072 (by omega)]) (by decide) (by decide) (by omega)
theorem cls131072 {n : Int} (h1 : 98304 < n) (h2 : n ≤ 131072) : cls n = 131072 :=
  cls_two n 131072 98304 (by omega) (by omega) (by rw [twoOf_step n _ 16 32 (by omega) (by decide), twoOf_step n _ 32 64 (by omega) (by decide), twoOf_step n _ 64 128 (by omega) (by decide), twoOf_step n _ 128 256 (by omega) (by decide), twoOf_step n _ 256 512 (by omega) (by decide), twoOf_step n _ 512 1024 (by omega) (by decide), twoOf_step n _ 1024 2048 (by omega) (by decide), twoOf_step n _ 2048 4096 (by omega) (by decide), twoOf_step n _ 4096 8192 (by omega) (by decide), twoOf_step n _ 8192 16384 (by omega) (by decide), twoOf_step n _ 16384 32768 (by omega) (by decide), twoOf_step n _ 32768 65536 (by omega) (by decide), twoOf_step n _ 65536 131072 (by omega) (by decide), twoOf_stop n _ 131072 (by omega)]) (by decide) (by omega)
theorem cls196608 {n : Int} (h1 : 131072 < n) (h2 : n ≤ 196608) : cls n = 196608 :=
  cls_mid n 262144 196608 (by omega) (by omega) (by rw [twoOf_step n _ 16 32 (by omega) (by decide), twoOf_step n _ 32 64 (by omega) (by decide), twoOf_step n _ 64 128 (by omega) (by decide), twoOf_step n _ 128 256 (by omega) (by decide), twoOf_step n _ 256 512 (by omega) (by decide), twoOf_step n _ 512 1024 (by omega) (by decide), twoOf_step n _ 1024 2048 (by omega) (by decide), twoOf_step n _ 2048 4096 (by omega) (by decide), twoOf_step n _ 4096 8192 (by omega) (by decide), twoOf_step n _ 8192 16384 (by omega) (by decide), twoOf_step n _ 16384 32768 (by omega) (by decide), twoOf_step n _ 32768 65536 (by omega) (by decide), twoOf_step n _ 65536 131072 (by omega) (by decide), twoOf_step n _ 131072 262144 (by omega) (by decide), twoOf_stop n _ 262144 (by omega)]) (by decide) (by decide) (by omega)
theorem cls262144 {n : Int} (h1 : 196608 < n) (h2 : n ≤ 262144) : cls n = 262144 :=
  cls_two n 262144 196608 (by omega) (by omega) (by rw [twoOf_step n _ 16 32 (by omega) (by decide), twoOf_step n _ 32 64 (by omega) (by decide), twoOf_step n _ 64 128 (by omega) (by decide), twoOf_step n _ 128 256 (by omega) (by decide), twoOf_step n _ 256 512 (by omega) (by decide), twoOf_step n _ 512 1024 (by omega) (by decide), twoOf_step n _ 1024 2048 (by omega) (by decide), twoOf_step n _ 2048 4096 (by omega) (by decide), twoOf_step n _ 4096 8192 (by omega) (by decide), twoOf_step n _ 8192 16384 (by omega) (by decide), twoOf_step n _ 16384 32768 (by omega) (by decide), twoOf_step n _ 32768 65536 (by omega) (by decide), twoOf_step n _ 65536 131072 (by omega) (by decide), twoOf_step n _ 131072 262144 (by omega) (by decide), twoOf_stop n _ 262144 (by omega)]) (by decide) (by omega)
theorem cls393216 {n : Int} (h1 : 262144 < n) (h2 : n ≤ 393216) : cls n = 393216 :=
  cls_mid n 524288 393216 (by omega) (by omega) (by rw [twoOf_step n _ 16 32 (by omega) (by decide), twoOf_step n _ 32 64 (by omega) (by decide), twoOf_step n _ 64 128 (by omega) (by decide), twoOf_step n _ 128 256 (by omega) (by decide), twoOf_step n _ 256 512 (by omega) (by decide), twoOf_step n _ 512 1024 (by omega) (by decide), twoOf_step n _ 1024 2048 (by omega) (by decide), twoOf_step n _ 2048 4096 (by omega) (by decide), twoOf_step n _ 4096 8192 (by omega) (by decide), twoOf_step n _ 8192 16384 (by omega) (by decide), twoOf_step n _ 16384 32768 (by omega) (by decide), twoOf_step n _ 32768 65536 (by omega) (by decide), twoOf_step n _ 65536 131072 (by omega) (by decide), twoOf_step n _ 131072 262144 (by omega) (by decide), twoOf_step n _ 262144 524288 (by omega) (by decide), twoOf_stop n _ 524288 (by omega)]) (by decide) (by decide) (by omega)
theorem cls524288 {n : Int} (h1 : 393216 < n) (h2 : n ≤ 524288) : cls n = 524288 :=
  cls_two n 524288 393216 (by omega) (by omega) (by rw [twoOf_step n _ 16 32 (by omega) (by decide), twoOf_step n _ 32 64 (by omega) (by decide), twoOf_step n _ 64 128 (by omega) (by decide), twoOf_step n _ 128 256 (by omega) (by decide), twoOf_step n _ 256 512 (by omega) (by decide), twoOf_step n _ 512 1024 (by omega) (by decide), twoOf_step n _ 1024 2048 (by omega) (by decide), twoOf_step n _ 2048 4096 (by omega) (by decide), twoOf_step n _ 4096 8192 (by omega) (by decide), twoOf_step n _ 8192 16384 (by omega) (by decide), twoOf_step n _ 16384 32768 (by omega) (by decide), twoOf_step n _ 32768 65536 (by omega) (by decide), twoOf_step n _ 65536 131072 (by omega) (by decide), twoOf_step n _ 131072 262144 (by omega) (by decide), twoOf_step n _ 262144 524288 (by omega) (by decide), twoOf_stop n _ 524288 (by omega)]) (by decide) (by omega)
theorem cls786432 {n : Int} (h1 : 524288 < n) (h2 : n ≤ 786432) : cls n = 786432 :=
  cls_mid n 1048576 786432 (by omega) (by omega) (by rw [twoOf_step n _ 16 32 (by omega) (by decide), twoOf_step n _ 32 64 (by omega) (by decide), twoOf_step n _ 64 128 (by omega) (by decide), twoOf_step n _ 128 256 (by omega) (by decide), twoOf_step n _ 256 512 (by omega) (by decide), twoOf_step n _ 512 1024 (by omega) (by decide), twoOf_step n _ 1024 2048 (by omega) (by decide), twoOf_step n _ 2048 4096 (by omega) (by decide), twoOf_step n _ 4096 8192 (by omega) (by decide), twoOf_step n _ 8192 16384 (by omega) (by decide), twoOf_step n _ 16384 32768 (by omega) (by decide), twoOf_step n _ 32768 65536 (by omega) (by decide), twoOf_step n _ 65536 131072 (by omega) (by decide), twoOf_step n _ 131072 262144 (by omega) (by decide), twoOf_step n _ 262144 524288 (by omega) (by decide), twoOf_step n _ 524288 1048576 (by omega) (by decide), twoOf_stop n _ 1048576 (by omega)]) (by decide) (by decide) (by omega)
theorem cls1048576 {n : Int} (h1 : 786432 < n) (h2 : n ≤ 1048576) : cls n = 1048576 :=
  cls_two n 1048576 786432 (by omega) (by omega) (by rw [twoOf_step n _ 16 32 (by omega) (by decide), twoOf_step n _ 32 64 (by omega) (by decide), twoOf_step n _ 64 128 (by omega) (by decide), twoOf_step n _ 128 256 (by omega) (by decide), twoOf_step n _ 256 512 (by omega) (by decide), twoOf_step n _ 512 1024 (by omega) (by decide), twoOf_step n _ 1024 2048 (by omega) (by decide), twoOf_step n _ 2048 4096 (by omega) (by decide), twoOf_step n _ 4096 8192 (by omega) (by decide), twoOf_step n _ 8192 16384 (by omega) (by decide), twoOf_step n _ 16384 32768 (by omega) (by decide), twoOf_step n _ 32768 65536 (by omega) (by decide), twoOf_step n _ 65536 131072 (by omega) (by decide), twoOf_step n _ 131072 262144 (by omega) (by decide), twoOf_step n _ 262144 524288 (by omega) (by decide), twoOf_step n _ 524288 1048576 (by omega) (by decide), twoOf_stop n _ 1048576 (by omega)]) (by decide) (by omega)
/-- of each n in range: its class c, the class b below it, the odd part o of c and the power j of two in c / 16 -/
structure At (n c b o : Int) (j : Nat) : Prop where
  cls : cls n = c
  lo : b < n
  hi : n ≤ c
  c16 : 16 ≤ c
  top : c ≤ 1048576
  mul : c = 16 * (o * 2 ^ j)
  jle : j ≤ 16
  odd : o = 1 ∨ o = 3
  self : Pl.cls c = c
  bself : b = 0 ∨ Pl.cls b = b
  next : Pl.cls (b + 1) = c
  b0 : 0 ≤ b
  below : b = if c = 16 then 0 else if c = 32 then 16 else if o = 3 then c / 3 * 2 else c / 4 * 3
  blt : b < c
theorem cls_at {n : Int} (h1 : 1 ≤ n) (h2 : n ≤ 1048576) : ∃ c b o, ∃ j : Nat, At n c b o j := by
  have h0 : 0 < n := by omega
  by_cases h16 : n ≤ 16
  · exact ⟨16, 0, 1, 0, cls16 h0 h16, h0, h16, by decide, by decide, by decide, by decide, by decide, cls16 (by decide) (by decide), Or.inl rfl, cls16 (by decide) (by decide), by decide, by decide, by decide⟩
  replace h16 : 16 < n := by omega
  by_cases h32 : n ≤ 32
  · exact ⟨32, 16, 1, 1, cls32 h16 h32, h16, h32, by decide, by decide, by decide, by decide, by decide, cls32 (by decide) (by decide), Or.inr (cls16 (by decide) (by decide)), cls32 (by decide) (by decide), by decide, by decide, by decide⟩
  replace h32 : 32 < n := by omega
  by_cases h48 : n ≤ 48
  · exact ⟨48, 32, 3, 0, cls48 h32 h48, h32, h48, by decide, by decide, by decide, by decide, by decide, cls48 (by decide) (by decide), Or.inr (cls32 (by decide) (by decide)), cls48 (by decide) (by decide), by decide, by decide, by decide⟩
  replace h48 : 48 < n := by omega
  by_cases h64 : n ≤ 64
  · exact ⟨64, 48, 1, 2, cls64 h48 h64, h48, h64, by decide, by decide, by decide, by decide, by decide, cls64 (by decide) (by decide), Or.inr (cls48 (by decide) (by decide)), cls64 (by decide) (by decide), by decide, by decide, by decide⟩
  replace h64 : 64 < n := by omega
  by_cases h96 : n ≤ 96
  · exact ⟨96, 64, 3, 1, cls96 h64 h96, h64, h96, by decide, by decide, by decide, by decide, by decide, cls96 (by decide) (by decide), Or.inr (cls64 (by decide) (by decide)), cls96 (by decide) (by decide), by decide, by decide, by decide⟩
  replace h96 : 96 < n := by omega
  by_cases h128 : n ≤ 128
  · exact ⟨128, 96, 1, 3, cls128 h96 h128, h96, h128, by decide, by decide, by decide, by decide, by decide, cls128 (by decide) (by decide), Or.inr (cls96 (by decide) (by decide)), cls128 (by decide) (by decide), by decide, by decide, by decide⟩
  replace h128 : 128 < n := by omega
  by_cases h192 : n ≤ 192
  · exact ⟨192, 128, 3, 2, cls192 h128 h192, h128, h192, by decide, by decide, by decide, by decide, by decide, cls192 (by decide) (by decide), Or.inr (cls128 (by decide) (by decide)), cls192 (by decide) (by decide), by decide, by decide, by decide⟩
  replace h192 : 192 < n := by omega
  by_cases h256 : n ≤ 256
  · exact ⟨256, 192, 1, 4, cls256 h192 h256, h192, h256, by decide, by decide, by decide, by decide, by decide, cls256 (by decide) (by decide), Or.inr (cls192 (by decide) (by decide)), cls256 (by decide) (by decide), by decide, by decide, by decide⟩
  replace h256 : 256 < n := by omega
  by_cases h384 : n ≤ 384
  · exact ⟨384, 256, 3, 3, cls384 h256 h384, h256, h384, by decide, by decide, by decide, by decide, by decide, cls384 (by decide) (by decide), Or.inr (cls256 (by decide) (by decide)), cls384 (by decide) (by decide), by decide, by decide, by decide⟩
  replace h384 : 384 < n := by omega
  by_cases h512 : n ≤ 512
  · exact ⟨512, 384, 1, 5, cls512 h384 h512, h384, h512, by decide, by decide, by decide, by decide, by decide, cls512 (by decide) (by decide), Or.inr (cls384 (by decide) (by decide)), cls512 (by decide) (by decide), by decide, by decide, by decide⟩
  replace h512 : 512 < n := by omega
  by_cases h768 : n ≤ 768
  · exact ⟨768, 512, 3, 4, cls768 h512 h768, h512, h768, by decide, by decide, by decide, by decide, by decide, cls768 (by decide) (by decide), Or.inr (cls512 (by decide) (by decide)), cls768 (by decide) (by decide), by decide, by decide, by decide⟩
  replace h768 : 768 < n := by omega
  by_cases h1024 : n ≤ 1024
  · exact ⟨1024, 768, 1, 6, cls1024 h768 h1024, h768, h1024, by decide, by decide, by decide, by decide, by decide, cls1024 (by decide) (by decide), Or.inr (cls768 (by decide) (by decide)), cls1024 (by decide) (by decide), by decide, by decide, by decide⟩
  replace h1024 : 1024 < n := by omega
  by_cases h1536 : n ≤ 1536
  · exact ⟨1536, 1024, 3, 5, cls1536 h1024 h1536, h1024, h1536, by decide, by decide, by decide, by decide, by decide, cls1536 (by decide) (by decide), Or.inr (cls1024 (by decide) (by decide)), cls1536 (by decide) (by decide), by decide, by decide, by decide⟩
  replace h1536 : 1536 < n := by omega
  by_cases h2048 : n ≤ 2048
  · exact ⟨2048, 1536, 1, 7, cls2048 h1536 h2048, h1536, h2048, by decide, by decide, by decide, by decide, by decide, cls2048 (by decide) (by decide), Or.inr (cls1536 (by decide) (by decide)), cls2048 (by decide) (by decide), by decide, by decide, by decide⟩
  replace h2048 : 2048 < n := by omega
  by_cases h3072 : n ≤ 3072
  · exact ⟨3072, 2048, 3, 6, cls3072 h2048 h3072, h2048, h3072, by decide, by decide, by decide, by decide, by decide, cls3072 (by decide) (by decide), Or.inr (cls2048 (by decide) (by decide)), cls3072 (by decide) (by decide), by decide, by decide, by decide⟩
  replace h3072 : 3072 < n := by omega
  by_cases h4096 : n ≤ 4096
  · exact ⟨4096, 3072, 1, 8, cls4096 h3072 h4096, h3072, h4096, by decide, by decide, by decide, by decide, by decide, cls4096 (by decide) (by decide), Or.inr (cls3072 (by decide) (by decide)), cls4096 (by decide) (by decide), by decide, by decide, by decide⟩
  replace h4096 : 4096 < n := by omega
  by_cases h6144 : n ≤ 6144
  · exact ⟨6144, 4096, 3, 7, cls6144 h4096 h6144, h4096, h6144, by decide, by decide, by decide, by decide, by decide, cls6144 (by decide) (by decide), Or.inr (cls4096 (by decide) (by decide)), cls6144 (by decide) (by decide), by decide, by decide, by decide⟩
  replace h6144 : 6144 < n := by omega
  by_cases h8192 : n ≤ 8192
  · exact ⟨8192, 6144, 1, 9, cls8192 h6144 h8192, h6144, h8192, by decide, by decide, by decide, by decide, by decide, cls8192 (by decide) (by decide), Or.inr (cls6144 (by decide) (by decide)), cls8192 (by decide) (by decide), by decide, by decide, by decide⟩
  replace h8192 : 8192 < n := by omega
  by_cases h12288 : n ≤ 12288
  · exact ⟨12288, 8192, 3, 8, cls12288 h8192 h12288, h8192, h12288, by decide, by decide, by decide, by decide, by decide, cls12288 (by decide) (by decide), Or.inr (cls8192 (by decide) (by decide)), cls12288 (by decide) (by decide), by decide, by decide, by decide⟩
  replace h12288 : 12288 < n := by omega
  by_cases h16384 : n ≤ 16384
  · exact ⟨16384, 12288, 1, 10, cls16384 h12288 h16384, h12288, h16384, by decide, by decide, by decide, by decide, by decide, cls16384 (by decide) (by decide), Or.inr (cls12288 (by decide) (by decide)), cls16384 (by decide) (by decide), by decide, by decide, by decide⟩
  replace h16384 : 16384 < n := by omega
  by_cases h24576 : n ≤ 24576
  · exact ⟨24576, 16384, 3, 9, cls24576 h16384 h24576, h16384, h24576, by decide, by decide, by decide, by decide, by decide, cls24576 (by decide) (by decide), Or.inr (cls16384 (by decide) (by decide)), cls24576 (by decide) (by decide), by decide, by decide, by decide⟩
  replace h24576 : 24576 < n := by omega
  by_cases h32768 : n ≤ 32768
  · exact ⟨32768, 24576, 1, 11, cls32768 h24576 h32768, h24576, h32768, by decide, by decide, by decide, by decide, by decide, cls32768 (by decide) (by decide), Or.inr (cls24576 (by decide) (by decide)), cls32768 (by decide) (by decide), by decide, by decide, by decide⟩
  replace h32768 : 32768 < n := by omega
  by_cases h49152 : n ≤ 49152
  · exact ⟨49152, 32768, 3, 10, cls49152 h32768 h49152, h32768, h49152, by decide, by decide, by decide, by decide, by decide, cls49152 (by decide) (by decide), Or.inr (cls32768 (by decide) (by decide)), cls49152 (by decide) (by decide), by decide, by decide, by decide⟩
  replace h49152 : 49152 < n := by omega
  by_cases h65536 : n ≤ 65536
  · exact ⟨65536, 49152, 1, 12, cls65536 h49152 h65536, h49152, h65536, by decide, by decide, by decide, by decide, by decide, cls65536 (by decide) (by decide), Or.inr (cls49152 (by decide) (by decide)), cls65536 (by decide) (by decide), by decide, by decide, by decide⟩
  replace h65536 : 65536 < n := by omega
  by_cases h98304 : n ≤ 98304
  · exact ⟨98304, 65536, 3, 11, cls98304 h65536 h98304, h65536, h98304, by decide, by decide, by decide, by decide, by decide, cls98304 (by decide) (by decide), Or.inr (cls65536 (by decide) (by decide)), cls98304 (by decide) (by decide), by decide, by decide, by decide⟩
  replace h98304 : 98304 < n := by omega
  by_cases h131072 : n ≤ 131072
  · exact ⟨131072, 98304, 1, 13, cls131072 h98304 h131072, h98304, h131072, by decide, by decide, by decide, by decide, by decide, cls131072 (by decide) (by decide), Or.inr (cls98304 (by decide) (by decide)), cls131072 (by decide) (by decide), by decide, by decide, by decide⟩
  replace h131072 : 131072 < n := by omega
  by_cases h196608 : n ≤ 196608
  · exact ⟨196608, 131072, 3, 12, cls196608 h131072 h196608, h131072, h196608, by decide, by decide, by decide, by decide, by decide, cls196608 (by decide) (by decide), Or.inr (cls131072 (by decide) (by decide)), cls196608 (by decide) (by decide), by decide, by decide, by decide⟩
  replace h196608 : 196608 < n := by omega
  by_cases h262144 : n ≤ 262144
  · exact ⟨262144, 196608, 1, 14, cls262144 h196608 h262144, h196608, h262144, by decide, by decide, by decide, by decide, by decide, cls262144 (by decide) (by decide), Or.inr (cls196608 (by decide) (by decide)), cls262144 (by decide) (by decide), by decide, by decide, by decide⟩
  replace h262144 : 262144 < n := by omega
  by_cases h393216 : n ≤ 393216
  · exact ⟨393216, 262144, 3, 13, cls393216 h262144 h393216, h262144, h393216, by decide, by decide, by decide, by decide, by decide, cls393216 (by decide) (by decide), Or.inr (cls262144 (by decide) (by decide)), cls393216 (by decide) (by decide), by decide, by decide, by decide⟩
  replace h393216 : 393216 < n := by omega
  by_cases h524288 : n ≤ 524288
  · exact ⟨524288, 393216, 1, 15, cls524288 h393216 h524288, h393216, h524288, by decide, by decide, by decide, by decide, by decide, cls524288 (by decide) (by decide), Or.inr (cls393216 (by decide) (by decide)), cls524288 (by decide) (by decide), by decide, by decide, by decide⟩
  replace h524288 : 524288 < n := by omega
  by_cases h786432 : n ≤ 786432
  · exact ⟨786432, 524288, 3, 14, cls786432 h524288 h786432, h524288, h786432, by decide, by decide, by decide, by decide, by decide, cls786432 (by decide) (by decide), Or.inr (cls524288 (by decide) (by decide)), cls786432 (by decide) (by decide), by decide, by decide, by decide⟩
  replace h786432 : 786432 < n := by omega
  have h1048576 : n ≤ 1048576 := h2
  exact ⟨1048576, 786432, 1, 16, cls1048576 h786432 h1048576, h786432, h1048576, by decide, by decide, by decide, by decide, by decide, cls1048576 (by decide) (by decide), Or.inr (cls786432 (by decide) (by decide)), cls1048576 (by decide) (by decide), by decide, by decide, by decide⟩

theorem cls_ge {n : Int} (h2 : n ≤ 1048576) : n ≤ cls n := by
  by_cases h : 1 ≤ n
  · obtain ⟨c, b, o, j, H⟩ := cls_at h h2; rw [H.cls]; exact H.hi
  · rw [cls_out (by omega)]; omega
theorem cls_bounds {n : Int} (h1 : 1 ≤ n) (h2 : n ≤ 1048576) : 16 ≤ cls n ∧ cls n ≤ 1048576 ∧ cls n % 16 = 0 ∧ cls (cls n) = cls n := by
  obtain ⟨c, b, o, j, H⟩ := cls_at h1 h2; rw [H.cls]; exact ⟨H.c16, H.top, by have := H.mul; omega, H.self⟩
end Go.Proofs.Ytpbalilnemjeeaa.Pl
/- What is proved here: the contract of arena.Class: it answers the class of n, 0 out of range, and the world stays. No condition. -/
set_option linter.unusedVariables false
set_option linter.unusedSimpArgs false
namespace Go.Proofs.Ytpbalilnemjeeaa
open Go.RowKit Pl
theorem class_out (n : Int) (w : World) (h : n < 1 ∨ 1048576 < n) :
    Calls Try.prog 50 #[.int .i64 n] w fun e w' => e = .returned (.int .i64 0) ∧ w = w' := by
  rcases h with h | h
  · go_enter Try.func50, Try.ntmps50
    go_wp2
    go_ret
    exact ⟨rfl, rfl⟩
  · have h' : ¬ n < 1 := by omega
    go_enter Try.func50, Try.ntmps50
    go_wp2
    go_ret
    exact ⟨rfl, rfl⟩
theorem class_in (n : Int) (w : World) (h1 : 1 ≤ n) (h2 : n ≤ 1048576) :
    Calls Try.prog 50 #[.int .i64 n] w fun e w' => e = .returned (.int .i64 (clsIn n)) ∧ w = w' := by
  have g1 : ¬ n < 1 := by omega
  have g2 : ¬ 1048576 < n := by omega
  go_enter Try.func50, Try.ntmps50
  go_wp2
  go_loop [3] (fun x => ∃ (k : Nat) (t : Int), x = .int .i64 t ∧ 16 ≤ t ∧ t ≤ 1048576 ∧ Hid (t * 2 ^ k = 1048576) ∧ Hid (twoOf n k t = twoOf n 16 16)) (fun x => (1048576 - intOf x).toNat)
  case atStart => exact ⟨16, 16, rfl, by decide, by decide, by unfold Hid; decide, rfl⟩
  case round =>
    obtain ⟨k, t, rfl, ht1, ht2, ht3, ht4⟩ := hrel
    by_cases hlt : t < n
    · have hk : ∃ k', k = k' + 1 := by
        cases k with
        | zero => have := ht3.out; simp at this; omega
        | succ k' => exact ⟨k', rfl⟩
      obtain ⟨k', rfl⟩ := hk
      have hp : Hid (t * 2 * 2 ^ k' = 1048576) := by have := ht3.out; unfold Hid; rw [Int.pow_succ] at this; rw [← this, Int.mul_assoc, Int.mul_comm 2]
      have ht5 : t * 2 ≤ 1048576 := by
        have := hp.out
        have h3 : (1 : Int) ≤ 2 ^ k' := Int.add_one_le_of_lt (Int.pow_pos (by decide))
        have h4 : t * 2 * 1 ≤ t * 2 * 2 ^ k' := Int.mul_le_mul_of_nonneg_left h3 (by omega)
        omega
      have hq : Hid (twoOf n k' (t * 2) = twoOf n 16 16) := by have := ht4.out; unfold Hid; rw [← this, twoOf_step n k' t _ hlt rfl]
      go_wp2
      go_round
      case rel => exact ⟨k', t * 2, rfl, by omega, ht5, hp, hq⟩
      case measure => simp [intOf]; omega
    · have he : Hid (twoOf n 16 16 = t) := by have := ht4.out; unfold Hid; rw [← this, twoOf_stop n k t hlt]
      clear ht4
      go_wp2
      · have a1 : 24 < t / 4 * 3 := by assumption
        have a2 : n ≤ t / 4 * 3 := by assumption
        go_ret
        exact ⟨ret_int (by unfold clsIn; rw [he.out, if_pos ⟨a1, a2⟩]), rfl⟩
      · have a2 : t / 4 * 3 < n := by assumption
        go_ret
        exact ⟨ret_int (by unfold clsIn; rw [he.out, if_neg (by omega)]), rfl⟩
      · have a1 : t / 4 * 3 ≤ 24 := by assumption
        go_ret
        exact ⟨ret_int (by unfold clsIn; rw [he.out, if_neg (by omega)]), rfl⟩
theorem class_any (n : Int) (w : World) :
    Calls Try.prog 50 #[.int .i64 n] w fun e w' => e = .returned (.int .i64 (cls n)) ∧ w = w' := by
  by_cases h : 1 ≤ n ∧ n ≤ 1048576
  · rw [cls_clsIn h.1 h.2]; exact class_in n w h.1 h.2
  · rw [cls_out (by omega)]; exact class_out n w (by omega)
end Go.Proofs.Ytpbalilnemjeeaa
/- What is proved here: a list of parts (bytes, live or not), one behind the other from 16 on: starts, ends, sizes, sums. No condition, no program. -/
set_option linter.unusedVariables false
set_option linter.unusedSimpArgs false
namespace Go.Proofs.Ytpbalilnemjeeaa.Pa
open Go
/-- the parts: bytes, and whether it is live -/
abbrev Parts := List (Nat × Bool)
def total (ps : Parts) : Nat := (ps.map (·.1)).sum
def endOf (ps : Parts) : Nat := 16 + total ps
def startsFrom (o : Nat) : Parts → List Nat
  | [] => []
  | (c, _) :: t => o :: startsFrom (o + c) t
def starts (ps : Parts) : List Nat := startsFrom 16 ps
def sizeFrom (o : Nat) : Parts → Int → Option Nat
  | [], _ => none
  | (c, l) :: t, k => if k = (o : Int) then (if l = true then some c else none) else sizeFrom (o + c) t k
def liveSum : Parts → Nat
  | [] => 0
  | (c, l) :: t => (if l = true then c else 0) + liveSum t
def deadFrom (o : Nat) : Parts → Int → List Nat
  | [], _ => []
  | (c, l) :: t, x => if l = false ∧ (c : Int) = x then o :: deadFrom (o + c) t x else deadFrom (o + c) t x
def szF (ps : Parts) : Int → Option Value := fun k => (sizeFrom 16 ps k).map fun (c : Nat) => Value.int .i64 (c : Int)
theorem total_nil : total [] = 0 := rfl
theorem total_cons (a : Nat × Bool) (t : Parts) : total (a :: t) = a.1 + total t := by simp [total]
theorem total_app (ps qs : Parts) : total (ps ++ qs) = total ps + total qs := by simp [total]
theorem startsFrom_len (o : Nat) (ps : Parts) : (startsFrom o ps).length = ps.length := by
  induction ps generalizing o with
  | nil => rfl
  | cons a t ih => simp [startsFrom, ih]
theorem startsFrom_app (o : Nat) (ps : Parts) (c : Nat) (l : Bool) : startsFrom o (ps ++ [(c, l)]) = startsFrom o ps ++ [o + total ps] := by
  induction ps generalizing o with
  | nil => simp [startsFrom, total]
  | cons a t ih => simp [startsFrom, ih, total_cons, Nat.add_assoc]
theorem starts_app (ps : Parts) (c : Nat) (l : Bool) : starts (ps ++ [(c, l)]) = starts ps ++ [endOf ps] := startsFrom_app 16 ps c l
theorem endOf_app (ps : Parts) (c : Nat) (l : Bool) : endOf (ps ++ [(c, l)]) = endOf ps + c := by simp [endOf, total_app, total]; omega
theorem liveSum_app (ps : Parts) (c : Nat) : liveSum (ps ++ [(c, true)]) = liveSum ps + c := by
  induction ps with
  | nil => simp [liveSum]
  | cons a t ih => simp only [List.cons_append, liveSum, ih]; omega
theorem deadFrom_app (o : Nat) (ps : Parts) (c : Nat) (x : Int) : deadFrom o (ps ++ [(c, true)]) x = deadFrom o ps x := by
  induction ps generalizing o with
  | nil => simp [deadFrom]
  | cons a t ih => simp only [List.cons_append, deadFrom, ih]
theorem sizeFrom_below (o : Nat) (ps : Parts) (k : Int) (h : k < o) : sizeFrom o ps k = none := by
  induction ps generalizing o with
  | nil => rfl
  | cons a t ih => unfold sizeFrom; rw [if_neg (by omega)]; exact ih _ (by omega)
theorem sizeFrom_end (o : Nat) (ps : Parts) (hp : ∀ a ∈ ps, 1 ≤ a.1) (k : Int) (h : (o + total ps : Nat) ≤ k) : sizeFrom o ps k = none := by
  induction ps generalizing o with
  | nil => rfl
  | cons a t ih =>
    have h1 := hp a (by simp)
    rw [total_cons] at h
    unfold sizeFrom
    rw [if_neg (by omega)]
    exact ih _ (fun b hb => hp b (by simp [hb])) (by omega)
theorem sizeFrom_app (o : Nat) (ps : Parts) (hp : ∀ a ∈ ps, 1 ≤ a.1) (c : Nat) (k : Int) : sizeFrom o (ps ++ [(c, true)]) k = if k = ((o + total ps : Nat) : Int) then some c else sizeFrom o ps k := by
  induction ps generalizing o with
  | nil => simp [sizeFrom, total]
  | cons a t ih =>
    have h1 := hp a (by simp)
    rw [List.cons_append]
    unfold sizeFrom
    rw [total_cons]
    by_cases e : k = (o : Int)
    · have e2 : ¬ k = ((o + (a.1 + total t) : Nat) : Int) := by omega
      rw [if_pos e, if_neg e2, if_pos e]
    · rw [if_neg e, if_neg e, ih _ (fun b hb => hp b (by simp [hb])), show o + a.1 + total t = o + (a.1 + total t) by omega]
theorem szF_app (ps : Parts) (hp : ∀ a ∈ ps, 1 ≤ a.1) (c : Nat) : szF (ps ++ [(c, true)]) = upd (szF ps) ((endOf ps : Nat) : Int) (some (.int .i64 (c : Int))) := by
  funext k
  unfold szF upd
  rw [sizeFrom_app 16 ps hp c k]
  by_cases e : k = ((endOf ps : Nat) : Int)
  · have e2 : k = ((16 + total ps : Nat) : Int) := e
    rw [if_pos e, if_pos e2]; rfl
  · have e2 : ¬ k = ((16 + total ps : Nat) : Int) := e
    rw [if_neg e, if_neg e2]
theorem total_ge (ps : Parts) (hp : ∀ a ∈ ps, 16 ≤ a.1) : 16 * ps.length ≤ total ps := by
  induction ps with
  | nil => simp
  | cons a t ih =>
    have h1 := hp a (by simp)
    have := ih (fun b hb => hp b (by simp [hb]))
    rw [total_cons, List.length_cons]; omega
theorem liveSum_le (ps : Parts) : liveSum ps ≤ total ps := by
  induction ps with
  | nil => simp [liveSum]
  | cons a t ih => rw [total_cons]; unfold liveSum; split <;> omega
theorem startsFrom_get (o : Nat) (ps : Parts) (i : Nat) (h : i < ps.length) : (startsFrom o ps)[i]? = some (o + total (ps.take i)) := by
  induction ps generalizing o i with
  | nil => simp at h
  | cons a t ih =>
    cases i with
    | zero => simp [startsFrom, total]
    | succ i => simp only [startsFrom, List.getElem?_cons_succ, List.take_succ_cons, total_cons]; rw [ih _ _ (by simpa using h)]; simp; omega
theorem starts_get (ps : Parts) (i : Nat) (h : i < ps.length) : (starts ps)[i]? = some (16 + total (ps.take i)) := startsFrom_get 16 ps i h
theorem total_take_succ (ps : Parts) (i : Nat) (a : Nat × Bool) (h : ps[i]? = some a) : total (ps.take (i + 1)) = total (ps.take i) + a.1 := by
  rw [List.take_add_one, h]; simp [total_app, total]
theorem total_take_le (ps : Parts) (i : Nat) : total (ps.take i) ≤ total ps := by
  have e : total ps = total (ps.take i) + total (ps.drop i) := by rw [← total_app, List.take_append_drop]
  omega
theorem sizeFrom_at (o : Nat) (ps : Parts) (hp : ∀ a ∈ ps, 1 ≤ a.1) (i c : Nat) (l : Bool) (h : ps[i]? = some (c, l)) : sizeFrom o ps ((o + total (ps.take i) : Nat) : Int) = if l = true then some c else none := by
  induction ps generalizing o i with
  | nil => simp at h
  | cons a t ih =>
    have h1 := hp a (by simp)
    cases i with
    | zero =>
      simp at h
      subst h
      unfold sizeFrom
      rw [if_pos (by simp [total])]
    | succ i =>
      unfold sizeFrom
      rw [List.take_succ_cons, total_cons, if_neg (by omega), show o + (a.1 + total (t.take i)) = o + a.1 + total (t.take i) by omega]
      exact ih _ (fun b hb => hp b (by simp [hb])) i (by simpa using h)
end Go.Proofs.Ytpbalilnemjeeaa.Pa
namespace Go.Proofs.Ytpbalilnemjeeaa.Pd
/-- a number of the kind int -/
def isI (e : Int) : Prop := -9223372036854775808 ≤ e ∧ e ≤ 9223372036854775807
end Go.Proofs.Ytpbalilnemjeeaa.Pd
/- What is proved here: an arena in memory: its head, its memory, its lists, its two maps; what a call that turns other blocks leaves of it; New and End. No condition. -/
namespace Go.Proofs.Ytpbalilnemjeeaa
set_option linter.unusedVariables false
set_option linter.unusedSimpArgs false
open Go.RowKit Pm Pa
def rows (v : Value) : List Nat := v.ownBlock.toList
def ints (l : List Nat) : List Value := l.map fun (x : Nat) => Value.int .i64 (x : Int)
theorem ints_len (l : List Nat) : (ints l).length = l.length := by simp [ints]
theorem ints_app (l : List Nat) (x : Nat) : ints (l ++ [x]) = ints l ++ [.int .i64 (x : Int)] := by simp [ints]
/-- one list of free blocks -/
def FreeRow (w : World) (fb : List Nat) (u : Value) (xs : List Nat) : Prop :=
  (u = .slice none 0 0 ∧ xs = []) ∨ ∃ g o cap cur, u = .slice (some ⟨g, o, none⟩) xs.length cap ∧ g ∈ fb ∧ w.heap[g]? = some (.cells cur 3 (0, 0)) ∧ o + cap ≤ cur.size ∧ xs.length ≤ cap ∧ cap ≤ maxLen ∧ ∀ (k x : Nat), xs[k]? = some x → cur[o + k]? = some (.int .i64 (x : Int))
/-- the map of the free blocks -/
def FreeAt (w : World) (b : Nat) (ps : Parts) (fb : List Nat) : Prop :=
  ∃ f, FM w b ps.length f ∧ (∀ k : Int, (Lit.int .i64 k).wf = true → FreeRow w fb ((f k).getD (.slice none 0 0)) (deadFrom 16 ps k)) ∧
    (∀ (j k : Int) (u v : Value) (g : Nat), j ≠ k → f j = some u → f k = some v → u.ownBlock = some g → v.ownBlock = some g → False) ∧ ∀ k : Int, (f k).isSome = true → k ∈ ps.map fun a => (a.1 : Int)
structure Loc where
  m : Nat
  q : Nat
  bs : Nat
  bf : Nat
  v1 : Value
  v2 : Value
  fb : List Nat
def Loc.all (x : Loc) (p : Nat) : List Nat := p :: x.m :: x.q :: x.bs :: x.bf :: (rows x.v1 ++ rows x.v2 ++ x.fb)
/-- the blocks are apart: each has a tag of its kind -/
def Tagged (x : Loc) (p : Nat) : Prop := ∃ lab : Nat → Nat, lab p = 0 ∧ lab x.m = 1 ∧ lab x.q = 2 ∧ lab x.bs = 3 ∧ lab x.bf = 4 ∧ (∀ g, g ∈ rows x.v1 → lab g = 5) ∧ (∀ g, g ∈ rows x.v2 → lab g = 6) ∧ ∀ g, g ∈ x.fb → lab g = 7
theorem Tagged.turn {x x' : Loc} {p N : Nat} (h : Tagged x p) (hN : ∀ k, k ∈ x.all p → k < N) (hm : x'.m = x.m) (hbs : x'.bs = x.bs) (hbf : x'.bf = x.bf) (hfb : x'.fb = x.fb)
    (hq : x'.q = x.q ∨ N ≤ x'.q) (h1 : ∀ g, g ∈ rows x'.v1 → g ∈ rows x.v1 ∨ (N ≤ g ∧ g ≠ x'.q)) (h2 : ∀ g, g ∈ rows x'.v2 → g ∈ rows x.v2 ∨ (N ≤ g ∧ g ≠ x'.q ∧ ¬ g ∈ rows x'.v1)) : Tagged x' p := by
  obtain ⟨lab, l0, l1, l2, l3, l4, l5, l6, l7⟩ := h
  have hl : ∀ k, k = p ∨ k = x.m ∨ k = x.q ∨ k = x.bs ∨ k = x.bf ∨ k ∈ rows x.v1 ∨ k ∈ rows x.v2 ∨ k ∈ x.fb → k < N := fun k hk => hN k (by simp [Loc.all]; exact hk)
  refine ⟨fun k => if k < N then lab k else if k = x'.q then 2 else if k ∈ rows x'.v1 then 5 else 6, ?_, ?_, ?_, ?_, ?_, ?_, ?_, ?_⟩
  · simp only []; rw [if_pos (hl p (by simp))]; exact l0
  · simp only [hm]; rw [if_pos (hl x.m (by simp))]; exact l1
  · simp only []
    rcases hq with e | e
    · rw [e, if_pos (hl x.q (by simp))]; exact l2
    · rw [if_neg (by omega), if_pos trivial]
  · simp only [hbs]; rw [if_pos (hl x.bs (by simp))]; exact l3
  · simp only [hbf]; rw [if_pos (hl x.bf (by simp))]; exact l4
  · intro g hg
    simp only []
    rcases h1 g hg with e | ⟨e, e2⟩
    · rw [if_pos (hl g (by simp [e]))]; exact l5 g e
    · rw [if_neg (by omega), if_neg e2, if_pos hg]
  · intro g hg
    simp only []
    rcases h2 g hg with e | ⟨e, e2, e3⟩
    · rw [if_pos (hl g (by simp [e]))]; exact l6 g e
    · rw [if_neg (by omega), if_neg e2, if_neg e3]
  · intro g hg
    rw [hfb] at hg
    simp only []
    rw [if_pos (hl g (by simp [hg]))]; exact l7 g hg
/-- an arena at block p -/
structure ArAt (w : World) (p : Nat) (x : Loc) (lim : Nat) (ps : Parts) (L : List UInt8) : Prop where
  hd : Blk w p #[.int .i64 (lim : Int), .int .i64 (liveSum ps : Int), .pointer (some ⟨x.m, 0, none⟩), x.v1, x.v2, .map (some x.bs), .map (some x.bf)] 128
  mem : MemAt w x.m x.q L (endOf ps)
  st : w.ownsRow 0 3 1 x.v1 ps.length (ints (starts ps))
  cl : w.ownsRow 0 3 1 x.v2 ps.length (ints (ps.map (·.1)))
  sz : SM w x.bs ps.length (szF ps)
  fr : FreeAt w x.bf ps x.fb
  nd : Tagged x p
  fl : ∀ k, k ∈ x.fb → k < w.heap.size
  pos : ∀ a ∈ ps, 16 ≤ a.1 ∧ a.1 ≤ 1048576
  lv : liveSum ps ≤ lim
  lm : lim ≤ 2097152
theorem row_turn {w w' : World} {S : List Nat} {base size n : Nat} {e : TypeId} {v : Value} {xs : List Value} (h : w.ownsRow base e size v n xs) (ht : Turns S w w') (hS : ∀ g, g ∈ rows v → ¬ g ∈ S) : w'.ownsRow base e size v n xs := by
  refine ⟨h.1, ?_⟩
  rcases h.2 with hn | ⟨g, cap, cur, rfl, hb, hgg, rest⟩
  · exact .inl hn
  · refine .inr ⟨g, cap, cur, rfl, hb, ?_, rest⟩
    rw [ht.block g (Array.getElem?_eq_some_iff.1 hgg).1 (hS g (by simp [rows, Value.ownBlock]))]
    exact hgg
theorem turns_grown {w w' : World} {v : Value} (h : w.grownBy w' v.ownBlock) : Turns (rows v) w w' :=
  ⟨h.os, h.tape, h.output, h.size, fun k hk hn => h.block k hk (fun e => hn (by rw [rows, ← e]; simp))⟩
theorem row_lt {w : World} {base size n : Nat} {e : TypeId} {v : Value} {xs : List Value} (h : w.ownsRow base e size v n xs) {g : Nat} (hg : g ∈ rows v) : g < w.heap.size := (h.lt g (by simpa [rows] using hg)).2
theorem free_turn {w w' : World} {S fb : List Nat} {b : Nat} {ps : Parts} (h : FreeAt w b ps fb) (ht : Turns S w w') (hb : ¬ b ∈ S) (hf : ∀ g, g ∈ fb → ¬ g ∈ S) : FreeAt w' b ps fb := by
  obtain ⟨f, h1, h2, h3⟩ := h
  refine ⟨f, h1.turn ht hb, fun k hk => ?_, h3⟩
  rcases h2 k hk with h | ⟨g, o, cap, cur, e1, e2, e3, e4⟩
  · exact .inl h
  · exact .inr ⟨g, o, cap, cur, e1, e2, (ht.block g (Array.getElem?_eq_some_iff.1 e3).1 (hf g e2)).trans e3, e4⟩
theorem free_app {w : World} {fb : List Nat} {b : Nat} {ps : Parts} (h : FreeAt w b ps fb) (c : Nat) : FreeAt w b (ps ++ [(c, true)]) fb := by
  obtain ⟨f, h1, h2, h3, h4⟩ := h
  exact ⟨f, IM.mono h1 (by simp), fun k hk => by rw [deadFrom_app]; exact h2 k hk, h3, fun k hk => by rw [List.map_append]; exact List.mem_append_left _ (h4 k hk)⟩
section
variable {w w' : World} {p : Nat} {x : Loc} {lim : Nat} {ps : Parts} {L : List UInt8}
theorem mem_all (k : Nat) : k ∈ x.all p ↔ k = p ∨ k = x.m ∨ k = x.q ∨ k = x.bs ∨ k = x.bf ∨ k ∈ rows x.v1 ∨ k ∈ rows x.v2 ∨ k ∈ x.fb := by
  simp [Loc.all]
theorem ArAt.turn (h : ArAt w p x lim ps L) {S : List Nat} (ht : Turns S w w') (hS : ∀ k, k ∈ x.all p → ¬ k ∈ S) : ArAt w' p x lim ps L := by
  have hm := fun k hk => hS k ((mem_all k).2 hk)
  exact ⟨h.hd.turn ht (hm _ (.inl rfl)), h.mem.turn ht (hm _ (.inr (.inl rfl))) (hm _ (.inr (.inr (.inl rfl)))), row_turn h.st ht (fun g hg => hm g (by simp [hg])), row_turn h.cl ht (fun g hg => hm g (by simp [hg])),
    h.sz.turn ht (hm _ (by simp)), free_turn h.fr ht (hm _ (by simp)) (fun g hg => hm g (by simp [hg])), h.nd, fun k hk => Nat.lt_of_lt_of_le (h.fl k hk) ht.size, h.pos, h.lv, h.lm⟩
theorem ArAt.keep (h : ArAt w p x lim ps L) (hb : Below w.heap.size w w') : ArAt w' p x lim ps L := h.turn (S := []) (Turns.of_below hb) (by simp)
theorem ArAt.drew (h : ArAt w p x lim ps L) : ArAt w.drew p x lim ps L := h.keep (Below.refl _ _).drew
theorem ArAt.drewN (h : ArAt w p x lim ps L) (m : Nat) : ArAt (w.drewN m) p x lim ps L := h.keep (below_drewN (Below.refl _ _) m)
theorem ArAt.alloc (h : ArAt w p x lim ps L) (o : Obj) : ArAt (w.alloc o) p x lim ps L := h.keep ((Below.refl _ _).alloc (Nat.le_refl _) o)
theorem ArAt.cells (h : ArAt w p x lim ps L) : w.cell? ⟨p, 0, none⟩ = some (.int .i64 (lim : Int)) ∧ w.cell? ⟨p, 1, none⟩ = some (.int .i64 (liveSum ps : Int)) ∧ w.cell? ⟨p, 2, none⟩ = some (.pointer (some ⟨x.m, 0, none⟩)) ∧
    w.cell? ⟨p, 3, none⟩ = some x.v1 ∧ w.cell? ⟨p, 4, none⟩ = some x.v2 ∧ w.cell? ⟨p, 5, none⟩ = some (.map (some x.bs)) ∧ w.cell? ⟨p, 6, none⟩ = some (.map (some x.bf)) :=
  ⟨h.hd.cell 0, h.hd.cell 1, h.hd.cell 2, h.hd.cell 3, h.hd.cell 4, h.hd.cell 5, h.hd.cell 6⟩
theorem ArAt.lt (h : ArAt w p x lim ps L) (k : Nat) (hk : k ∈ x.all p) : k < w.heap.size := by
  rcases (mem_all k).1 hk with rfl | rfl | rfl | rfl | rfl | hk | hk | hk
  · exact h.hd.lt
  · exact h.mem.ptr.lt
  · exact h.mem.dat.lt
  · exact h.sz.lt
  · obtain ⟨f, h1, _⟩ := h.fr
    exact h1.lt
  · exact row_lt h.st hk
  · exact row_lt h.cl hk
  · exact h.fl k hk
theorem ArAt.endle (h : ArAt w p x lim ps L) : endOf ps ≤ 134217728 := Nat.le_trans h.mem.le h.mem.cap
theorem ArAt.len (h : ArAt w p x lim ps L) : 16 * ps.length + 16 ≤ 134217728 := by
  have := h.endle
  have := total_ge ps (fun a ha => (h.pos a ha).1)
  unfold endOf at *
  omega
theorem ar_end (h : ArAt w p x lim ps L) : Calls Try.prog 33 #[.pointer (some ⟨p, 0, none⟩)] w fun e w' => e = .returned (.int .i64 (endOf ps : Int)) ∧ w = w' := by
  obtain ⟨c0, c1, c2, c3, c4, c5, c6⟩ := h.cells
  have hm := h.mem
  clear h
  go_enter Try.func33, Try.ntmps33
  go_wp2_with (first | (go_at_call 78; refine (len_any hm).mono ?_; rintro e w' ⟨rfl, rfl⟩) | fail)
  go_ret
  exact ⟨rfl, rfl⟩
theorem ar_live (h : ArAt w p x lim ps L) : Calls Try.prog 34 #[.pointer (some ⟨p, 0, none⟩)] w fun e w' => e = .returned (.int .i64 (liveSum ps : Int)) ∧ w = w' := by
  obtain ⟨c0, c1, c2, c3, c4, c5, c6⟩ := h.cells
  clear h
  go_enter Try.func34, Try.ntmps34
  go_wp2_with fail
  go_ret
  exact ⟨rfl, rfl⟩
theorem ar_limit (h : ArAt w p x lim ps L) : Calls Try.prog 42 #[.pointer (some ⟨p, 0, none⟩)] w fun e w' => e = .returned (.int .i64 (lim : Int)) ∧ w = w' := by
  obtain ⟨c0, c1, c2, c3, c4, c5, c6⟩ := h.cells
  clear h
  go_enter Try.func42, Try.ntmps42
  go_wp2_with fail
  go_ret
  exact ⟨rfl, rfl⟩
end
theorem free_made (w : World) : FreeAt (w.alloc (.map #[] 0)) w.heap.size [] [] := ⟨_, IM.made w, fun k hk => .inl ⟨rfl, rfl⟩, fun j k u v g _ h => (by cases h), fun k h => by cases h⟩
theorem arnew_yes (lim : Nat) (w : World) (h : lim ≤ 2097152) : Calls Try.prog 19 #[.int .i64 (lim : Int)] w fun e w' =>
    ∃ p x L, e = .returned (.tuple #[.pointer (some ⟨p, 0, none⟩), .int .i64 0]) ∧ ArAt w' p x lim [] L ∧ Below w.heap.size w w' ∧ ∀ k, k ∈ x.all p → w.heap.size ≤ k := by
  have g1 : ¬ (lim : Int) < 0 := by omega
  have g2 : ¬ 2097152 < (lim : Int) := by omega
  have hmm := @run_makeMap Try.prog
  go_enter Try.func19, Try.ntmps19
  go_wp2_with (first | (go_at_call 64; refine (new_yes 16 _ (by decide)).mono ?_; rintro e w1 ⟨rfl, hm, hb⟩) | fail)
  go_ret2
  have hlt := hm.ptr.lt
  have hl2 := hb.size
  refine ⟨w1.heap.size + 1 + 1, ⟨w.heap.size + 1, w.heap.size, w1.heap.size, w1.heap.size + 1, .slice none 0 0, .slice none 0 0, []⟩, List.replicate 16 0, rfl, ⟨?_, ?_, World.ownsRow_nil _ _ _ _, World.ownsRow_nil _ _ _ _, ?_, ?_, ?_, by simp, by simp, by simp [liveSum], h⟩, ?_, ?_⟩
  · have h3 := Blk.new ((w1.alloc (.map #[] 0)).alloc (.map #[] 0)) #[.int .i64 (lim : Int), .int .i64 0, .pointer (some ⟨w.heap.size + 1, 0, none⟩), .slice none 0 0, .slice none 0 0, .map (some w1.heap.size), .map (some (w1.heap.size + 1))] 128
    simp only [World.size_alloc] at h3
    exact h3
  · exact ((hm.alloc _).alloc _).alloc _
  · exact ((IM.made w1).alloc _).alloc _
  · have h4 := free_made (w1.alloc (.map #[] 0))
    rw [World.size_alloc] at h4
    exact free_turn h4 (S := []) (Turns.of_below ((Below.refl _ _).alloc (Nat.le_refl _) _)) (by simp) (by simp)
  · refine ⟨fun k => if k = w1.heap.size + 1 + 1 then 0 else if k = w.heap.size + 1 then 1 else if k = w.heap.size then 2 else if k = w1.heap.size then 3 else 4, by simp, ?_, ?_, ?_, ?_, by simp [rows, Value.ownBlock], by simp [rows, Value.ownBlock], by simp⟩
    · simp only []; rw [if_neg (by omega), if_pos trivial]
    · simp only []; rw [if_neg (by omega), if_neg (by omega), if_pos trivial]
    · simp only []; rw [if_neg (by omega), if_neg (by omega), if_neg (by omega), if_pos trivial]
    · simp only []; rw [if_neg (by omega), if_neg (by omega), if_neg (by omega), if_neg (by omega)]
  · exact ((hb.alloc hl2 _).alloc (by simp; omega) _).alloc (by simp; omega) _
  · intro k hk
    rw [mem_all] at hk
    simp [rows, Value.ownBlock] at hk
    omega
theorem arnew_no (lim : Int) (w : World) (h : lim < 0 ∨ 2097152 < lim) : Calls Try.prog 19 #[.int .i64 lim] w fun e w' => e = .returned (.tuple #[.pointer none, .int .i64 20]) ∧ w = w' := by
  by_cases g1 : lim < 0
  · go_enter Try.func19, Try.ntmps19
    go_wp2_with fail
    go_ret2
    exact ⟨rfl, rfl⟩
  · have g2 : 2097152 < lim := by omega
    go_enter Try.func19, Try.ntmps19
    go_wp2_with fail
    go_ret2
    exact ⟨rfl, rfl⟩
end Go.Proofs.Ytpbalilnemjeeaa
/- What is proved here: the contract of the arena's take where no block of the class is free: a new part at the end. No condition. -/
namespace Go.Proofs.Ytpbalilnemjeeaa
set_option linter.unusedVariables false
set_option linter.unusedSimpArgs false
open Go.RowKit Pm Pa
theorem infoInt : (Try.prog.info? 3).map (fun i => (i.zero, i.size, i.bytes)) = some (some (.int .i64 0), 1, 8) := by kernel_rfl
theorem grow_any {w : World} {p q n : Nat} {L : List UInt8} (h : MemAt w p q L n) (size : Nat) (h1 : n ≤ size) (h2 : size ≤ 134217728) (S : Int) (hS : S = size) : Calls Try.prog 85 #[.pointer (some ⟨p, 0, none⟩), .int .i64 S] w fun e w' =>
    e = .returned (.int .i64 0) ∧ ∃ q' L', MemAt w' p q' L' size ∧ L'.take size = L.take n ++ List.replicate (size - n) 0 ∧ Turns [p, q] w w' ∧ (q' = q ∨ q' = w.heap.size) := by
  subst hS
  by_cases hc : size ≤ L.length
  · refine (grow_room h size h1 hc).mono ?_
    rintro e w' ⟨rfl, hm, ht⟩
    refine ⟨rfl, q, L, hm, ?_, ht, .inl rfl⟩
    have hz := zero_splice h size h1 hc
    apply List.ext_getElem?
    intro i
    have hl : (L.take n).length = n := by rw [List.length_take]; exact Nat.min_eq_left h.le
    rw [List.getElem?_take]
    by_cases hi : i < n
    · rw [if_pos (by omega), List.getElem?_append_left (by rw [hl]; exact hi), List.getElem?_take, if_pos hi]
    · rw [List.getElem?_append_right (by rw [hl]; omega), List.getElem?_replicate, hl]
      by_cases hi2 : i < size
      · rw [if_pos hi2, if_pos (by omega)]; exact h.zer i (by omega) (by omega)
      · rw [if_neg hi2, if_neg (by omega)]
  · refine (grow_new h size (by omega) h2).mono ?_
    rintro e w' ⟨rfl, L', hm, hl, ht⟩
    exact ⟨rfl, w.heap.size, L', hm, hl, ht.more (fun x hx => Or.inl (by simp at hx; simp [hx])), .inr rfl⟩
theorem free_none {w : World} {b : Nat} {ps : Parts} {fb : List Nat} (h : FreeAt w b ps fb) (k : Int) (hk : (Lit.int .i64 k).wf = true) (hd : deadFrom 16 ps k = []) :
    ∃ A c, (Instr.lookup 126 (.map (some b)) (.int .i64 k) false).run Try.prog w = .ok (.slice A 0 c) w := by
  obtain ⟨f, h1, h2, _⟩ := h
  have h3 := FM.look h1 hk
  have h4 := h2 k hk
  rw [hd] at h4
  rcases h4 with ⟨e, _⟩ | ⟨g, o, cap, cur, e, _⟩
  · rw [e] at h3; exact ⟨_, _, h3⟩
  · rw [e] at h3; exact ⟨_, _, h3⟩
set_option maxHeartbeats 4000000 in
set_option maxRecDepth 100000 in
theorem take_new {w : World} {p : Nat} {x : Loc} {lim : Nat} {ps : Parts} {L : List UInt8} (h : ArAt w p x lim ps L) (c : Nat) (hc : 16 ≤ c ∧ c ≤ 1048576) (hd : deadFrom 16 ps c = []) (hroom : endOf ps + c ≤ 134217728) (hlim : liveSum ps + c ≤ lim) (C : Int) (hC : C = c) :
    Calls Try.prog 65 #[.pointer (some ⟨p, 0, none⟩), .int .i64 C] w fun e w' =>
      e = .returned (.tuple #[.int .i64 (endOf ps : Int), .int .i64 0]) ∧ ∃ x' L', ArAt w' p x' lim (ps ++ [(c, true)]) L' ∧ L'.take (endOf ps + c) = L.take (endOf ps) ++ List.replicate c 0 ∧ Turns (x.all p) w w' ∧ ∀ k, k ∈ x'.all p → k ∈ x.all p ∨ w.heap.size ≤ k := by
  subst hC
  obtain ⟨c0, c1, c2, c3, c4, c5, c6⟩ := h.cells
  have hlen := h.len
  have hlv := h.lv
  have hlm := h.lm
  have hwc : (Lit.int .i64 (c : Int)).wf = true := WalkArith.wf_i64 (by omega)
  have hwe : (Lit.int .i64 (endOf ps : Int)).wf = true := WalkArith.wf_i64 (by omega)
  obtain ⟨A, ca, hlk⟩ := free_none h.fr (c : Int) hwc hd
  obtain ⟨i0, hi, hz0, hz1, hz2⟩ := info_parts infoInt
  replace hi := Lib.hid hi
  replace hz0 := Lib.hid hz0
  replace hz1 := Lib.hid hz1
  replace hz2 := Lib.hid hz2
  have hA := Lib.hid h
  have hm := h.mem
  obtain ⟨E, hE⟩ : ∃ E, Hid (E = endOf ps) := ⟨_, rfl⟩
  rw [← hE.out] at hm hwe hroom ⊢
  clear h
  go_enter Try.func65, Try.ntmps65
  obtain ⟨lab, l0, l1, l2, l3, l4, l5, l6, l7⟩ := hA.out.nd
  go_upto_region 10 with (first
    | (go_at_call 33; refine (ar_end hA.out).mono ?_; rintro e w' ⟨rfl, rfl⟩; rw [← hE.out])
    | (go_at_call 85; refine (grow_any hm (E + c) (by omega) hroom _ (by push_cast; rfl)).mono ?_; rintro e w1 ⟨rfl, q1, L1, hm1, hL1, ht1, hq1⟩)
    | fail)
  have hS1 : ∀ k, k ∈ [x.m, x.q] → lab k = 1 ∨ lab k = 2 := by simp [l1, l2]
  have hd1 := Lib.hid (hA.out.hd.turn ht1 (fun hk => by rcases hS1 _ hk with e | e <;> omega))
  have hst1 := Lib.hid (row_turn hA.out.st ht1 (fun g hg hk => by have := l5 g hg; rcases hS1 _ hk with e | e <;> omega))
  have hcl1 := Lib.hid (row_turn hA.out.cl ht1 (fun g hg hk => by have := l6 g hg; rcases hS1 _ hk with e | e <;> omega))
  have hsz1 := Lib.hid (hA.out.sz.turn ht1 (fun hk => by rcases hS1 _ hk with e | e <;> omega))
  have hfr1 := Lib.hid (free_turn hA.out.fr ht1 (fun hk => by rcases hS1 _ hk with e | e <;> omega) (fun g hg hk => by have := l7 g hg; rcases hS1 _ hk with e | e <;> omega))
  have hlt1 : ∀ k, k ∈ x.all p → k < w.heap.size := hA.out.lt
  have hqn : q1 = x.q ∨ w.heap.size ≤ q1 := by rcases hq1 with e | e; exact .inl e; exact .inr (by omega)
  have hw1 := ht1.size
  replace hm1 := Lib.hid hm1
  replace ht1 := Lib.hid ht1
  clear c0 c1 c2 c3 c4 c5 c6 hlk hq1 hm
  have c3 := hd1.out.cell 3
  have fp := hd1.out.free 3
  have hlb : ∀ k, k ∈ x.all p → lab k ≤ 7 := fun k hk => by
    rcases (mem_all k).1 hk with rfl | rfl | rfl | rfl | rfl | hk | hk | hk
    · omega
    · omega
    · omega
    · omega
    · omega
    · rw [l5 _ hk]; omega
    · rw [l6 _ hk]; omega
    · rw [l7 _ hk]; omega
  go_upto_region 11 with (first
    | (at_builtin; refine wpList_append_own_at _ rfl _ _ 29 rfl 0 3 i0 (.int .i64 0) 1 8 Try.underlying29 hi.out hz0.out hz1.out hz2.out rfl (by decide) _ _ _ rfl (hst1.out.alloc _) ⟨w1.heap.size, 0, none⟩ 1 1 [.int .i64 (E : Int)] rfl rfl (cell_one_new _ _ _) (by simp [Value.oneCell']) (by unfold maxLen; omega) (by omega) (Nat.zero_le _) ?_; intro v1n w2 hown hgrow hnil hloc; clear hnil; obtain ⟨g1, cap1, rfl⟩ := ownsRow_succ hown; replace hloc : some g1 = x.v1.ownBlock ∨ g1 = w1.heap.size + 1 := hloc.imp (fun e => e) (fun e => by simpa [Value.ownBlock] using e); have hT : Turns (rows x.v1) w1 w2 := ((Turns.refl _ w1).alloc _).trans (turns_grown hgrow); have hdx := hd1.out.turn hT (fun hk => by have := l5 _ hk; omega); have cx := hdx.cell 3; have fx := hdx.free 3)
    | fail)
  clear c3 fp cx fx
  have hp1 : ¬ p ∈ rows x.v1 := fun hk => by have := l5 _ hk; omega
  have hg1 : g1 ∈ rows x.v1 ∨ w1.heap.size ≤ g1 := by
    rcases hloc with e | e
    · exact .inl (by rw [rows, ← e]; simp)
    · right; omega
  have hgp : g1 ≠ p := fun e => by
    rcases hg1 with h9 | h9
    · rw [e] at h9; exact hp1 h9
    · have := hlt1 p (by simp [Loc.all]); omega
  have hS2 : ∀ k, k ∈ p :: rows x.v1 → (lab k = 0 ∨ lab k = 5) ∧ k < w.heap.size := fun k hk => by
    rcases List.mem_cons.1 hk with rfl | hk
    · exact ⟨.inl l0, hlt1 _ (by simp [Loc.all])⟩
    · exact ⟨.inr (l5 _ hk), hlt1 _ (by simp [Loc.all, hk])⟩
  obtain ⟨V1, hV1⟩ : ∃ V, Hid (V = Value.slice (some ⟨g1, 0, none⟩) (ps.length + 1) cap1) := ⟨_, rfl⟩
  have hT13 : Turns (p :: rows x.v1) w1 (w2.setCell ⟨p, 3, none⟩ V1) := (hT.more (fun y hy => .inl (by simp [hy]))).set p 3 _ (.inl (by simp))
  have hd3 : Blk (w2.setCell ⟨p, 3, none⟩ V1) p #[.int .i64 (lim : Int), .int .i64 (liveSum ps : Int), .pointer (some ⟨x.m, 0, none⟩), V1, x.v2, .map (some x.bs), .map (some x.bf)] 128 := by
    have := hdx.set 3 V1
    simpa using this
  have hst3 : (w2.setCell ⟨p, 3, none⟩ V1).ownsRow 0 3 1 V1 (ps.length + 1) (ints (starts ps) ++ [.int .i64 (E : Int)]) := by
    rw [hV1.out]
    exact row_turn hown ((Turns.refl [p] w2).set p 3 _ (.inl (by simp))) (fun g hg hk => by simp [rows, Value.ownBlock] at hg hk; exact hgp (by rw [← hg, hk]))
  have hm3 := hm1.out.turn hT13 (fun hk => by rcases (hS2 _ hk).1 with e | e <;> omega) (fun hk => by rcases hqn with e | e; (rw [e] at hk; rcases (hS2 _ hk).1 with e | e <;> omega); (have := (hS2 _ hk).2; omega))
  have hcl3 := row_turn hcl1.out hT13 (fun g hg hk => by have := l6 g hg; rcases (hS2 _ hk).1 with e | e <;> omega)
  have hsz3 := hsz1.out.turn hT13 (fun hk => by rcases (hS2 _ hk).1 with e | e <;> omega)
  have hfr3 := free_turn hfr1.out hT13 (fun hk => by rcases (hS2 _ hk).1 with e | e <;> omega) (fun g hg hk => by have := l7 g hg; rcases (hS2 _ hk).1 with e | e <;> omega)
  have hg1r : rows V1 = [g1] := by rw [hV1.out]; simp [rows, Value.ownBlock]
  have hq1l : q1 < w1.heap.size := hm1.out.dat.lt
  have hg1l : g1 < (w2.setCell ⟨p, 3, none⟩ V1).heap.size := row_lt hst3 (by rw [hg1r]; simp)
  have hw3 : w1.heap.size ≤ (w2.setCell ⟨p, 3, none⟩ V1).heap.size := hT13.size
  rw [← hV1.out]
  clear hown hgrow hloc hdx hT hd1 hst1 hcl1 hsz1 hfr1 hm1 hV1
  generalize World.setCell w2 _ _ = w3 at hT13 hd3 hst3 hm3 hcl3 hsz3 hfr3 hg1l hw3 ⊢
  replace hT13 := Lib.hid hT13
  replace hd3 := Lib.hid hd3
  replace hst3 := Lib.hid hst3
  replace hm3 := Lib.hid hm3
  replace hcl3 := Lib.hid hcl3
  replace hsz3 := Lib.hid hsz3
  replace hfr3 := Lib.hid hfr3
  have c4 := hd3.out.cell 4
  have fp := hd3.out.free 4
  go_upto_region 12 with (first
    | (at_builtin; refine wpList_append_own_at _ rfl _ _ 29 rfl 0 3 i0 (.int .i64 0) 1 8 Try.underlying29 hi.out hz0.out hz1.out hz2.out rfl (by decide) _ _ _ rfl (hcl3.out.alloc _) ⟨w3.heap.size, 0, none⟩ 1 1 [.int .i64 (c : Int)] rfl rfl (cell_one_new _ _ _) (by simp [Value.oneCell']) (by unfold maxLen; omega) (by omega) (Nat.zero_le _) ?_; intro v2n w4 hown hgrow hnil hloc; clear hnil; obtain ⟨g2, cap2, rfl⟩ := ownsRow_succ hown; replace hloc : some g2 = x.v2.ownBlock ∨ g2 = w3.heap.size + 1 := hloc.imp (fun e => e) (fun e => by simpa [Value.ownBlock] using e); have hT : Turns (rows x.v2) w3 w4 := ((Turns.refl _ w3).alloc _).trans (turns_grown hgrow); have hdx := hd3.out.turn hT (fun hk => by have := l6 _ hk; omega); have cx := hdx.cell 4; have fx := hdx.free 4)
    | fail)
  clear c4 fp cx fx
  have hp2 : ¬ p ∈ rows x.v2 := fun hk => by have := l6 _ hk; omega
  have hg2 : g2 ∈ rows x.v2 ∨ w3.heap.size ≤ g2 := by
    rcases hloc with e | e
    · exact .inl (by rw [rows, ← e]; simp)
    · right; omega
  have hgp2 : g2 ≠ p := fun e => by
    rcases hg2 with h9 | h9
    · rw [e] at h9; exact hp2 h9
    · have := hlt1 p (by simp [Loc.all]); omega
  have hS3 : ∀ k, k ∈ p :: rows x.v2 → (lab k = 0 ∨ lab k = 6) ∧ k < w.heap.size := fun k hk => by
    rcases List.mem_cons.1 hk with rfl | hk
    · exact ⟨.inl l0, hlt1 _ (by simp [Loc.all])⟩
    · exact ⟨.inr (l6 _ hk), hlt1 _ (by simp [Loc.all, hk])⟩
  obtain ⟨V2, hV2⟩ : ∃ V, Hid (V = Value.slice (some ⟨g2, 0, none⟩) (ps.length + 1) cap2) := ⟨_, rfl⟩
  have hT35 : Turns (p :: rows x.v2) w3 (w4.setCell ⟨p, 4, none⟩ V2) := (hT.more (fun y hy => .inl (by simp [hy]))).set p 4 _ (.inl (by simp))
  have hd5 : Blk (w4.setCell ⟨p, 4, none⟩ V2) p #[.int .i64 (lim : Int), .int .i64 (liveSum ps : Int), .pointer (some ⟨x.m, 0, none⟩), V1, V2, .map (some x.bs), .map (some x.bf)] 128 := by
    have := hdx.set 4 V2
    simpa using this
  have hcl5 : (w4.setCell ⟨p, 4, none⟩ V2).ownsRow 0 3 1 V2 (ps.length + 1) (ints (ps.map (·.1)) ++ [.int .i64 (c : Int)]) := by
    rw [hV2.out]
    exact row_turn hown ((Turns.refl [p] w4).set p 4 _ (.inl (by simp))) (fun g hg hk => by simp [rows, Value.ownBlock] at hg hk; exact hgp2 (by rw [← hg, hk]))
  have hm5 := hm3.out.turn hT35 (fun hk => by rcases (hS3 _ hk).1 with e | e <;> omega) (fun hk => by rcases hqn with e | e; (rw [e] at hk; rcases (hS3 _ hk).1 with e | e <;> omega); (have := (hS3 _ hk).2; omega))
  have hst5 := row_turn hst3.out hT35 (fun g hg hk => by
    rw [hg1r] at hg
    simp only [List.mem_singleton] at hg
    subst hg
    rcases hg1 with h9 | h9
    · have := l5 _ h9; rcases (hS3 _ hk).1 with e | e <;> omega
    · have := (hS3 _ hk).2; omega)
  have hsz5 := hsz3.out.turn hT35 (fun hk => by rcases (hS3 _ hk).1 with e | e <;> omega)
  have hfr5 := free_turn hfr3.out hT35 (fun hk => by rcases (hS3 _ hk).1 with e | e <;> omega) (fun g hg hk => by have := l7 g hg; rcases (hS3 _ hk).1 with e | e <;> omega)
  have hg2r : rows V2 = [g2] := by rw [hV2.out]; simp [rows, Value.ownBlock]
  have hw5 : w3.heap.size ≤ (w4.setCell ⟨p, 4, none⟩ V2).heap.size := hT35.size
  rw [← hV2.out]
  clear hown hgrow hloc hdx hT hd3 hst3 hcl3 hsz3 hfr3 hm3 hV2
  generalize World.setCell w4 _ _ = w5 at hT35 hd5 hst5 hm5 hcl5 hsz5 hfr5 hw5 ⊢
  replace hT35 := Lib.hid hT35
  replace hst5 := Lib.hid hst5
  replace hm5 := Lib.hid hm5
  replace hcl5 := Lib.hid hcl5
  replace hfr5 := Lib.hid hfr5
  obtain ⟨w6, hrun, hsz6, hT6⟩ := SM.store hsz5 (by unfold maxLen; omega) hwe hwc
  have hS4 : ∀ k, k ∈ [x.bs] → lab k = 3 ∧ k < w.heap.size := by
    intro k hk
    simp only [List.mem_singleton] at hk
    subst hk
    exact ⟨l3, hlt1 _ (by simp [Loc.all])⟩
  have hd6 := hd5.turn hT6 (fun hk => by have := (hS4 _ hk).1; omega)
  have c5 := hd5.cell 5
  have c1 := hd6.cell 1
  have f1 := hd6.free 1
  clear hsz5
  replace hsz6 := Lib.hid hsz6
  replace hT6 := Lib.hid hT6
  replace hd6 := Lib.hid hd6
  replace hd5 := Lib.hid hd5
  go_wp2_with fail
  go_ret2
  have hTf : Turns [p] w6 (w6.setCell ⟨p, 1, none⟩ (.int .i64 ((liveSum ps : Int) + c))) := (Turns.refl _ _).set p 1 _ (.inl (by simp))
  have hpq : p ≠ q1 := fun e => by
    rcases hqn with h9 | h9
    · rw [e, h9] at l0; omega
    · have := hlt1 p (by simp [Loc.all]); omega
  have hpm : p ≠ x.m := fun e => by rw [e] at l0; omega
  have hqb : q1 ≠ x.bs := fun e => by
    rcases hqn with h9 | h9
    · rw [← h9, e] at l2; omega
    · have := hlt1 x.bs (by simp [Loc.all]); omega
  have hg1b : g1 ≠ x.bs := fun e => by
    rcases hg1 with h9 | h9
    · have := l5 _ h9; rw [e] at this; omega
    · have := hlt1 x.bs (by simp [Loc.all]); omega
  have hg2b : g2 ≠ x.bs := fun e => by
    rcases hg2 with h9 | h9
    · have := l6 _ h9; rw [e] at this; omega
    · have := hlt1 x.bs (by simp [Loc.all]); omega
  have h6s := hT6.out.size
  have hfs : (w6.setCell ⟨p, 1, none⟩ (.int .i64 ((liveSum ps : Int) + c))).heap.size = w6.heap.size := by simp [World.setCell]
  have hp0 := l0
  refine ⟨rfl, ⟨x.m, q1, x.bs, x.bf, V1, V2, x.fb⟩, L1, ⟨?_, ?_, ?_, ?_, ?_, ?_, ?_, ?_, ?_, ?_, hlm⟩, ?_, ?_, ?_⟩
  · have h9 := hd6.out.set 1 (.int .i64 ((liveSum ps : Int) + c))
    rw [liveSum_app, Int.natCast_add]
    simpa using h9
  · rw [endOf_app, ← hE.out]
    exact (hm5.out.turn hT6.out (fun hk => by have := (hS4 _ hk).1; omega) (fun hk => by simp only [List.mem_singleton] at hk; exact hqb hk)).setO p 1 _ hpm hpq
  · rw [List.length_append, starts_app, ints_app, ← hE.out]
    refine row_turn (row_turn hst5.out hT6.out (fun g hg hk => ?_)) hTf (fun g hg hk => ?_)
    · rw [hg1r] at hg; simp only [List.mem_singleton] at hg hk; exact hg1b (by rw [← hg, hk])
    · rw [hg1r] at hg; simp only [List.mem_singleton] at hg hk; exact hgp (by rw [← hg, hk])
  · rw [List.length_append, List.map_append, show List.map (fun y : Nat × Bool => y.1) [(c, true)] = [c] from rfl, ints_app]
    refine row_turn (row_turn hcl5.out hT6.out (fun g hg hk => ?_)) hTf (fun g hg hk => ?_)
    · rw [hg2r] at hg; simp only [List.mem_singleton] at hg hk; exact hg2b (by rw [← hg, hk])
    · rw [hg2r] at hg; simp only [List.mem_singleton] at hg hk; exact hgp2 (by rw [← hg, hk])
  · rw [List.length_append, szF_app ps (fun a ha => by have := (hA.out.pos a ha).1; omega), ← hE.out]
    exact hsz6.out.turn hTf (fun hk => by simp only [List.mem_singleton] at hk; rw [hk] at l3; omega)
  · exact free_app (free_turn (free_turn hfr5.out hT6.out (fun hk => by have := (hS4 _ hk).1; omega) (fun g hg hk => by have := (hS4 _ hk).1; have := l7 g hg; omega)) hTf (fun hk => by simp only [List.mem_singleton] at hk; rw [hk] at l4; omega) (fun g hg hk => by simp only [List.mem_singleton] at hk; have := l7 g hg; rw [hk] at this; omega)) c
  · refine Tagged.turn hA.out.nd (N := w.heap.size) hlt1 rfl rfl rfl rfl hqn (fun g hg => ?_) (fun g hg => ?_)
    · change g ∈ rows V1 at hg
      rw [hg1r] at hg; simp only [List.mem_singleton] at hg; subst hg
      rcases hg1 with h9 | h9
      · exact .inl h9
      · exact .inr ⟨by omega, fun e => by change g = q1 at e; omega⟩
    · change g ∈ rows V2 at hg
      rw [hg2r] at hg; simp only [List.mem_singleton] at hg; subst hg
      rcases hg2 with h9 | h9
      · exact .inl h9
      · exact .inr ⟨by omega, fun e => by (change g = q1 at e; omega), fun e => by (change g ∈ rows V1 at e; rw [hg1r] at e; simp only [List.mem_singleton] at e; omega)⟩
  · intro k hk
    have := hA.out.fl k hk
    omega
  · intro a ha
    rcases List.mem_append.1 ha with ha | ha
    · exact hA.out.pos a ha
    · simp only [List.mem_singleton] at ha; subst ha; exact hc
  · rw [liveSum_app]; exact hlim
  · rw [hL1, Nat.add_sub_cancel_left]
  · refine ((((ht1.out.more (fun y hy => .inl ?_)).trans (hT13.out.more (fun y hy => .inl ?_))).trans (hT35.out.more (fun y hy => .inl ?_))).trans (hT6.out.more (fun y hy => .inl ?_))).trans (hTf.more (fun y hy => .inl ?_))
    · rw [mem_all]; simp at hy; rcases hy with e | e <;> simp [e]
    · rw [mem_all]; rcases List.mem_cons.1 hy with e | e <;> simp [e]
    · rw [mem_all]; rcases List.mem_cons.1 hy with e | e <;> simp [e]
    · rw [mem_all]; simp at hy; simp [hy]
    · rw [mem_all]; simp at hy; simp [hy]
  · intro k hk
    rw [mem_all] at hk ⊢
    rcases hk with e | e | e | e | e | e | e | e
    · exact .inl (.inl e)
    · exact .inl (.inr (.inl e))
    · rcases hqn with h9 | h9
      · exact .inl (.inr (.inr (.inl (e.trans h9))))
      · exact .inr (by rw [e]; exact h9)
    · exact .inl (by simp [show k = x.bs from e])
    · exact .inl (by simp [show k = x.bf from e])
    · change k ∈ rows V1 at e
      rw [hg1r] at e; simp only [List.mem_singleton] at e; subst e
      rcases hg1 with h9 | h9
      · exact .inl (by simp [h9])
      · exact .inr (by omega)
    · change k ∈ rows V2 at e
      rw [hg2r] at e; simp only [List.mem_singleton] at e; subst e
      rcases hg2 with h9 | h9
      · exact .inl (by simp [h9])
      · exact .inr (by omega)
    · exact .inl (by simp [show k ∈ x.fb from e])
end Go.Proofs.Ytpbalilnemjeeaa
/- What is proved here: the contracts of AllocAll and Alloc where no block was ever freed and there is room. No condition. -/
namespace Go.Proofs.Ytpbalilnemjeeaa
set_option linter.unusedVariables false
set_option linter.unusedSimpArgs false
open Go.RowKit Pm Pa Pl
namespace Pa
def clsN (n : Int) : Nat := (cls n).toNat
def need (ns : List Int) : Nat := (ns.map clsN).sum
def news (ns : List Int) : Parts := ns.map fun n => (clsN n, true)
def noDead (ps : Parts) : Prop := ∀ a ∈ ps, a.2 = true
theorem clsN_is {n : Int} (h : 1 ≤ n ∧ n ≤ 1048576) : cls n = (clsN n : Int) ∧ 16 ≤ clsN n ∧ clsN n ≤ 1048576 := by
  obtain ⟨h1, h2, _⟩ := cls_bounds h.1 h.2
  unfold clsN
  omega
theorem need_app (ns : List Int) (n : Int) : need (ns ++ [n]) = need ns + clsN n := by simp [need]
theorem news_app (ns : List Int) (n : Int) : news (ns ++ [n]) = news ns ++ [(clsN n, true)] := by simp [news]
theorem total_news (ns : List Int) : total (news ns) = need ns := by simp [total, news, need, Function.comp_def]
theorem live_news (ps : Parts) (ns : List Int) : liveSum (ps ++ news ns) = liveSum ps + need ns := by
  induction ps with
  | nil =>
    induction ns with
    | nil => rfl
    | cons n t ih => simp [news, need, liveSum] at ih ⊢; exact ih
  | cons a t ih => simp only [List.cons_append, liveSum, ih]; omega
theorem end_news (ps : Parts) (ns : List Int) : endOf (ps ++ news ns) = endOf ps + need ns := by
  unfold endOf
  rw [total_app, total_news]
  omega
theorem need_take_le (ns : List Int) (k : Nat) : need (ns.take k) ≤ need ns := by
  have e : need ns = need (ns.take k) + need (ns.drop k) := by
    unfold need
    rw [← List.sum_append, ← List.map_append, List.take_append_drop]
  omega
theorem take_snoc (ns : List Int) (k : Nat) (n : Int) (h : ns[k]? = some n) : ns.take (k + 1) = ns.take k ++ [n] := by rw [List.take_add_one, h]; rfl
theorem need_ge (ns : List Int) (h : ∀ n ∈ ns, 1 ≤ n ∧ n ≤ 1048576) : 16 * ns.length ≤ need ns := by
  induction ns with
  | nil => simp
  | cons n t ih =>
    have h1 := (clsN_is (h n (by simp))).2.1
    have h2 := ih (fun y hy => h y (by simp [hy]))
    simp [need] at h2 ⊢
    omega
theorem dead_none (o : Nat) (ps : Parts) (h : noDead ps) (c : Int) : deadFrom o ps c = [] := by
  induction ps generalizing o with
  | nil => rfl
  | cons a t ih =>
    have h1 := h a (by simp)
    unfold deadFrom
    rw [if_neg (by rw [h1]; simp)]
    exact ih _ (fun b hb => h b (by simp [hb]))
theorem noDead_news (ps : Parts) (h : noDead ps) (ns : List Int) : noDead (ps ++ news ns) := by
  intro a ha
  rcases List.mem_append.1 ha with ha | ha
  · exact h a ha
  · simp [news] at ha
    obtain ⟨n, _, rfl⟩ := ha
    rfl
theorem startsFrom_news (ps : Parts) (ns : List Int) (n : Int) : startsFrom (endOf ps) (news (ns ++ [n])) = startsFrom (endOf ps) (news ns) ++ [endOf (ps ++ news ns)] := by
  rw [news_app, startsFrom_app, end_news, total_news]
end Pa
/-- numbers in memory -/
def IntsIn (w : World) (A : Option Addr) (ns : List Int) : Prop := ∀ (i : Nat) (n : Int), ns[i]? = some n → ∃ g o, A = some ⟨g, o, none⟩ ∧ w.cell? ⟨g, o + i, none⟩ = some (.int .i64 n)
theorem class_to (n : Int) (w : World) (h : 1 ≤ n ∧ n ≤ 1048576) : Calls Try.prog 50 #[.int .i64 n] w fun e w' => e = .returned (.int .i64 (clsN n : Int)) ∧ w = w' := by
  rw [← (clsN_is h).1]; exact class_any n w
set_option maxHeartbeats 4000000 in
set_option maxRecDepth 100000 in
theorem allocs_yes {w : World} {p : Nat} {x : Loc} {lim : Nat} {ps : Parts} {L : List UInt8} (h : ArAt w p x lim ps L) (hnd : noDead ps) (ns : List Int) (A : Option Addr) (cap : Nat) (hin : IntsIn w A ns)
    (hAp : ∀ g o, A = some ⟨g, o, none⟩ → ¬ g ∈ x.all p) (hv : ∀ n ∈ ns, 1 ≤ n ∧ n ≤ 1048576) (hl : liveSum ps + need ns ≤ lim) (hr : endOf ps + need ns ≤ 134217728) (N : Nat) (hN : N = ns.length) :
    Calls Try.prog 21 #[.pointer (some ⟨p, 0, none⟩), .slice A N cap] w fun e w' => ∃ v x' L', e = .returned (.tuple #[v, .int .i64 0]) ∧ ArAt w' p x' lim (ps ++ news ns) L' ∧
      L'.take (endOf ps + need ns) = L.take (endOf ps) ++ List.replicate (need ns) 0 ∧ Turns (x.all p) w w' ∧ (∀ k, k ∈ x'.all p → k ∈ x.all p ∨ w.heap.size ≤ k) ∧
      w'.ownsRow w.heap.size 3 1 v ns.length (ints (startsFrom (endOf ps) (news ns))) ∧ ∀ g, g ∈ rows v → ¬ g ∈ x'.all p := by
  subst hN
  have hlen := need_ge ns hv
  have hlm := h.lm
  have hlv := h.lv
  have hns : need [] = 0 := rfl
  obtain ⟨c0, c1, _⟩ := h.cells
  have hA := Lib.hid h
  clear h
  replace hin := Lib.hid hin
  replace hAp := Lib.hid hAp
  replace hnd := Lib.hid hnd
  replace hv := Lib.hid hv
  obtain ⟨i0, hi, hz0, hz1, hz2⟩ := info_parts infoInt
  have hib : i0.bytes * ns.length ≤ 281474976710656 := by rw [hz2]; omega
  replace hi := Lib.hid hi
  replace hz0 := Lib.hid hz0
  replace hz1 := Lib.hid hz1
  replace hz2 := Lib.hid hz2
  go_enter Try.func21, Try.ntmps21
  go_wp2_with fail
  go_loopw [6, 7, 17] (fun a6 a7 a17 wr => ∃ k : Nat, k ≤ ns.length ∧ a6 = .int .i64 (need (ns.take k) : Int) ∧ a7 = .bool false ∧ a17 = .int .i64 (k : Int) ∧ Hid (wr = w)) (fun _ _ i _ => (ns.length - (intOf i).toNat))
  case atStart => exact ⟨0, Nat.zero_le _, rfl, rfl, rfl, rfl⟩
  case round =>
    obtain ⟨k, hk, rfl, rfl, rfl, hw⟩ := hrel
    obtain rfl := hw.out
    clear hw
    by_cases hlt : k < ns.length
    · obtain ⟨n, hn⟩ : ∃ n, Hid (ns[k]? = some n) := ⟨_, List.getElem?_eq_getElem hlt⟩
      have hvn := hv.out n (List.mem_of_getElem? hn.out)
      obtain ⟨g, o, rfl, hc⟩ := hin.out k n hn.out
      have k0 : (0 : Int) ≤ k := by omega
      have k1 : (k : Int) < ns.length := by omega
      have n1 : ¬ n < 1 := by omega
      have n2 : ¬ 1048576 < n := by omega
      have hnl := need_take_le ns k
      have hcn := (clsN_is hvn).2
      go_wp2_with (first
        | (go_at_call 50; refine (class_to n _ hvn).mono ?_; rintro e w' ⟨rfl, rfl⟩)
        | fail)
      go_roundw
      case rel =>
        refine ⟨k + 1, by omega, ?_, rfl, by go_num, by first | rfl | trivial⟩
        rw [take_snoc ns k n hn.out, need_app]
        go_num
      case measure => simp [intOf]; omega
    · obtain rfl : k = ns.length := by omega
      rw [List.take_length]
      obtain ⟨wo, rfl⟩ : ∃ wo : World, wo = wr := ⟨_, rfl⟩
      have g1 : ¬ ((lim : Int) - (liveSum ps : Int)) < (need ns : Int) := by omega
      go_upto_region 11 with (fail)
      go_quiet (fail)
      all_goals go_upto_block 2 with (first
        | (at_make; refine wpList_make_own _ rfl _ _ _ rfl wo.heap.size 3 i0 (.int .i64 0) 1 Try.underlying29 hi.out hz0.out hz1.out .i64 .i64 _ ns.length rfl rfl rfl hib (by unfold maxLen; omega) (by simp) ?_; intro w2 hrow hgr)
        | fail)
      have hT2 : Turns [] wo w2 := ((Turns.refl [] wo).drewN nq).trans ⟨hgr.os, hgr.tape, hgr.output, hgr.size, fun k hk _ => hgr.block k hk (by simp)⟩
      have hA2 : ArAt w2 p x lim ps L := hA.out.turn hT2 (by simp)
      have hlt0 : ∀ k, k ∈ x.all p → k < wo.heap.size := hA.out.lt
      replace hrow : w2.ownsRow wo.heap.size 3 1 (.slice (some ⟨wo.heap.size, 0, none⟩) 0 ns.length) 0 [] := hrow
      obtain ⟨v0, hv0⟩ : ∃ v, Hid (v = Value.slice (some ⟨wo.heap.size, 0, none⟩) 0 ns.length) := ⟨_, rfl⟩
      have hr0 : ∀ g, g ∈ rows v0 → ¬ g ∈ x.all p := by
        intro g hg hk
        rw [hv0.out] at hg
        simp [rows, Value.ownBlock] at hg
        have := hlt0 g hk
        omega
      rw [← hv0.out] at hrow ⊢
      clear hv0 hgr g1 hlt hk c0 c1 hib
      have hwf : (Lit.int .i64 (0 : Int)).wf = true := by decide
      replace hA2 := Lib.hid hA2
      replace hT2 := Lib.hid hT2
      replace hrow := Lib.hid hrow
      replace hr0 := Lib.hid hr0
      replace hlt0 := Lib.hid hlt0
      go_wp2_with fail
      go_loopw [10, 52] (fun a10 a52 wr => ∃ (k : Nat) (v : Value) (xk : Loc) (Lk : List UInt8), k ≤ ns.length ∧ a52 = .int .i64 (k : Int) ∧ v = a10 ∧ Hid (ArAt wr p xk lim (ps ++ news (ns.take k)) Lk) ∧
        Hid (Lk.take (endOf ps + need (ns.take k)) = L.take (endOf ps) ++ List.replicate (need (ns.take k)) 0) ∧ Hid (Turns (x.all p) wo wr) ∧ Hid (∀ y, y ∈ xk.all p → y ∈ x.all p ∨ wo.heap.size ≤ y) ∧
        Hid (wr.ownsRow wo.heap.size 3 1 v k (ints (startsFrom (endOf ps) (news (ns.take k))))) ∧ Hid (∀ g, g ∈ rows v → ¬ g ∈ xk.all p)) (fun _ i _ => (ns.length - (intOf i).toNat))
      case atStart =>
        refine ⟨0, v0, x, L, Nat.zero_le _, rfl, rfl, ?_, ?_, hT2.out.more (by simp), fun y hy => .inl hy, hrow, hr0⟩
        · have : ps ++ news (ns.take 0) = ps := by simp [news]
          rw [this]; exact hA2
        · unfold Hid; simp [need]
      case round =>
        obtain ⟨k, v, xk, Lk, hk, rfl, rfl, hAk, hLk, hTk, hfk, hrk, hdk⟩ := hrel
        by_cases hlt : k < ns.length
        · obtain ⟨n, hn⟩ : ∃ n, Hid (ns[k]? = some n) := ⟨_, List.getElem?_eq_getElem hlt⟩
          have hvn := hv.out n (List.mem_of_getElem? hn.out)
          obtain ⟨g, o, rfl, hc0⟩ := hin.out k n hn.out
          have hc : wr.cell? ⟨g, o + k, none⟩ = some (.int .i64 n) := turn_cell hTk.out (hAp.out g o rfl) hc0
          have hcn := (clsN_is hvn).2
          have hst := take_snoc ns k n hn.out
          have hnl := need_take_le ns (k + 1)
          rw [hst, need_app] at hnl
          have hst' := Lib.hid hst
          clear hst
          have k0 : (0 : Int) ≤ k := by omega
          have k1 : (k : Int) < ns.length := by omega
          have hlk : liveSum (ps ++ news (ns.take k)) + clsN n ≤ lim := by rw [live_news]; omega
          have hrm : endOf (ps ++ news (ns.take k)) + clsN n ≤ 134217728 := by rw [end_news]; omega
          go_wp2_with (first
            | (go_at_call 50; refine (class_to n _ hvn).mono ?_; rintro e w' ⟨rfl, rfl⟩)
            | (go_at_call 65; refine (take_new hAk.out (clsN n) hcn (dead_none _ _ (noDead_news _ hnd.out _) _) hrm hlk _ rfl).mono ?_; rintro e w5 ⟨rfl, x5, L5, hA5, hL5, hT5, hf5⟩; have hr5 := row_turn hrk.out hT5 hdk.out)
            | (at_builtin; refine wpList_append_own_at _ rfl _ _ 29 rfl wo.heap.size 3 i0 (.int .i64 0) 1 8 Try.underlying29 hi.out hz0.out hz1.out hz2.out rfl (by decide) _ _ _ rfl (hr5.alloc _) ⟨w5.heap.size, 0, none⟩ 1 1 [.int .i64 (endOf (ps ++ news (ns.take k)) : Int)] rfl rfl (cell_one_new _ _ _) (by simp [Value.oneCell']) (by unfold maxLen; omega) (by omega) (by have := hTk.out.size; have := hT5.size; simp; omega) ?_; intro v6 w6 hown hgrow hnil hloc; clear hnil; obtain ⟨g6, cap6, rfl⟩ := ownsRow_succ hown; replace hloc : some g6 = v.ownBlock ∨ g6 = w5.heap.size + 1 := hloc.imp (fun e => e) (fun e => by simpa [Value.ownBlock] using e))
            | fail)
          have hT6 : Turns (rows v) w5 w6 := ((Turns.refl _ w5).alloc _).trans (turns_grown hgrow)
          have hg6 : g6 ∈ rows v ∨ w5.heap.size ≤ g6 := by
            rcases hloc with e | e
            · exact .inl (by rw [rows, ← e]; simp)
            · right; omega
          have hvl : ∀ y, y ∈ rows v → y < wr.heap.size ∧ wo.heap.size ≤ y := fun y hy => ⟨row_lt hrk.out hy, (hrk.out.lt y (by simpa [rows] using hy)).1⟩
          have hv5 : ∀ y, y ∈ x5.all p → ¬ y ∈ rows v := fun y hy hk => by
            rcases hf5 y hy with e | e
            · exact hdk.out y hk e
            · have := (hvl y hk).1; omega
          have hA6 := hA5.turn hT6 hv5
          refine ⟨⟨k + 1, _, x5, L5, by omega, by go_num, rfl, ?_, ?_, ?_, ?_, ?_, ?_⟩, by simp [intOf]; omega⟩
          · rw [hst'.out, news_app, ← List.append_assoc]; exact hA6
          · unfold Hid
            rw [end_news] at hL5
            rw [hst'.out, need_app, ← Nat.add_assoc, hL5, hLk.out, List.append_assoc, List.replicate_append_replicate]
          · refine (Turns.next hTk.out hT5 hfk.out).next hT6 (fun y hy => .inr (hvl y hy).2)
          · intro y hy
            rcases hf5 y hy with e | e
            · exact hfk.out y e
            · have := hTk.out.size; exact .inr (by omega)
          · unfold Hid
            rw [hst'.out, startsFrom_news, ints_app]
            exact hown
          · intro y hy hk
            simp [rows, Value.ownBlock] at hy
            subst hy
            rcases hg6 with e | e
            · exact hv5 y hk e
            · have := hA5.lt y hk; omega
        · obtain rfl : k = ns.length := by omega
          rw [List.take_length] at hAk hLk hrk
          go_wp2_with fail
          go_ret2
          exact ⟨v, xk, Lk, rfl, hAk.out, hLk.out, hTk.out, hfk.out, hrk.out, hdk.out⟩
set_option maxHeartbeats 1000000 in
theorem alloc_yes {w : World} {p : Nat} {x : Loc} {lim : Nat} {ps : Parts} {L : List UInt8} (h : ArAt w p x lim ps L) (hnd : noDead ps) (n : Int) (hv : 1 ≤ n ∧ n ≤ 1048576) (hl : liveSum ps + clsN n ≤ lim) (hr : endOf ps + clsN n ≤ 134217728) :
    Calls Try.prog 28 #[.pointer (some ⟨p, 0, none⟩), .int .i64 n] w fun e w' => ∃ x' L', e = .returned (.tuple #[.int .i64 (endOf ps : Int), .int .i64 0]) ∧ ArAt w' p x' lim (ps ++ [(clsN n, true)]) L' ∧
      L'.take (endOf ps + clsN n) = L.take (endOf ps) ++ List.replicate (clsN n) 0 ∧ Turns (x.all p) w w' ∧ (∀ k, k ∈ x'.all p → k ∈ x.all p ∨ w.heap.size ≤ k) := by
  have hlt := h.lt
  have hA := Lib.hid (h.alloc (.cells #[.int .i64 n] 3))
  have hn1 : need [n] = clsN n := by simp [need]
  have hin : IntsIn (w.alloc (.cells #[.int .i64 n] 3)) (some ⟨w.heap.size, 0, none⟩) [n] := by
    intro i m hi
    match i with
    | 0 => simp at hi; subst hi; exact ⟨_, _, rfl, (Blk.new w #[.int .i64 n] 3).cell 0⟩
    | i + 1 => simp at hi
  go_enter Try.func28, Try.ntmps28
  go_wp2_with (first
    | (go_at_call 21; refine (allocs_yes hA.out hnd [n] _ 1 hin (fun g o e hk => by cases e; exact Nat.lt_irrefl _ (hlt _ hk)) (by simpa using hv) (by rw [hn1]; exact hl) (by rw [hn1]; exact hr) 1 rfl).mono ?_; rintro e w1 ⟨v, x', L', rfl, hA1, hL1, hT1, hf1, hrow, hd1⟩; obtain ⟨g, cap, rfl⟩ := ownsRow_succ (k := 0) hrow; have hc : w1.cell? ⟨g, 0, none⟩ = some (.int .i64 (endOf ps : Int)) := hrow.cellAt 0 (by simp))
    | fail)
  go_ret2
  rw [hn1] at hL1
  refine ⟨x', L', ?_, by simpa [news] using hA1, hL1, ?_, ?_⟩
  · simp
  · refine ((Turns.refl _ w).alloc _).trans hT1
  · intro k hk
    rcases hf1 k hk with e | e
    · exact .inl e
    · simp at e; exact .inr (by omega)
end Go.Proofs.Ytpbalilnemjeeaa
/- What is proved here: the contracts of the arena's own tests: is a span inside one live block? No condition. -/
namespace Go.Proofs.Ytpbalilnemjeeaa
set_option linter.unusedVariables false
set_option linter.unusedSimpArgs false
open Go.RowKit Pm Pa Pl
namespace Pa
/-- where part i begins -/
def stOf (ps : Parts) (i : Nat) : Nat := 16 + total (ps.take i)
def zsOf (ps : Parts) : List Int := (starts ps).map fun (x : Nat) => (x : Int)
theorem zs_len (ps : Parts) : (zsOf ps).length = ps.length := by simp [zsOf, starts, startsFrom_len]
theorem zs_get (ps : Parts) (i : Nat) (h : i < ps.length) : (zsOf ps)[i]? = some ((stOf ps i : Nat) : Int) := by simp [zsOf, starts_get ps i h, stOf]
theorem zs_getD (ps : Parts) (i : Nat) (h : i < ps.length) : (zsOf ps).getD i 0 = ((stOf ps i : Nat) : Int) := by rw [List.getD_eq_getElem?_getD, zs_get ps i h]; rfl
theorem st_succ (ps : Parts) (i : Nat) (a : Nat × Bool) (h : ps[i]? = some a) : stOf ps (i + 1) = stOf ps i + a.1 := by unfold stOf; rw [total_take_succ ps i a h]; omega
theorem st_lt (ps : Parts) (hp : ∀ a ∈ ps, 16 ≤ a.1) (i j : Nat) (h : i < j) (hj : j ≤ ps.length) : stOf ps i < stOf ps j := by
  induction j with
  | zero => omega
  | succ j ih =>
    obtain ⟨a, ha⟩ : ∃ a, ps[j]? = some a := ⟨_, List.getElem?_eq_getElem (by omega)⟩
    have h1 := st_succ ps j a ha
    have h2 := hp a (List.mem_of_getElem? ha)
    by_cases e : i = j
    · subst e; omega
    · have := ih (by omega) (by omega); omega
theorem st_le (ps : Parts) (hp : ∀ a ∈ ps, 16 ≤ a.1) (i j : Nat) (h : i ≤ j) (hj : j ≤ ps.length) : stOf ps i ≤ stOf ps j := by
  by_cases e : i = j
  · subst e; omega
  · have := st_lt ps hp i j (by omega) hj; omega
theorem st_end (ps : Parts) : stOf ps ps.length = endOf ps := by unfold stOf endOf; rw [List.take_length]
theorem zs_mem (ps : Parts) (v : Int) (h : v ∈ zsOf ps) : ∃ i, i < ps.length ∧ v = ((stOf ps i : Nat) : Int) := by
  obtain ⟨i, hi, rfl⟩ := List.getElem_of_mem h
  rw [zs_len] at hi
  refine ⟨i, hi, ?_⟩
  have := zs_get ps i hi
  rw [List.getElem?_eq_getElem (by rw [zs_len]; exact hi)] at this
  exact Option.some.inj this
theorem zs_sorted (ps : Parts) (hp : ∀ a ∈ ps, 16 ≤ a.1) : (zsOf ps).Pairwise (· ≤ ·) := by
  rw [List.pairwise_iff_getElem]
  intro i j hi hj hij
  rw [zs_len] at hi hj
  have h1 := zs_get ps i hi
  have h2 := zs_get ps j hj
  rw [List.getElem?_eq_getElem (by rw [zs_len]; assumption)] at h1 h2
  rw [Option.some.inj h1, Option.some.inj h2]
  have := st_lt ps hp i j hij (by omega)
  omega
/-- how many starts lie ahead of off -/
theorem zs_count (ps : Parts) (hp : ∀ a ∈ ps, 16 ≤ a.1) (off : Int) (k : Nat) (hk : k ≤ ps.length) (h1 : ∀ i, i < k → ((stOf ps i : Nat) : Int) < off) (h2 : ∀ i, k ≤ i → i < ps.length → off ≤ ((stOf ps i : Nat) : Int)) : (zsOf ps).countP (· < off) = k := by
  have hl : ((zsOf ps).take k).length = k := by rw [List.length_take, zs_len]; omega
  have e1 : ((zsOf ps).take k).countP (· < off) = k := by
    have : ((zsOf ps).take k).countP (· < off) = ((zsOf ps).take k).length := by
      rw [List.countP_eq_length]
      intro v hv
      obtain ⟨i, hi, rfl⟩ := List.getElem_of_mem hv
      rw [hl] at hi
      have h3 : ((zsOf ps).take k)[i]? = some ((stOf ps i : Nat) : Int) := by rw [List.getElem?_take, if_pos hi]; exact zs_get ps i (by omega)
      rw [List.getElem?_eq_getElem (by rw [hl]; exact hi)] at h3
      rw [Option.some.inj h3]
      exact decide_eq_true (h1 i hi)
    rw [this, hl]
  have e2 : ((zsOf ps).drop k).countP (· < off) = 0 := by
    rw [List.countP_eq_zero]
    intro v hv
    obtain ⟨i, hi, rfl⟩ := List.getElem_of_mem hv
    rw [List.length_drop, zs_len] at hi
    have h3 : ((zsOf ps).drop k)[i]? = some ((stOf ps (k + i) : Nat) : Int) := by rw [List.getElem?_drop]; exact zs_get ps (k + i) (by omega)
    rw [List.getElem?_eq_getElem (by rw [List.length_drop, zs_len]; exact hi)] at h3
    rw [Option.some.inj h3]
    have := h2 (k + i) (by omega) (by omega)
    simp; omega
  rw [← List.take_append_drop k (zsOf ps), List.countP_append, e1, e2, Nat.add_zero]
theorem zs_has (ps : Parts) (k : Nat) (hk : k < ps.length) : (zsOf ps).contains ((stOf ps k : Nat) : Int) = true := by
  rw [List.contains_iff_mem]
  exact List.mem_of_getElem? (zs_get ps k hk)
theorem zs_hasnt (ps : Parts) (off : Int) (h : ∀ i, i < ps.length → off ≠ ((stOf ps i : Nat) : Int)) : (zsOf ps).contains off = false := by
  rw [Bool.eq_false_iff]
  intro hc
  rw [List.contains_iff_mem] at hc
  obtain ⟨i, hi, e⟩ := zs_mem ps off hc
  exact h i hi e
end Pa
section
variable {w : World} {p : Nat} {x : Loc} {lim : Nat} {ps : Parts} {L : List UInt8}
theorem ArAt.row1 (h : ArAt w p x lim ps L) (hn : 0 < ps.length) : ∃ g cap, x.v1 = .slice (some ⟨g, 0, none⟩) ps.length cap ∧ ∀ (i : Nat), i < ps.length → w.cell? ⟨g, i, none⟩ = some (.int .i64 ((stOf ps i : Nat) : Int)) := by
  have hs := h.st
  obtain ⟨k, hk⟩ : ∃ k, ps.length = k + 1 := ⟨ps.length - 1, by omega⟩
  rw [hk] at hs
  obtain ⟨g, cap, e⟩ := ownsRow_succ hs
  refine ⟨g, cap, by rw [hk]; exact e, fun i hi => ?_⟩
  rw [e] at hs
  rw [hs.cellAt i (by omega)]
  simp [ints, starts_get ps i hi, stOf]
theorem holds_no (i off n : Int) (hi : i < 0) (w : World) (p : Nat) : Calls Try.prog 103 #[.pointer (some ⟨p, 0, none⟩), .int .i64 i, .int .i64 off, .int .i64 n] w fun e w' => e = .returned (.bool false) ∧ ∃ m, w' = w.drewN m := by
  go_enter Try.func103, Try.ntmps103
  go_wp2_with fail
  go_ret
  exact ⟨rfl, 0, rfl⟩
set_option maxHeartbeats 1000000 in
theorem holds_in (h : ArAt w p x lim ps L) (i c : Nat) (l : Bool) (hi : ps[i]? = some (c, l)) (off n I : Int) (ho : 16 ≤ off ∧ off ≤ 134217728) (r : Bool) (hr : (l && decide (n ≤ ((stOf ps i : Nat) : Int) + c - off)) = r) (hI : I = i) :
    Calls Try.prog 103 #[.pointer (some ⟨p, 0, none⟩), .int .i64 I, .int .i64 off, .int .i64 n] w fun e w' => e = .returned (.bool r) ∧ ∃ m, w' = w.drewN m := by
  subst hI
  have hil : i < ps.length := (List.getElem?_eq_some_iff.1 hi).1
  obtain ⟨g, cap, hv1, hcell⟩ := h.row1 (by omega)
  obtain ⟨c0, c1, c2, c3, c4, c5, c6⟩ := h.cells
  have hci := hcell i hil
  have hsz := sizeFrom_at 16 ps (fun a ha => by have := (h.pos a ha).1; omega) i c l hi
  have hend := h.endle
  have hcp := h.pos _ (List.mem_of_getElem? hi)
  have hst : stOf ps i + c ≤ endOf ps := by
    have h1 := st_succ ps i _ hi
    have h2 := st_le ps (fun a ha => (h.pos a ha).1) (i + 1) ps.length (by omega) (Nat.le_refl _)
    rw [st_end] at h2
    simp at h1
    omega
  have hwf : (Lit.int .i64 ((stOf ps i : Nat) : Int)).wf = true := WalkArith.wf_i64 (by omega)
  have hlk : ∀ m, (Instr.lookup 125 (.map (some x.bs)) (.int .i64 ((stOf ps i : Nat) : Int)) true).run Try.prog (w.drewN m) = .ok (.tuple #[(szF ps ((stOf ps i : Nat) : Int)).getD (.int .i64 0), .bool (szF ps ((stOf ps i : Nat) : Int)).isSome]) (w.drewN m) :=
    fun m => SM.look_ok (h.sz.drewN m) hwf
  have hsz' : szF ps ((stOf ps i : Nat) : Int) = if l = true then some (.int .i64 (c : Int)) else none := by
    unfold szF stOf
    rw [hsz]
    cases l <;> rfl
  rw [hsz'] at hlk
  rw [hv1] at c3
  have i0 : (0 : Int) ≤ i := by omega
  have i1 : (i : Int) < ps.length := by omega
  obtain ⟨S, hS⟩ : ∃ S, Hid (S = stOf ps i) := ⟨_, rfl⟩
  rw [← hS.out] at hlk hci hst hwf hr
  clear h hcell hsz hsz' hv1 hi hS
  cases l with
  | false =>
    simp only [Bool.false_and, Bool.false_eq_true, if_false, Option.getD_none, Option.isSome_none] at hr hlk
    subst hr
    go_enter Try.func103, Try.ntmps103
    go_upto_region 3 with (fail)
    go_quiet (fail)
    go_wp2_with fail
    go_ret
    exact ⟨rfl, _, rfl⟩
  | true =>
    simp only [Bool.true_and, if_true, Option.getD_some, Option.isSome_some] at hr hlk
    have hr2 : decide (n ≤ (S : Int) + (c : Int) - off) = r := hr
    go_enter Try.func103, Try.ntmps103
    go_upto_region 3 with (fail)
    go_quiet (fail)
    go_wp2_with fail
    go_ret
    exact ⟨rfl, _, rfl⟩
theorem search_ps (h : ArAt w p x lim ps L) (hn : 0 < ps.length) (off : Int) (k : Nat) (ex : Bool) (hk : (zsOf ps).countP (· < off) = k) (hex : (zsOf ps).contains off = ex) :
    Calls Try.prog 76 #[x.v1, .int .i64 off] w fun e w' => e = .returned (.tuple #[.int .i64 (k : Int), .bool ex]) ∧ ∃ q, w' = w.drewN q := by
  obtain ⟨g, cap, hv1, hcell⟩ := h.row1 hn
  have hlen := h.len
  rw [hv1]
  have h1 := search_any g 0 ps.length cap (zsOf ps) off w (by rw [zs_len]; exact Nat.le_refl _) (by omega) (fun j hj => by rw [zs_len] at hj; rw [Nat.zero_add, zs_getD ps j hj]; exact hcell j hj)
    (by rw [← zs_len ps, List.take_length]; exact zs_sorted ps (fun a ha => (h.pos a ha).1))
  have e : (zsOf ps).take ps.length = zsOf ps := by rw [← zs_len ps, List.take_length]
  rw [e, hk, hex] at h1
  exact h1
theorem good_out (h : ArAt w p x lim ps L) (off n : Int) (ho : n < 0 ∨ off < 16 ∨ (endOf ps : Int) < off) : Calls Try.prog 66 #[.pointer (some ⟨p, 0, none⟩), .int .i64 off, .int .i64 n] w fun e w' => e = .returned (.bool false) ∧ ∃ m, w' = w.drewN m := by
  by_cases g1 : n < 0
  · go_enter Try.func66, Try.ntmps66
    go_wp2_with fail
    go_ret
    exact ⟨rfl, 0, rfl⟩
  · by_cases g2 : off < 16
    · go_enter Try.func66, Try.ntmps66
      go_wp2_with fail
      go_ret
      exact ⟨rfl, 0, rfl⟩
    · have g3 : (endOf ps : Int) < off := by omega
      have hA := Lib.hid h
      clear h
      go_enter Try.func66, Try.ntmps66
      go_wp2_with (first | (go_at_call 33; refine (ar_end hA.out).mono ?_; rintro e w' ⟨rfl, rfl⟩) | fail)
      go_ret
      exact ⟨rfl, 0, rfl⟩
/-- is the part ahead of part k live? -/
def prevLive (ps : Parts) : Nat → Bool
  | 0 => false
  | k + 1 => ((ps[k]?).map (·.2)).getD false
set_option maxHeartbeats 2000000 in
theorem good_mid (h : ArAt w p x lim ps L) (k c : Nat) (l : Bool) (hk : ps[k]? = some (c, l)) (off n : Int) (h1 : ((stOf ps k : Nat) : Int) < off) (h2 : off ≤ ((stOf ps k : Nat) : Int) + c) (h3 : off < ((stOf ps k : Nat) : Int) + c ∨ k + 1 = ps.length) (hn : 0 ≤ n) (r : Bool)
    (hr : (l && decide (n ≤ ((stOf ps k : Nat) : Int) + c - off)) = r) : Calls Try.prog 66 #[.pointer (some ⟨p, 0, none⟩), .int .i64 off, .int .i64 n] w fun e w' => e = .returned (.bool r) ∧ ∃ m, w' = w.drewN m := by
  have hkl : k < ps.length := (List.getElem?_eq_some_iff.1 hk).1
  have hp : ∀ a ∈ ps, 16 ≤ a.1 := fun a ha => (h.pos a ha).1
  have hsk := st_succ ps k _ hk
  simp only [] at hsk
  have hse := st_le ps hp (k + 1) ps.length (by omega) (Nat.le_refl _)
  rw [st_end] at hse
  have hend := h.endle
  have hst16 : 16 ≤ stOf ps k := by unfold stOf; omega
  have hcnt : (zsOf ps).countP (· < off) = k + 1 := zs_count ps hp off (k + 1) (by omega) (fun i hi => by have := st_le ps hp i k (by omega) (by omega); omega)
    (fun i hi hl => by
      have := st_le ps hp (k + 1) i hi (by omega)
      rcases h3 with h3 | h3
      · omega
      · omega)
  have hcon : (zsOf ps).contains off = false := zs_hasnt ps off (fun i hi e => by
    by_cases hik : i ≤ k
    · have := st_le ps hp i k hik (by omega); omega
    · have := st_le ps hp (k + 1) i (by omega) (by omega)
      rcases h3 with h3 | h3 <;> omega)
  have g1 : ¬ n < 0 := by omega
  have g2 : ¬ off < 16 := by omega
  have g3 : ¬ (endOf ps : Int) < off := by omega
  obtain ⟨c0, c1, c2, c3, c4, c5, c6⟩ := h.cells
  have hA := Lib.hid h
  have hlen := h.len
  replace hcnt := Lib.hid hcnt
  replace hcon := Lib.hid hcon
  replace hr := Lib.hid hr
  replace hk := Lib.hid hk
  replace hp := Lib.hid hp
  clear h h1 h2 h3 hsk hse
  go_enter Try.func66, Try.ntmps66
  cases r with
  | true =>
    go_wp2_with (first
      | (go_at_call 33; refine (ar_end hA.out).mono ?_; rintro e w' ⟨rfl, rfl⟩)
      | (go_at_call 76; refine (search_ps hA.out (by omega) off (k + 1) false hcnt.out hcon.out).mono ?_; rintro e w' ⟨rfl, q, rfl⟩)
      | (go_at_call 103; refine (holds_in (hA.out.drewN _) k c l hk.out off n _ (by omega) _ hr.out (by omega)).mono ?_; rintro e w' ⟨rfl, m, rfl⟩)
      | fail)
    go_ret
    exact ⟨rfl, _, rfl⟩
  | false =>
    by_cases hn0 : n = 0
    · subst hn0
      go_wp2_with (first
        | (go_at_call 33; refine (ar_end hA.out).mono ?_; rintro e w' ⟨rfl, rfl⟩)
        | (go_at_call 76; refine (search_ps hA.out (by omega) off (k + 1) false hcnt.out hcon.out).mono ?_; rintro e w' ⟨rfl, q, rfl⟩)
        | (go_at_call 103; refine (holds_in (hA.out.drewN _) k c l hk.out off 0 _ (by omega) _ hr.out (by omega)).mono ?_; rintro e w' ⟨rfl, m, rfl⟩)
        | fail)
      go_ret
      exact ⟨rfl, _, rfl⟩
    · go_wp2_with (first
        | (go_at_call 33; refine (ar_end hA.out).mono ?_; rintro e w' ⟨rfl, rfl⟩)
        | (go_at_call 76; refine (search_ps hA.out (by omega) off (k + 1) false hcnt.out hcon.out).mono ?_; rintro e w' ⟨rfl, q, rfl⟩)
        | (go_at_call 103; refine (holds_in (hA.out.drewN _) k c l hk.out off n _ (by omega) _ hr.out (by omega)).mono ?_; rintro e w' ⟨rfl, m, rfl⟩)
        | fail)
      go_ret
      exact ⟨rfl, _, rfl⟩
set_option maxHeartbeats 2000000 in
theorem good_at (h : ArAt w p x lim ps L) (k c : Nat) (l : Bool) (hk : ps[k]? = some (c, l)) (off n : Int) (h1 : off = ((stOf ps k : Nat) : Int)) (hn : 0 ≤ n) (r : Bool)
    (hr : ((l && decide (n ≤ (c : Int))) || (decide (n = 0) && prevLive ps k)) = r) : Calls Try.prog 66 #[.pointer (some ⟨p, 0, none⟩), .int .i64 off, .int .i64 n] w fun e w' => e = .returned (.bool r) ∧ ∃ m, w' = w.drewN m := by
  subst h1
  have hkl : k < ps.length := (List.getElem?_eq_some_iff.1 hk).1
  have hp : ∀ a ∈ ps, 16 ≤ a.1 := fun a ha => (h.pos a ha).1
  have hse := st_le ps hp k ps.length (by omega) (Nat.le_refl _)
  rw [st_end] at hse
  have hend := h.endle
  have hst16 : 16 ≤ stOf ps k := by unfold stOf; omega
  have hcnt : (zsOf ps).countP (· < ((stOf ps k : Nat) : Int)) = k := zs_count ps hp _ k (by omega) (fun i hi => by have := st_lt ps hp i k hi (by omega); omega) (fun i hi hl => by have := st_le ps hp k i hi (by omega); omega)
  have hcon := zs_has ps k hkl
  obtain ⟨b1, hr1⟩ : ∃ b, (l && decide (n ≤ ((stOf ps k : Nat) : Int) + c - ((stOf ps k : Nat) : Int))) = b := ⟨_, rfl⟩
  have hb1 : (l && decide (n ≤ (c : Int))) = b1 := by
    rw [← hr1]
    congr 2
    apply propext
    omega
  rw [hb1] at hr
  have g1 : ¬ n < 0 := by omega
  have g2 : ¬ ((stOf ps k : Nat) : Int) < 16 := by omega
  have g3 : ¬ (endOf ps : Int) < ((stOf ps k : Nat) : Int) := by omega
  obtain ⟨c0, c1, c2, c3, c4, c5, c6⟩ := h.cells
  have hA := Lib.hid h
  have hlen := h.len
  have hprev : ∀ j c' l', k = j + 1 → ps[j]? = some (c', l') → stOf ps k = stOf ps j + c' := fun j c' l' e hj => by rw [e]; exact st_succ ps j _ hj
  obtain ⟨S, hS⟩ : ∃ S, Hid (S = stOf ps k) := ⟨_, rfl⟩
  replace hr1 : (l && decide (n ≤ ((stOf ps k : Nat) : Int) + c - (S : Int))) = b1 := by rw [hS.out]; exact hr1
  rw [← hS.out] at hcnt hcon g2 g3 hse hst16 hprev ⊢
  replace hcnt := Lib.hid hcnt
  replace hcon := Lib.hid hcon
  replace hr1 := Lib.hid hr1
  replace hk := Lib.hid hk
  replace hp := Lib.hid hp
  replace hprev := Lib.hid hprev
  clear h hb1
  have tok1 : True := trivial
  cases b1 with
  | true =>
    simp only [Bool.true_or] at hr
    subst hr
    go_enter Try.func66, Try.ntmps66
    go_wp2_with (first
      | (go_at_call 33; refine (ar_end hA.out).mono ?_; rintro e w' ⟨rfl, rfl⟩)
      | (go_at_call 76; refine (search_ps hA.out (by omega) _ _ true hcnt.out hcon.out).mono ?_; rintro e w' ⟨rfl, q, rfl⟩)
      | (go_at_call 103; have _t := tok1; refine (holds_in (hA.out.drewN _) _ c l hk.out _ n _ (by omega) _ hr1.out (by first | rfl | omega)).mono ?_; rintro e w' ⟨rfl, m, rfl⟩; clear tok1)
      | fail)
    go_ret
    exact ⟨rfl, _, rfl⟩
  | false =>
    simp only [Bool.false_or] at hr
    by_cases hn0 : n = 0
    · subst hn0
      simp only [decide_true, Bool.true_and] at hr
      cases k with
      | zero =>
        simp only [prevLive] at hr
        subst hr
        go_enter Try.func66, Try.ntmps66
        go_wp2_with (first
          | (go_at_call 33; refine (ar_end hA.out).mono ?_; rintro e w' ⟨rfl, rfl⟩)
          | (go_at_call 76; refine (search_ps hA.out (by omega) _ _ true hcnt.out hcon.out).mono ?_; rintro e w' ⟨rfl, q, rfl⟩)
          | (go_at_call 103; have _t := tok1; refine (holds_in (hA.out.drewN _) _ c l hk.out _ 0 _ (by omega) _ hr1.out (by first | rfl | omega)).mono ?_; rintro e w' ⟨rfl, m, rfl⟩; clear tok1)
          | (go_at_call 103; refine (holds_no _ _ _ (by omega) _ _).mono ?_; rintro e w' ⟨rfl, m2, rfl⟩)
          | fail)
        go_ret
        exact ⟨rfl, _, rfl⟩
      | succ j =>
        obtain ⟨⟨c', l'⟩, hj⟩ : ∃ a, Hid (ps[j]? = some a) := ⟨_, List.getElem?_eq_getElem (by omega)⟩
        have hl' : l' = r := by rw [← hr]; simp [prevLive, hj.out]
        have hSj := hprev.out j c' l' rfl hj.out
        have hr2 : Hid ((l' && decide ((0 : Int) ≤ ((stOf ps j : Nat) : Int) + c' - (S : Int))) = r) := by
          unfold Hid
          rw [hl', decide_eq_true (by omega), Bool.and_true]
        clear hr hSj hl'
        go_enter Try.func66, Try.ntmps66
        go_wp2_with (first
          | (go_at_call 33; refine (ar_end hA.out).mono ?_; rintro e w' ⟨rfl, rfl⟩)
          | (go_at_call 76; refine (search_ps hA.out (by omega) _ _ true hcnt.out hcon.out).mono ?_; rintro e w' ⟨rfl, q, rfl⟩)
          | (go_at_call 103; have _t := tok1; refine (holds_in (hA.out.drewN _) _ c l hk.out _ 0 _ (by omega) _ hr1.out (by first | rfl | omega)).mono ?_; rintro e w' ⟨rfl, m, rfl⟩; clear tok1)
          | (go_at_call 103; refine (holds_in (hA.out.drewN _) j c' l' hj.out _ 0 _ (by omega) _ hr2.out (by omega)).mono ?_; rintro e w' ⟨rfl, m2, rfl⟩)
          | fail)
        go_ret
        exact ⟨rfl, _, rfl⟩
    · have hd0 : decide (n = 0) = false := decide_eq_false hn0
      rw [hd0, Bool.false_and] at hr
      subst hr
      go_enter Try.func66, Try.ntmps66
      go_wp2_with (first
        | (go_at_call 33; refine (ar_end hA.out).mono ?_; rintro e w' ⟨rfl, rfl⟩)
        | (go_at_call 76; refine (search_ps hA.out (by omega) _ _ true hcnt.out hcon.out).mono ?_; rintro e w' ⟨rfl, q, rfl⟩)
        | (go_at_call 103; have _t := tok1; refine (holds_in (hA.out.drewN _) _ c l hk.out _ n _ (by omega) _ hr1.out (by first | rfl | omega)).mono ?_; rintro e w' ⟨rfl, m, rfl⟩; clear tok1)
        | fail)
      go_ret
      exact ⟨rfl, _, rfl⟩
end
end Go.Proofs.Ytpbalilnemjeeaa
/- What is proved here: the contracts of the arena's calls on a span inside one live block. No condition. -/
namespace Go.Proofs.Ytpbalilnemjeeaa
set_option linter.unusedVariables false
set_option linter.unusedSimpArgs false
open Go.RowKit Pm Pa Pl
/-- the span lies inside one live block -/
def Inside (ps : Parts) (off k : Nat) : Prop := ∃ i c, ps[i]? = some (c, true) ∧ stOf ps i ≤ off ∧ off + k ≤ stOf ps i + c
section
variable {w w' : World} {p : Nat} {x : Loc} {lim : Nat} {ps : Parts} {L : List UInt8}
theorem Inside.end_le {off k : Nat} (h : Inside ps off k) (hp : ∀ a ∈ ps, 16 ≤ a.1) : off + k ≤ endOf ps ∧ 16 ≤ off := by
  obtain ⟨i, c, hi, h1, h2⟩ := h
  have hl := (List.getElem?_eq_some_iff.1 hi).1
  have h3 := st_succ ps i _ hi
  have h4 := st_le ps hp (i + 1) ps.length (by omega) (Nat.le_refl _)
  rw [st_end] at h4
  simp only [] at h3
  have h5 : 16 ≤ stOf ps i := by unfold stOf; omega
  omega
theorem ArAt.inside (h : ArAt w p x lim ps L) {off k : Nat} (hi : Inside ps off k) : off + k ≤ endOf ps := (hi.end_le fun a ha => (h.pos a ha).1).1
theorem good_yes (h : ArAt w p x lim ps L) {off k : Nat} (hi : Inside ps off k) (O K : Int) (hO : O = off) (hK : K = k) : Calls Try.prog 66 #[.pointer (some ⟨p, 0, none⟩), .int .i64 O, .int .i64 K] w fun e w' => e = .returned (.bool true) ∧ ∃ m, w' = w.drewN m := by
  subst hO hK
  obtain ⟨i, c, hi, h1, h2⟩ := hi
  have hp : ∀ a ∈ ps, 16 ≤ a.1 := fun a ha => (h.pos a ha).1
  have hl := (List.getElem?_eq_some_iff.1 hi).1
  have h3 := st_succ ps i _ hi
  simp only [] at h3
  by_cases e1 : off = stOf ps i
  · exact good_at h i c true hi off k (by omega) (by omega) true (by rw [Bool.true_and, decide_eq_true (by omega), Bool.true_or])
  · by_cases e2 : off < stOf ps i + c
    · exact good_mid h i c true hi off k (by omega) (by omega) (.inl (by omega)) (by omega) true (by rw [Bool.true_and]; exact decide_eq_true (by omega))
    · by_cases e3 : i + 1 = ps.length
      · exact good_mid h i c true hi off k (by omega) (by omega) (.inr e3) (by omega) true (by rw [Bool.true_and]; exact decide_eq_true (by omega))
      · obtain ⟨⟨c2, l2⟩, hj⟩ : ∃ a, ps[i + 1]? = some a := ⟨_, List.getElem?_eq_getElem (by omega)⟩
        obtain rfl : k = 0 := by omega
        refine good_at h (i + 1) c2 l2 hj off ((0 : Nat) : Int) (by omega) (by omega) true ?_
        have hpr : prevLive ps (i + 1) = true := by simp [prevLive, hi]
        rw [hpr]
        simp
theorem word_yes (h : ArAt w p x lim ps L) {off k : Nat} (hi : Inside ps off k) (hk : k = 1 ∨ k = 2 ∨ k = 4 ∨ k = 8) (O K : Int) (hO : O = off) (hK : K = k) : Calls Try.prog 72 #[.pointer (some ⟨p, 0, none⟩), .int .i64 O, .int .i64 K] w fun e w' => e = .returned (.int .i64 0) ∧ ∃ m, w' = w.drewN m := by
  have hg := Lib.hid (good_yes h hi O K hO hK)
  clear h hi hO
  rcases hk with rfl | rfl | rfl | rfl <;> (subst hK; go_enter Try.func72, Try.ntmps72; go_wp2_with (first | (go_at_call 66; refine hg.out.mono ?_; rintro e w' ⟨rfl, m, rfl⟩) | fail); go_ret; exact ⟨rfl, _, rfl⟩)
theorem ArAt.wrote {L' : List UInt8} (h : ArAt w p x lim ps L) (hm : MemAt w' x.m x.q L' (endOf ps)) (ht : Turns [x.q] w w') : ArAt w' p x lim ps L' := by
  obtain ⟨lab, l0, l1, l2, l3, l4, l5, l6, l7⟩ := h.nd
  have hne : ∀ y, y ∈ [x.q] → lab y = 2 := fun y hy => by simp only [List.mem_singleton] at hy; rw [hy]; exact l2
  exact ⟨h.hd.turn ht (fun hk => by have := hne _ hk; omega), hm, row_turn h.st ht (fun g hg hk => by have := hne _ hk; have := l5 g hg; omega), row_turn h.cl ht (fun g hg hk => by have := hne _ hk; have := l6 g hg; omega),
    h.sz.turn ht (fun hk => by have := hne _ hk; omega), free_turn h.fr ht (fun hk => by have := hne _ hk; omega) (fun g hg hk => by have := hne _ hk; have := l7 g hg; omega), h.nd, fun k hk => Nat.lt_of_lt_of_le (h.fl k hk) ht.size, h.pos, h.lv, h.lm⟩
theorem ArAt.q_all (x : Loc) (p : Nat) : ∀ y, y ∈ [x.q] → y ∈ x.all p := fun y hy => by simp only [List.mem_singleton] at hy; rw [hy]; simp [Loc.all]
set_option maxHeartbeats 1000000 in
theorem ar_fill (h : ArAt w p x lim ps L) {off k : Nat} (hi : Inside ps off k) (c : UInt8) (O K : Int) (hO : O = off) (hK : K = k) : Calls Try.prog 26 #[.pointer (some ⟨p, 0, none⟩), .int .i64 O, .int .i64 K, .int .u8 (c.toNat : Int)] w fun e w' =>
    e = .returned (.int .i64 0) ∧ ArAt w' p x lim ps (splice L off (List.replicate k c)) ∧ Turns [x.q] w w' := by
  have hA := Lib.hid h
  subst hO hK
  obtain ⟨c0, c1, c2, c3, c4, c5, c6⟩ := h.cells
  clear h c0 c1 c3 c4 c5 c6
  have tok1 : True := trivial
  have tok2 : True := trivial
  go_enter Try.func26, Try.ntmps26
  go_wp2_with (first
    | (go_at_call 66; have _t := tok1; refine (good_yes hA.out hi _ _ (by first | rfl | omega) (by first | rfl | omega)).mono ?_; rintro e w' ⟨rfl, m1, rfl⟩; clear tok1)
    | (go_at_call 71; refine (fill_in (hA.out.drewN _).mem off k c (hA.out.inside hi)).mono ?_; rintro e w9 ⟨rfl, hm9, ht9⟩)
    | fail)
  go_ret
  have hT := ((Turns.refl [x.q] w).drewN _).trans ht9
  exact ⟨rfl, hA.out.wrote hm9 hT, hT⟩
set_option maxHeartbeats 1000000 in
theorem ar_store (h : ArAt w p x lim ps L) {off k : Nat} (hi : Inside ps off k) (hk : k = 1 ∨ k = 2 ∨ k = 4 ∨ k = 8) (v : Nat) (hv : v < 2 ^ 64) (O K : Int) (hO : O = off) (hK : K = k) : Calls Try.prog 29 #[.pointer (some ⟨p, 0, none⟩), .int .i64 O, .int .i64 K, .int .u64 v] w fun e w' =>
    e = .returned (.int .i64 0) ∧ ArAt w' p x lim ps (splice L off (leB k v)) ∧ Turns [x.q] w w' := by
  have hA := Lib.hid h
  subst hO hK
  obtain ⟨c0, c1, c2, c3, c4, c5, c6⟩ := h.cells
  clear h c0 c1 c3 c4 c5 c6
  have tok1 : True := trivial
  have tok2 : True := trivial
  go_enter Try.func29, Try.ntmps29
  go_wp2_with (first
    | (go_at_call 72; refine (word_yes hA.out hi hk _ _ (by first | rfl | omega) (by first | rfl | omega)).mono ?_; rintro e w' ⟨rfl, m1, rfl⟩)
    | (go_at_call 73; refine (store_in (hA.out.drewN _).mem off k v hk (hA.out.inside hi) hv).mono ?_; rintro e w9 ⟨rfl, hm9, ht9⟩)
    | fail)
  go_ret
  have hT := ((Turns.refl [x.q] w).drewN _).trans ht9
  exact ⟨rfl, hA.out.wrote hm9 hT, hT⟩
set_option maxHeartbeats 1000000 in
theorem ar_copy (h : ArAt w p x lim ps L) {dst src k : Nat} (hi : Inside ps dst k) (hj : Inside ps src k) (D S K : Int) (hD : D = dst) (hS : S = src) (hK : K = k) : Calls Try.prog 24 #[.pointer (some ⟨p, 0, none⟩), .int .i64 D, .int .i64 S, .int .i64 K] w fun e w' =>
    e = .returned (.int .i64 0) ∧ ArAt w' p x lim ps (splice L dst ((L.drop src).take k)) ∧ Turns [x.q] w w' := by
  have hA := Lib.hid h
  subst hD hS hK
  obtain ⟨c0, c1, c2, c3, c4, c5, c6⟩ := h.cells
  clear h c0 c1 c3 c4 c5 c6
  have tok1 : True := trivial
  have tok2 : True := trivial
  go_enter Try.func24, Try.ntmps24
  go_wp2_with (first
    | (go_at_call 66; have _t := tok1; refine (good_yes hA.out hi _ _ (by first | rfl | omega) (by first | rfl | omega)).mono ?_; rintro e w' ⟨rfl, m1, rfl⟩; clear tok1)
    | (go_at_call 66; have _t := tok2; refine (good_yes (hA.out.drewN _) hj _ _ (by first | rfl | omega) (by first | rfl | omega)).mono ?_; rintro e w' ⟨rfl, m2, rfl⟩; clear tok2)
    | (go_at_call 69; refine (copy_in (hA.out.drewN _).mem dst src k (hA.out.inside hi) (hA.out.inside hj)).mono ?_; rintro e w9 ⟨rfl, hm9, ht9⟩)
    | fail)
  go_ret
  have hT := ((Turns.refl [x.q] w).drewN _).trans ht9
  exact ⟨rfl, hA.out.wrote hm9 hT, hT⟩
set_option maxHeartbeats 1000000 in
theorem ar_load (h : ArAt w p x lim ps L) {off k : Nat} (hi : Inside ps off k) (hk : k = 1 ∨ k = 2 ∨ k = 4 ∨ k = 8) (O K : Int) (hO : O = off) (hK : K = k) (r : Int) (hr : (leN ((L.drop off).take k) : Int) = r) : Calls Try.prog 30 #[.pointer (some ⟨p, 0, none⟩), .int .i64 O, .int .i64 K] w fun e w' =>
    e = .returned (.tuple #[.int .u64 r, .int .i64 0]) ∧ ∃ m, w' = w.drewN m := by
  subst hr
  subst hO hK
  have hA := Lib.hid h
  obtain ⟨c0, c1, c2, c3, c4, c5, c6⟩ := h.cells
  clear h c0 c1 c3 c4 c5 c6
  go_enter Try.func30, Try.ntmps30
  go_wp2_with (first
    | (go_at_call 72; refine (word_yes hA.out hi hk _ _ (by first | rfl | omega) (by first | rfl | omega)).mono ?_; rintro e w' ⟨rfl, m1, rfl⟩)
    | (go_at_call 74; refine (load_in (hA.out.drewN _).mem off k hk (hA.out.inside hi)).mono ?_; rintro e w9 ⟨rfl, rfl⟩)
    | fail)
  go_ret2
  exact ⟨rfl, _, rfl⟩
set_option maxHeartbeats 1000000 in
theorem ar_equal (h : ArAt w p x lim ps L) {dst src k : Nat} (hi : Inside ps dst k) (hj : Inside ps src k) (D S K : Int) (hD : D = dst) (hS : S = src) (hK : K = k) (r : Bool) (hr : decide ((L.drop dst).take k = (L.drop src).take k) = r) : Calls Try.prog 23 #[.pointer (some ⟨p, 0, none⟩), .int .i64 D, .int .i64 S, .int .i64 K] w fun e w' =>
    e = .returned (.tuple #[.bool r, .int .i64 0]) ∧ ∃ m, w' = w.drewN m := by
  subst hr
  subst hD hS hK
  have hA := Lib.hid h
  obtain ⟨c0, c1, c2, c3, c4, c5, c6⟩ := h.cells
  clear h c0 c1 c3 c4 c5 c6
  have tok1 : True := trivial
  have tok2 : True := trivial
  go_enter Try.func23, Try.ntmps23
  go_wp2_with (first
    | (go_at_call 66; have _t := tok1; refine (good_yes hA.out hi _ _ (by first | rfl | omega) (by first | rfl | omega)).mono ?_; rintro e w' ⟨rfl, m1, rfl⟩; clear tok1)
    | (go_at_call 66; have _t := tok2; refine (good_yes (hA.out.drewN _) hj _ _ (by first | rfl | omega) (by first | rfl | omega)).mono ?_; rintro e w' ⟨rfl, m2, rfl⟩; clear tok2)
    | (go_at_call 68; refine (equal_in (hA.out.drewN _).mem dst src k (hA.out.inside hi) (hA.out.inside hj)).mono ?_; rintro e w9 ⟨rfl, m9, rfl⟩)
    | fail)
  go_ret2
  exact ⟨rfl, _, rfl⟩
theorem conv_bytes (w : World) (g k c : Nat) (X : List UInt8) (S : ByteArray) (hX : S.data.toList = X) (hl : X.length = k) (hb : Blk w g (bv X) 5) : (convert 131 9 (.slice (some ⟨g, 0, none⟩) k c)).run Try.prog w = .ok (.string S) w := by
  have h := run_convert_bytes_arg (P := Try.prog) w 131 5 Try.underlying131 Try.underlying5 g 0 k c (X.map fun b => (b.toNat : Int)) (by simp [hl]) (fun i hi => by
    rw [Nat.zero_add, hb.cell, bv_get?, List.getElem?_eq_getElem (by omega)]
    simp [List.getD, List.getElem?_eq_getElem (show i < X.length by omega)]) 9 Try.underlying9
  rw [h]
  have e : strOfNums (X.map fun b => (b.toNat : Int)) = S := by
    unfold strOfNums
    subst hX
    obtain ⟨⟨l⟩⟩ := S
    have e2 : ((fun n : Int => UInt8.ofNat n.toNat) ∘ fun b : UInt8 => (b.toNat : Int)) = id := by funext b; simp
    simp only [List.map_map, e2, List.map_id]
  rw [e]
set_option maxHeartbeats 1000000 in
theorem ar_read (h : ArAt w p x lim ps L) {off k : Nat} (hi : Inside ps off k) (O K : Int) (hO : O = off) (hK : K = k) (S : ByteArray) (hS : S.data.toList = (L.drop off).take k) : Calls Try.prog 25 #[.pointer (some ⟨p, 0, none⟩), .int .i64 O, .int .i64 K] w fun e w' =>
    e = .returned (.tuple #[.string S, .int .i64 0]) ∧ Below w.heap.size w w' := by
  subst hO hK
  have hA := Lib.hid h
  obtain ⟨c0, c1, c2, c3, c4, c5, c6⟩ := h.cells
  have hl : ((L.drop off).take k).length = k := by
    have := h.inside hi
    have := h.mem.le
    rw [List.length_take, List.length_drop]; omega
  clear h c0 c1 c3 c4 c5 c6
  have tok1 : True := trivial
  replace hS := Lib.hid hS
  replace hl := Lib.hid hl
  go_enter Try.func25, Try.ntmps25
  go_wp2_with (first
    | (go_at_call 66; have _t := tok1; refine (good_yes hA.out hi _ _ (by first | rfl | omega) (by first | rfl | omega)).mono ?_; rintro e w' ⟨rfl, m1, rfl⟩; clear tok1)
    | (go_at_call 70; refine (read_in (hA.out.drewN _).mem off k (hA.out.inside hi)).mono ?_; rintro e w9 ⟨rfl, hb9, hw9⟩; have hcv := conv_bytes w9 _ k k _ S hS.out hl.out hb9; simp only [World.heap_drewN] at hcv)
    | fail)
  go_ret2
  exact ⟨rfl, Below.then (below_drewN (Below.refl _ _) _) hw9⟩
end
end Go.Proofs.Ytpbalilnemjeeaa
/- What is proved here: the arena's contracts as a law meets them: an arena that the call itself has made, and nothing old has turned. No condition. -/
namespace Go.Proofs.Ytpbalilnemjeeaa
set_option linter.unusedVariables false
set_option linter.unusedSimpArgs false
open Go.RowKit Pm Pa Pl
structure AS (w0 : World) (p : Nat) (x : Loc) (lim : Nat) (ps : Parts) (L : List UInt8) (w : World) : Prop where
  below : Below w0.heap.size w0 w
  ar : ArAt w p x lim ps L
  own : ∀ k, k ∈ x.all p → w0.heap.size ≤ k
section
variable {w0 w w' : World} {p : Nat} {x x' : Loc} {lim : Nat} {ps ps' : Parts} {L L' : List UInt8}
theorem AS.keep (h : AS w0 p x lim ps L w) (hb : Below w.heap.size w w') : AS w0 p x lim ps L w' := ⟨Below.then h.below hb, h.ar.keep hb, h.own⟩
theorem AS.drewN (h : AS w0 p x lim ps L w) (m : Nat) : AS w0 p x lim ps L (w.drewN m) := ⟨below_drewN h.below m, h.ar.drewN m, h.own⟩
theorem AS.drew (h : AS w0 p x lim ps L w) : AS w0 p x lim ps L w.drew := h.keep (Below.refl _ _).drew
theorem AS.alloc (h : AS w0 p x lim ps L w) (o : Obj) : AS w0 p x lim ps L (w.alloc o) := h.keep ((Below.refl _ _).alloc (Nat.le_refl _) o)
theorem AS.turned (h : AS w0 p x lim ps L w) (ht : Turns (x.all p) w w') (ha : ArAt w' p x' lim ps' L') (hf : ∀ k, k ∈ x'.all p → k ∈ x.all p ∨ w.heap.size ≤ k) : AS w0 p x' lim ps' L' w' :=
  ⟨Turns.below h.below ht h.own h.below.size, ha, fun k hk => by rcases hf k hk with e | e; exact h.own k e; exact Nat.le_trans h.below.size e⟩
theorem AS.wrote (h : AS w0 p x lim ps L w) (ht : Turns [x.q] w w') (ha : ArAt w' p x lim ps L') : AS w0 p x lim ps L' w' :=
  h.turned (ht.more fun y hy => .inl (ArAt.q_all x p y hy)) ha fun k hk => .inl hk
theorem num_any (e : Int) (w : World) : Calls Try.prog 20 #[.int .i64 e] w fun r w' => r = .returned (.int .i64 e) ∧ w = w' := by
  go_enter Try.func20, Try.ntmps20
  go_wp2_with fail
  go_ret
  exact ⟨rfl, rfl⟩
theorem as_new (lim : Nat) (w : World) (h : lim ≤ 2097152) (N : Int) (hN : N = lim) : Calls Try.prog 19 #[.int .i64 N] w fun e w' =>
    ∃ p x L, e = .returned (.tuple #[.pointer (some ⟨p, 0, none⟩), .int .i64 0]) ∧ AS w p x lim [] L w' := by
  subst hN
  refine (arnew_yes lim w h).mono ?_
  rintro e w' ⟨p, x, L, rfl, h1, h2, h3⟩
  exact ⟨p, x, L, rfl, h2, h1, h3⟩
theorem as_alloc (h : AS w0 p x lim ps L w) (hnd : noDead ps) (n : Int) (hv : 1 ≤ n ∧ n ≤ 1048576) (c : Nat) (hc : clsN n = c) (hl : liveSum ps + c ≤ lim) (hr : endOf ps + c ≤ 134217728) (off : Int) (ho : (endOf ps : Int) = off) :
    Calls Try.prog 28 #[.pointer (some ⟨p, 0, none⟩), .int .i64 n] w fun e w' => ∃ x' L', e = .returned (.tuple #[.int .i64 off, .int .i64 0]) ∧ AS w0 p x' lim (ps ++ [(c, true)]) L' w' ∧ L'.take (endOf ps + c) = L.take (endOf ps) ++ List.replicate c 0 := by
  subst hc ho
  refine (alloc_yes h.ar hnd n hv hl hr).mono ?_
  rintro e w' ⟨x', L', rfl, h1, h2, h3, h4⟩
  exact ⟨x', L', rfl, h.turned h3 h1 h4, h2⟩
theorem as_fill (h : AS w0 p x lim ps L w) {off k : Nat} (hi : Inside ps off k) (c : UInt8) (O K : Int) (hO : O = off) (hK : K = k) (b : Int) (hb : (c.toNat : Int) = b) : Calls Try.prog 26 #[.pointer (some ⟨p, 0, none⟩), .int .i64 O, .int .i64 K, .int .u8 b] w fun e w' =>
    e = .returned (.int .i64 0) ∧ AS w0 p x lim ps (splice L off (List.replicate k c)) w' := by
  subst hb
  refine (ar_fill h.ar hi c O K hO hK).mono ?_
  rintro e w' ⟨rfl, h1, h2⟩
  exact ⟨rfl, h.wrote h2 h1⟩
theorem as_store (h : AS w0 p x lim ps L w) {off k : Nat} (hi : Inside ps off k) (hk : k = 1 ∨ k = 2 ∨ k = 4 ∨ k = 8) (v : Nat) (hv : v < 2 ^ 64) (O K : Int) (hO : O = off) (hK : K = k) : Calls Try.prog 29 #[.pointer (some ⟨p, 0, none⟩), .int .i64 O, .int .i64 K, .int .u64 v] w fun e w' =>
    e = .returned (.int .i64 0) ∧ AS w0 p x lim ps (splice L off (leB k v)) w' := by
  refine (ar_store h.ar hi hk v hv O K hO hK).mono ?_
  rintro e w' ⟨rfl, h1, h2⟩
  exact ⟨rfl, h.wrote h2 h1⟩
theorem as_copy (h : AS w0 p x lim ps L w) {dst src k : Nat} (hi : Inside ps dst k) (hj : Inside ps src k) (D S K : Int) (hD : D = dst) (hS : S = src) (hK : K = k) : Calls Try.prog 24 #[.pointer (some ⟨p, 0, none⟩), .int .i64 D, .int .i64 S, .int .i64 K] w fun e w' =>
    e = .returned (.int .i64 0) ∧ AS w0 p x lim ps (splice L dst ((L.drop src).take k)) w' := by
  refine (ar_copy h.ar hi hj D S K hD hS hK).mono ?_
  rintro e w' ⟨rfl, h1, h2⟩
  exact ⟨rfl, h.wrote h2 h1⟩
theorem as_load (h : AS w0 p x lim ps L w) {off k : Nat} (hi : Inside ps off k) (hk : k = 1 ∨ k = 2 ∨ k = 4 ∨ k = 8) (O K : Int) (hO : O = off) (hK : K = k) (r : Int) (hr : (leN ((L.drop off).take k) : Int) = r) : Calls Try.prog 30 #[.pointer (some ⟨p, 0, none⟩), .int .i64 O, .int .i64 K] w fun e w' =>
    e = .returned (.tuple #[.int .u64 r, .int .i64 0]) ∧ AS w0 p x lim ps L w' := by
  refine (ar_load h.ar hi hk O K hO hK r hr).mono ?_
  rintro e w' ⟨rfl, m, rfl⟩
  exact ⟨rfl, h.drewN m⟩
theorem as_equal (h : AS w0 p x lim ps L w) {dst src k : Nat} (hi : Inside ps dst k) (hj : Inside ps src k) (D S K : Int) (hD : D = dst) (hS : S = src) (hK : K = k) (r : Bool) (hr : decide ((L.drop dst).take k = (L.drop src).take k) = r) : Calls Try.prog 23 #[.pointer (some ⟨p, 0, none⟩), .int .i64 D, .int .i64 S, .int .i64 K] w fun e w' =>
    e = .returned (.tuple #[.bool r, .int .i64 0]) ∧ AS w0 p x lim ps L w' := by
  refine (ar_equal h.ar hi hj D S K hD hS hK r hr).mono ?_
  rintro e w' ⟨rfl, m, rfl⟩
  exact ⟨rfl, h.drewN m⟩
theorem as_read (h : AS w0 p x lim ps L w) {off k : Nat} (hi : Inside ps off k) (O K : Int) (hO : O = off) (hK : K = k) (S : ByteArray) (hS : S.data.toList = (L.drop off).take k) : Calls Try.prog 25 #[.pointer (some ⟨p, 0, none⟩), .int .i64 O, .int .i64 K] w fun e w' =>
    e = .returned (.tuple #[.string S, .int .i64 0]) ∧ AS w0 p x lim ps L w' := by
  refine (ar_read h.ar hi O K hO hK S hS).mono ?_
  rintro e w' ⟨rfl, h1⟩
  exact ⟨rfl, h.keep h1⟩
end
theorem AS.base {w wx w' : World} {p : Nat} {x : Loc} {lim : Nat} {ps : Parts} {L : List UInt8} (hb : Below w.heap.size w wx) (h : AS wx p x lim ps L w') : AS w p x lim ps L w' :=
  ⟨Below.then hb h.below, h.ar, fun k hk => Nat.le_trans hb.size (h.own k hk)⟩
end Go.Proofs.Ytpbalilnemjeeaa
