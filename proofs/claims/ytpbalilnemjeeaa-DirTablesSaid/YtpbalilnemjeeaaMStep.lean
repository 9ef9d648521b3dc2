/- What is proved here: make, copy and clear of bytes, as steps of a walk. No condition. -/
import Derived.Test.YtpbalilnemjeeaaMemAt
import Derived.OwnWalk
import Derived.Laws.CopyOwn
namespace Go.Proofs.Ytpbalilnemjeeaa
set_option linter.unusedVariables false
set_option linter.unusedSimpArgs false
open Go.RowKit Pm
theorem infoU8 : (Try.prog.info? 5).map (fun i => (i.zero, i.size, i.bytes)) = some (some (.int .u8 0), 1, 1) := by kernel_rfl
theorem infoU8s : (Try.prog.info? 5).map (·.size) = some 1 := by kernel_rfl
theorem made_zero (n : Nat) : madeCells #[Value.int .u8 0] n = bv (List.replicate n 0) := by
  apply Array.ext
  · simp [madeCells, bv]
  · intro i h1 h2
    simp [madeCells, bv, Nat.mod_one]
theorem zero_cells (n : Nat) : Builtin.zeroCells #[Value.int .u8 0] n = bv (List.replicate n 0) := by
  apply Array.ext
  · simp [Builtin.zeroCells, bv]
  · intro i h1 h2
    simp [Builtin.zeroCells, bv, Nat.mod_one]
theorem bv_list (l : List UInt8) : (bv l).toList = l.map fun b => Value.int .u8 (b.toNat : Int) := by simp [bv]
theorem bv_one (l : List UInt8) : ∀ v ∈ (bv l).toList, v.oneCell' = true := by
  intro v hv
  rw [bv_list] at hv
  obtain ⟨b, _, rfl⟩ := List.mem_map.1 hv
  rfl
theorem bv_splice (D : List UInt8) (off : Nat) (cs : List UInt8) : ((bv D).toList.take off ++ (bv cs).toList ++ (bv D).toList.drop (off + (bv cs).toList.length)).toArray = bv (splice D off cs) := by
  apply Array.ext'
  simp only [bv_list, splice, List.map_append, List.map_take, List.map_drop, List.length_map]
  simp
theorem turns_setRow (w : World) (g : Nat) (cs : Array Value) : Turns [g] w (w.setRow g cs) :=
  ⟨rfl, rfl, rfl, by simp [World.setRow], fun k hk hn => setRow_other w g k cs (fun e => hn (by simp [e]))⟩
section
variable {w : World} {ops : Array Oper} {rest : List Oper} {o : Oper} {a : Act} {Q : Exit → Act → World → Prop}
/-- make([]byte, l, c) -/
theorem wpList_make_bytes (hg : o.guard = none) (l c : Operand) (hop : o.op = Op.makeSlice 131 l c) (L C : Nat) (hl : a.eval l = .int .i64 (L : Int)) (hc : a.eval c = .int .i64 (C : Int)) (h1 : L ≤ C) (h2 : C ≤ 281474976710656)
    (h : wpList Try.prog ops Q rest (a.put o.dst (.slice (some ⟨w.heap.size, 0, none⟩) L C)) (w.alloc (.cells (bv (List.replicate C 0)) 5))) : wpList Try.prog ops Q (o :: rest) a w := by
  obtain ⟨i0, hi, hz0, hz1, hz2⟩ := info_parts infoU8
  refine wpList_plain hg fun K hK' => ?_
  have hr := run_make (P := Try.prog) w 131 5 i0 (.int .u8 0) Try.underlying131 hi hz0 .i64 .i64 L C (by omega) (by omega) (by rw [hz2]; omega) (by omega)
  rw [hz1, Nat.mul_one] at hr
  have e : madeCells (Value.int .u8 0).cells (C : Int).toNat = bv (List.replicate C 0) := by rw [Int.toNat_natCast]; exact made_zero _
  rw [e, Int.toNat_natCast, Int.toNat_natCast] at hr
  unfold Oper.wp
  simp [execOp, hop, hl, hc, hr, Result.andThen]
  exact hK' _ _ h
/-- copy(dst, src), dst in a block of bytes -/
theorem wpList_copy_bytes (hgd : o.guard = none) (d s : Operand) (ho : o.op = .call { callee := .builtin .copy, args := #[d, s], argTypes := #[131, 131] })
    (dp sp : Option Addr) (dLen dCap sLen sCap : Nat) (hd : a.eval d = .slice dp dLen dCap) (hs : a.eval s = .slice sp sLen sCap)
    (g off : Nat) (D cs : List UInt8) (hg : Blk w g (bv D) 5) (hn : cs.length = Nat.min sLen dLen)
    (ad : Addr) (hdp : 0 < cs.length → dp = some ⟨g, off, none⟩) (hsp : 0 < cs.length → sp = some ad) (hsrc : ∀ j b, cs[j]? = some b → w.cell? (ad.add j) = some (.int .u8 (b.toNat : Int)))
    (hfit : off + cs.length ≤ D.length)
    (h : ∀ w', Blk w' g (bv (splice D off cs)) 5 → Turns [g] w w' → wpList Try.prog ops Q rest (a.put o.dst (goInt cs.length)) w') : wpList Try.prog ops Q (o :: rest) a w := by
  by_cases h0 : cs.length = 0
  · obtain rfl : cs = [] := List.eq_nil_of_length_eq_zero h0
    refine wpList_copy_nothing hgd d s 131 131 ho 5 Try.underlying131 infoU8s dp sp dLen dCap sLen sCap hd hs (by simpa using hn.symm) ?_
    exact h w (by rw [splice_nil]; exact hg) (Turns.refl _ _)
  · obtain rfl := hdp (by omega)
    obtain rfl := hsp (by omega)
    have hl : (bv cs).toList.length = cs.length := by simp [bv]
    refine wpList_copy_own hgd d s 131 131 ho 5 Try.underlying131 infoU8s g off dLen dCap ad sLen sCap hd hs (bv D) 5 hg (bv cs).toList (by rw [hl]; exact hn) ?_ (by rw [hl, bv_size]; exact hfit) (bv_one cs) ?_
    · intro j v hv
      rw [bv_list, List.getElem?_map] at hv
      obtain ⟨b, hb, rfl⟩ := Option.map_eq_some_iff.1 hv
      exact hsrc j b hb
    · have e := bv_splice D off cs
      rw [List.append_assoc] at e
      rw [e, hl]
      refine h _ ?_ (turns_setRow _ _ _)
      exact setRow_heap w g (bv D) _ 5 _ hg
/-- the same as one step of a region that draws its order -/
theorem step_copy_bytes {K : Act → World → Prop} {E : Prop} (hgd : o.guard = none) (d s : Operand) (ho : o.op = .call { callee := .builtin .copy, args := #[d, s], argTypes := #[131, 131] })
    (dp sp : Option Addr) (dLen dCap sLen sCap : Nat) (hd : a.eval d = .slice dp dLen dCap) (hs : a.eval s = .slice sp sLen sCap)
    (g off : Nat) (D cs : List UInt8) (hg : Blk w g (bv D) 5) (hn : cs.length = Nat.min sLen dLen)
    (ad : Addr) (hdp : 0 < cs.length → dp = some ⟨g, off, none⟩) (hsp : 0 < cs.length → sp = some ad) (hsrc : ∀ j b, cs[j]? = some b → w.cell? (ad.add j) = some (.int .u8 (b.toNat : Int)))
    (hfit : off + cs.length ≤ D.length)
    (h : ∀ w', Blk w' g (bv (splice D off cs)) 5 → Turns [g] w w' → K (a.put o.dst (goInt cs.length)) w') : if Region.wanted o (yielded ops a.tmps) = true then Oper.wp Try.prog o a w K Q else E := by
  have hw : Region.wanted o (yielded ops a.tmps) = true := by simp [Region.wanted, hgd]
  rw [if_pos hw]
  by_cases h0 : cs.length = 0
  · obtain rfl : cs = [] := List.eq_nil_of_length_eq_zero h0
    have hrun := run_copy_none (P := Try.prog) w 131 131 o.type 5 dp sp dLen dCap sLen sCap Try.underlying131 infoU8s (by simpa using hn.symm)
    unfold Oper.wp
    simp [execOp, ho, resolve, invoke, builtin, hd, hs, hrun, Result.andThen]
    exact h w (by rw [splice_nil]; exact hg) (Turns.refl _ _)
  · obtain rfl := hdp (by omega)
    obtain rfl := hsp (by omega)
    have hl : (bv cs).toList.length = cs.length := by simp [bv]
    have hrun := run_copy_row (P := Try.prog) w 131 131 o.type 5 g off dLen dCap ad sLen sCap (bv D) 5 (bv cs).toList Try.underlying131 infoU8s hg (by rw [hl]; exact hn) ?_ (by rw [hl, bv_size]; exact hfit) (bv_one cs)
    · have e := bv_splice D off cs
      rw [e, hl] at hrun
      unfold Oper.wp
      simp only [execOp, ho, resolve, invoke, builtin, List.map_toArray, List.map_cons, List.map_nil, hd, hs]
      simp [hrun, Result.andThen]
      exact h _ (setRow_heap w g (bv D) _ 5 _ hg) (turns_setRow _ _ _)
    · intro j v hv
      rw [bv_list, List.getElem?_map] at hv
      obtain ⟨b, hb, rfl⟩ := Option.map_eq_some_iff.1 hv
      exact hsrc j b hb
theorem run_clear_bytes (g off n cap : Nat) (ty : TypeId) (D : List UInt8) (hg : Blk w g (bv D) 5) (hn : 0 < n) (hfit : off + n ≤ D.length) :
    (Builtin.clear_ #[131] ty #[.slice (some ⟨g, off, none⟩) n cap]).run Try.prog w = .ok (.tuple #[]) (w.setRow g (bv (splice D off (List.replicate n 0)))) := by
  obtain ⟨i0, hi, hz0, hz1, hz2⟩ := info_parts infoU8
  have hl : (bv (List.replicate n (0 : UInt8))).toList.length = n := by simp [bv]
  have hst := run_storeCells_at Try.prog g off 5 (bv (List.replicate n 0)).toList 0 (bv D) w hg (by rw [hl, bv_size]; omega) (bv_one _)
  have hz : (zeroValue 5).run Try.prog w = .ok (.int .u8 0) w := by kernel_rfl
  have e := bv_splice D off (List.replicate n 0)
  rw [Nat.add_zero] at hst
  rw [e] at hst
  obtain ⟨m, rfl⟩ : ∃ m, n = m + 1 := ⟨n - 1, by omega⟩
  have e2 : Builtin.zeroCells (Value.int .u8 0).cells (m + 1) = bv (List.replicate (m + 1) 0) := zero_cells _
  simp [Builtin.clear_, run_underlying Try.underlying131, hz, e2, hst]
theorem run_clear_none (A : Option Addr) (cap : Nat) (ty : TypeId) : (Builtin.clear_ #[131] ty #[.slice A 0 cap]).run Try.prog w = .ok (.tuple #[]) w := by
  cases A <;> simp [Builtin.clear_, run_underlying Try.underlying131]
/-- clear(span), the span in a block of bytes -/
theorem wpList_clear_bytes (hgd : o.guard = none) (x : Operand) (ho : o.op = .call { callee := .builtin .clear, args := #[x], argTypes := #[131] })
    (A : Option Addr) (n cap : Nat) (hx : a.eval x = .slice A n cap) (g off : Nat) (D : List UInt8) (hg : Blk w g (bv D) 5) (hA : 0 < n → A = some ⟨g, off, none⟩) (hfit : off + n ≤ D.length)
    (h : ∀ w', Blk w' g (bv (splice D off (List.replicate n 0))) 5 → Turns [g] w w' → wpList Try.prog ops Q rest (a.put o.dst (.tuple #[])) w') : wpList Try.prog ops Q (o :: rest) a w := by
  refine wpList_plain hgd fun K hK => ?_
  by_cases h0 : n = 0
  · subst h0
    have hr := run_clear_none (w := w) A cap o.type
    unfold Oper.wp
    simp [execOp, ho, resolve, invoke, builtin, hx, hr, Result.andThen]
    exact hK _ _ (h w (by simpa [splice_nil] using hg) (Turns.refl _ _))
  · obtain rfl := hA (by omega)
    have hr := run_clear_bytes (w := w) g off n cap o.type D hg (by omega) hfit
    unfold Oper.wp
    simp [execOp, ho, resolve, invoke, builtin, hx, hr, Result.andThen]
    exact hK _ _ (h _ (setRow_heap w g (bv D) _ 5 _ hg) (turns_setRow _ _ _))
end
end Go.Proofs.Ytpbalilnemjeeaa
