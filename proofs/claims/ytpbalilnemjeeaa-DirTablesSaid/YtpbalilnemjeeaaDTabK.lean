/- What is proved here: what the law DirTables knows between two rounds; the contract of Tables; what its pairs tell. Conditions: the directory is there. -/
import Derived.Test.YtpbalilnemjeeaaDTabI
import Derived.Test.YtpbalilnemjeeaaDMade
import Derived.Test.YtpbalilnemjeeaaDInts
import Derived.RangeFuncBox
namespace Go.Proofs.Ytpbalilnemjeeaa
set_option linter.unusedVariables false
set_option linter.unusedSimpArgs false
open Go.RowKit Pm Pa Pl Pd
theorem DirThere.turn {g p : Nat} {x : Loc} {lim : Nat} {ps : Parts} {L : List UInt8} {off d : Nat} {S : List Nat} {W W' : World} (h : DirThere g p x lim ps L off d W) (ht : Turns S W W') (hS : ∀ k, k ∈ S → ¬ k ∈ x.all p ∧ k ≠ g) : DirThere g p x lim ps L off d W' :=
  ⟨h.1.turn ht (fun k hk e => (hS k e).1 hk), h.2.turn ht (fun hk => (hS g hk).2 rfl)⟩
theorem dir_tables (w : World) (p off d : Nat) : Calls Try.prog 54 #[dirV p off d] w fun e w' => e = .returned (.func (.func 89) #[] #[.pointer (some ⟨w.heap.size, 0, none⟩)]) ∧ Below w.heap.size w w' ∧ Blk w' w.heap.size #[.pointer (some ⟨p, 0, none⟩), .int .i64 (off : Int), .int .i64 (d : Int)] 92 := by
  have hO := Blk.new w #[.pointer (some ⟨p, 0, none⟩), .int .i64 (off : Int), .int .i64 (d : Int)] 92
  have hB := (Below.refl w.heap.size w).alloc (Nat.le_refl _) (.cells #[.pointer (some ⟨p, 0, none⟩), .int .i64 (off : Int), .int .i64 (d : Int)] 92)
  unfold dirV
  go_enter Try.func54, Try.ntmps54
  go_wp2_with fail
  go_ret
  exact ⟨rfl, hB, hO⟩
theorem below_put {B : Nat} (W : World) (l : Nat) (o : Obj) (hB : B ≤ l) (hl : l < W.heap.size) : Below B W (W.putObj l o) :=
  (Below.refl B W).grown (grownBy_putObj' W l o) (by omega) (fun k e => by cases e; exact hB)
theorem Blk.set1 {W : World} {g : Nat} {c : Value} {ty : TypeId} (h : Blk W g #[c] ty) (v : Value) : Blk (W.setCell ⟨g, 0, none⟩ v) g #[v] ty := by
  have := h.set 0 v
  simpa using this
section
variable (w : World)
theorem run_equalIn_seq2_nil (d : Nat) (fn : Fn) (first captured : Array Value) : (Op.equalIn (d + 1) 80 (.func fn first captured) .nilFunc).run Try.prog w = .ok false w := by
  simp [Op.equalIn, run_underlying Try.underlying80]
theorem run_eql_seq2_nil (fn : Fn) (first captured : Array Value) : (binOp .eql 80 (.func fn first captured) .nilFunc).run Try.prog w = .ok (.bool false) w := by
  simp only [binOp]
  simp [show Op.equal 80 (.func fn first captured) .nilFunc = Op.equalIn (9999 + 1) 80 (.func fn first captured) .nilFunc from rfl, run_equalIn_seq2_nil w 9999]
end
/-- the law's cells -/
structure Tb (w0 : World) (a h D g p : Nat) (x : Loc) (ps : Parts) (L : List UInt8) (d : Nat) (es : List Int) (A : Option Addr) (cap : Nat) (stop : Int) (v : Value) (l : List Int) (last n told : Int) (st : Bool) (W : World) : Prop where
  below : Below w0.heap.size w0 W
  offs : Blk W a #[.slice A es.length cap] 29
  stp : Blk W (a + 1) #[.int .i64 stop] 3
  res : Blk W (a + 2) #[.bool false] 4
  dir : DirThere g p x 65536 ps L 16 d W
  lc : Blk W h #[v] 29
  la : Blk W (h + 1) #[.int .i64 last] 3
  nn : Blk W (h + 2) #[.int .i64 n] 3
  td : Blk W (h + 3) #[.int .i64 told] 3
  sp : Blk W (h + 4) #[.bool st] 4
  row : W.ownsRow (D + 2) 3 1 v l.length (l.map (Value.int .i64))
  sz : D + 2 ≤ W.heap.size
  o1 : a + 3 ≤ h
  o2 : h + 5 ≤ g
  o3 : g < D
  o4 : w0.heap.size ≤ a
  o5 : ∀ k, k ∈ x.all p → k < h
section
variable {w0 W W' : World} {a h D g p : Nat} {x : Loc} {ps : Parts} {L : List UInt8} {d : Nat} {es : List Int} {A : Option Addr} {cap : Nat} {stop : Int} {v : Value} {l : List Int} {last n told : Int} {st : Bool}
theorem Tb.rowge (hT : Tb w0 a h D g p x ps L d es A cap stop v l last n told st W) : ∀ k, k ∈ rows v → D + 2 ≤ k ∧ k < W.heap.size := fun k hk => ⟨(hT.row.lt k (by simpa [rows] using hk)).1, row_lt hT.row hk⟩
theorem Tb.turn (hT : Tb w0 a h D g p x ps L d es A cap stop v l last n told st W) {S : List Nat} (ht : Turns S W W') (hS : ∀ k, k ∈ S → D ≤ k ∧ ¬ k ∈ rows v) : Tb w0 a h D g p x ps L d es A cap stop v l last n told st W' := by
  have h1 := hT.o1
  have h2 := hT.o2
  have h3 := hT.o3
  have h4 := hT.o4
  have h5 := hT.o5
  have hn : ∀ j, j < D → ¬ j ∈ S := fun j hj hk => by have := (hS j hk).1; omega
  have hs := ht.size
  have hz := hT.sz
  exact ⟨Turns.below hT.below ht (fun k hk => by have := (hS k hk).1; omega) hT.below.size, hT.offs.turn ht (hn _ (by omega)), hT.stp.turn ht (hn _ (by omega)), hT.res.turn ht (hn _ (by omega)),
    hT.dir.turn ht (fun k hk => ⟨fun e => hn k (by have := h5 k e; omega) hk, fun e => hn k (by omega) hk⟩), hT.lc.turn ht (hn _ (by omega)), hT.la.turn ht (hn _ (by omega)), hT.nn.turn ht (hn _ (by omega)), hT.td.turn ht (hn _ (by omega)), hT.sp.turn ht (hn _ (by omega)),
    row_turn hT.row ht (fun k hk e => (hS k e).2 hk), by omega, h1, h2, h3, h4, h5⟩
theorem Tb.keep (hT : Tb w0 a h D g p x ps L d es A cap stop v l last n told st W) (hb : Below W.heap.size W W') : Tb w0 a h D g p x ps L d es A cap stop v l last n told st W' := hT.turn (S := []) (Turns.of_below hb) (fun k hk => by cases hk)
theorem Tb.setLast (hT : Tb w0 a h D g p x ps L d es A cap stop v l last n told st W) (u : Int) : Tb w0 a h D g p x ps L d es A cap stop v l u n told st (W.setCell ⟨h + 1, 0, none⟩ (.int .i64 u)) := by
  have h1 := hT.o1
  have h2 := hT.o2
  have h3 := hT.o3
  have h4 := hT.o4
  have h5 := hT.o5
  have hz := hT.sz
  have ht : Turns [h + 1] W (W.setCell ⟨h + 1, 0, none⟩ (.int .i64 u)) := (Turns.refl _ W).set (h + 1) 0 _ (.inl (by simp))
  have hn : ∀ j, j ≠ h + 1 → ¬ j ∈ [h + 1] := fun j hj hk => hj (by simpa using hk)
  exact ⟨Turns.below hT.below ht (fun k hk => by simp only [List.mem_singleton] at hk; omega) hT.below.size, hT.offs.turn ht (hn _ (by omega)), hT.stp.turn ht (hn _ (by omega)), hT.res.turn ht (hn _ (by omega)),
    hT.dir.turn ht (fun k hk => by simp only [List.mem_singleton] at hk; exact ⟨fun e => by have := h5 k e; omega, by omega⟩), hT.lc.turn ht (hn _ (by omega)), hT.la.set1 _, hT.nn.turn ht (hn _ (by omega)), hT.td.turn ht (hn _ (by omega)), hT.sp.turn ht (hn _ (by omega)),
    row_turn hT.row ht (fun k hk e => by have := (hT.rowge k hk).1; simp only [List.mem_singleton] at e; omega), by have := ht.size; omega, h1, h2, h3, h4, h5⟩
theorem Tb.setNum (hT : Tb w0 a h D g p x ps L d es A cap stop v l last n told st W) (u : Int) : Tb w0 a h D g p x ps L d es A cap stop v l last u told st (W.setCell ⟨h + 2, 0, none⟩ (.int .i64 u)) := by
  have h1 := hT.o1
  have h2 := hT.o2
  have h3 := hT.o3
  have h4 := hT.o4
  have h5 := hT.o5
  have hz := hT.sz
  have ht : Turns [h + 2] W (W.setCell ⟨h + 2, 0, none⟩ (.int .i64 u)) := (Turns.refl _ W).set (h + 2) 0 _ (.inl (by simp))
  have hn : ∀ j, j ≠ h + 2 → ¬ j ∈ [h + 2] := fun j hj hk => hj (by simpa using hk)
  exact ⟨Turns.below hT.below ht (fun k hk => by simp only [List.mem_singleton] at hk; omega) hT.below.size, hT.offs.turn ht (hn _ (by omega)), hT.stp.turn ht (hn _ (by omega)), hT.res.turn ht (hn _ (by omega)),
    hT.dir.turn ht (fun k hk => by simp only [List.mem_singleton] at hk; exact ⟨fun e => by have := h5 k e; omega, by omega⟩), hT.lc.turn ht (hn _ (by omega)), hT.la.turn ht (hn _ (by omega)), hT.nn.set1 _, hT.td.turn ht (hn _ (by omega)), hT.sp.turn ht (hn _ (by omega)),
    row_turn hT.row ht (fun k hk e => by have := (hT.rowge k hk).1; simp only [List.mem_singleton] at e; omega), by have := ht.size; omega, h1, h2, h3, h4, h5⟩
theorem Tb.setTold (hT : Tb w0 a h D g p x ps L d es A cap stop v l last n told st W) (u : Int) : Tb w0 a h D g p x ps L d es A cap stop v l last n u st (W.setCell ⟨h + 3, 0, none⟩ (.int .i64 u)) := by
  have h1 := hT.o1
  have h2 := hT.o2
  have h3 := hT.o3
  have h4 := hT.o4
  have h5 := hT.o5
  have hz := hT.sz
  have ht : Turns [h + 3] W (W.setCell ⟨h + 3, 0, none⟩ (.int .i64 u)) := (Turns.refl _ W).set (h + 3) 0 _ (.inl (by simp))
  have hn : ∀ j, j ≠ h + 3 → ¬ j ∈ [h + 3] := fun j hj hk => hj (by simpa using hk)
  exact ⟨Turns.below hT.below ht (fun k hk => by simp only [List.mem_singleton] at hk; omega) hT.below.size, hT.offs.turn ht (hn _ (by omega)), hT.stp.turn ht (hn _ (by omega)), hT.res.turn ht (hn _ (by omega)),
    hT.dir.turn ht (fun k hk => by simp only [List.mem_singleton] at hk; exact ⟨fun e => by have := h5 k e; omega, by omega⟩), hT.lc.turn ht (hn _ (by omega)), hT.la.turn ht (hn _ (by omega)), hT.nn.turn ht (hn _ (by omega)), hT.td.set1 _, hT.sp.turn ht (hn _ (by omega)),
    row_turn hT.row ht (fun k hk e => by have := (hT.rowge k hk).1; simp only [List.mem_singleton] at e; omega), by have := ht.size; omega, h1, h2, h3, h4, h5⟩
theorem Tb.setStop (hT : Tb w0 a h D g p x ps L d es A cap stop v l last n told st W) (u : Bool) : Tb w0 a h D g p x ps L d es A cap stop v l last n told u (W.setCell ⟨h + 4, 0, none⟩ (.bool u)) := by
  have h1 := hT.o1
  have h2 := hT.o2
  have h3 := hT.o3
  have h4 := hT.o4
  have h5 := hT.o5
  have hz := hT.sz
  have ht : Turns [h + 4] W (W.setCell ⟨h + 4, 0, none⟩ (.bool u)) := (Turns.refl _ W).set (h + 4) 0 _ (.inl (by simp))
  have hn : ∀ j, j ≠ h + 4 → ¬ j ∈ [h + 4] := fun j hj hk => hj (by simpa using hk)
  exact ⟨Turns.below hT.below ht (fun k hk => by simp only [List.mem_singleton] at hk; omega) hT.below.size, hT.offs.turn ht (hn _ (by omega)), hT.stp.turn ht (hn _ (by omega)), hT.res.turn ht (hn _ (by omega)),
    hT.dir.turn ht (fun k hk => by simp only [List.mem_singleton] at hk; exact ⟨fun e => by have := h5 k e; omega, by omega⟩), hT.lc.turn ht (hn _ (by omega)), hT.la.turn ht (hn _ (by omega)), hT.nn.turn ht (hn _ (by omega)), hT.td.turn ht (hn _ (by omega)), hT.sp.set1 _,
    row_turn hT.row ht (fun k hk e => by have := (hT.rowge k hk).1; simp only [List.mem_singleton] at e; omega), by have := ht.size; omega, h1, h2, h3, h4, h5⟩
theorem Tb.append (hT : Tb w0 a h D g p x ps L d es A cap stop v l last n told st W) {v' : Value} {E : Int} {w1 : World} (hown : w1.ownsRow (D + 2) 3 1 v' (l.length + 1) (l.map (Value.int .i64) ++ [E].map (Value.int .i64))) (hg : (W.alloc (.cells #[.int .i64 E] 3)).grownBy w1 v.ownBlock) :
    Tb w0 a h D g p x ps L d es A cap stop v' (l ++ [E]) last n told st (w1.setCell ⟨h, 0, none⟩ v') ∧ Turns (h :: rows v) W (w1.setCell ⟨h, 0, none⟩ v') ∧ Blk w1 h #[v] 29 ∧ Turns (rows v) W w1 := by
  have h1 := hT.o1
  have h2 := hT.o2
  have h3 := hT.o3
  have h4 := hT.o4
  have h5 := hT.o5
  have hz := hT.sz
  have hr := hT.rowge
  have t1 : Turns (rows v) W w1 := ((Turns.refl _ W).alloc _).trans (turns_grown hg)
  have ht : Turns (h :: rows v) W (w1.setCell ⟨h, 0, none⟩ v') := (t1.more fun k hk => .inl (List.mem_cons_of_mem _ hk)).set h 0 _ (.inl (by simp))
  have hn : ∀ j, j ≠ h → j < D → ¬ j ∈ h :: rows v := fun j hj hd hk => by
    rcases List.mem_cons.1 hk with e | e
    · exact hj e
    · have := (hr j e).1; omega
  have hs := ht.size
  have hlc := hT.lc.turn t1 (fun hk => by have := (hr _ hk).1; omega)
  refine ⟨⟨Turns.below hT.below ht (fun k hk => ?_) hT.below.size, hT.offs.turn ht (hn _ (by omega) (by omega)), hT.stp.turn ht (hn _ (by omega) (by omega)), hT.res.turn ht (hn _ (by omega) (by omega)),
    hT.dir.turn ht (fun k hk => ?_), hlc.set1 _, hT.la.turn ht (hn _ (by omega) (by omega)), hT.nn.turn ht (hn _ (by omega) (by omega)), hT.td.turn ht (hn _ (by omega) (by omega)), hT.sp.turn ht (hn _ (by omega) (by omega)),
    ?_, by omega, h1, h2, h3, h4, h5⟩, ht, hlc, t1⟩
  · rcases List.mem_cons.1 hk with e | e
    · omega
    · have := (hr k e).1; omega
  · rcases List.mem_cons.1 hk with e | e
    · exact ⟨fun e2 => by have := h5 k e2; omega, by omega⟩
    · have := (hr k e).1
      exact ⟨fun e2 => by have := h5 k e2; omega, by omega⟩
  · rw [List.length_append, List.map_append]
    refine row_turn hown ((Turns.refl [h] w1).set h 0 _ (.inl (by simp))) (fun k hk e => ?_)
    have := (hown.lt k (by simpa [rows] using hk)).1
    simp only [List.mem_singleton] at e
    omega
theorem Tb.lslice (hT : Tb w0 a h D g p x ps L d es A cap stop v l last n told st W) : ∃ A2 c2, v = .slice A2 l.length c2 ∧ IntsIn W A2 l := by
  obtain ⟨A2, c2, e, hi, _⟩ := own_slice hT.row
  exact ⟨A2, c2, e, hi⟩
end
/-- how the numbers hang on the pairs that have come -/
def Pst (es : List Int) (pre : List Nat) (l : List Int) (last n told : Int) (m : Nat) : Prop :=
  n = pre.length ∧ m < es.length ∧ l = es.take m ∧ ((pre = [] ∧ told = -1 ∧ m = 0) ∨ (∃ q, pre = q ++ [m] ∧ told = m ∧ last = es.getD m 0))
theorem Pst.start {es : List Int} (h : 0 < es.length) : Pst es [] [] 0 0 (-1) 0 := ⟨rfl, h, by simp, .inl ⟨rfl, rfl, rfl⟩⟩
/-- what the law asks of the next pair -/
theorem Pst.next {es : List Int} {l : List Int} {last n told : Int} {m i : Nat} (h : Pst es (firsts es i) l last n told m) (hi : isFst es i = true) (hl : i < es.length) :
    told < i ∧ l.length = m ∧ m ≤ i ∧ (i = 0 → n = 0 ∧ m = 0) ∧ (1 ≤ i → 1 ≤ n ∧ last ≠ es.getD i 0 ∧ ∀ j, m ≤ j → j < i → es.getD j 0 = last) := by
  obtain ⟨h1, h2, h3, h4⟩ := h
  have hlen : l.length = m := by rw [h3, List.length_take]; omega
  rcases Nat.eq_zero_or_pos i with rfl | hip
  · rw [firsts_zero] at h1 h4
    rcases h4 with ⟨_, e2, e3⟩ | ⟨q, e, _⟩
    · exact ⟨by omega, hlen, by omega, fun _ => ⟨h1, e3⟩, fun e => by omega⟩
    · simp at e
  · obtain ⟨q, m', e1, e2, e3⟩ := firsts_last es i hip
    rcases h4 with ⟨e, _⟩ | ⟨q2, e, e5, e6⟩
    · rw [e] at e1; simp at e1
    · rw [e1] at e
      obtain ⟨_, e7⟩ := List.append_inj' e (by simp)
      simp at e7
      subst e7
      have hne := fst_ne hi hip
      rw [e3 (i - 1) (by omega) (by omega)] at hne
      refine ⟨by omega, hlen, by omega, fun e => by omega, fun _ => ⟨?_, fun hq => hne (by rw [← hq, e6]), fun j a b => by rw [e6]; exact e3 j a b⟩⟩
      rw [h1, e1]; simp; omega
theorem Pst.fin {es : List Int} {l : List Int} {last n told : Int} {m N : Nat} (h : Pst es (firsts es N) l last n told m) (hN : N = es.length) (h1 : 1 ≤ N) : 1 ≤ n ∧ ∀ j, m ≤ j → j < N → es.getD j 0 = last := by
  obtain ⟨h1, h2, h3, h4⟩ := h
  obtain ⟨q, m', e1, e2, e3⟩ := firsts_last es N (by omega)
  rcases h4 with ⟨e, _⟩ | ⟨q2, e, e5, e6⟩
  · rw [e] at e1; simp at e1
  · rw [e1] at e
    obtain ⟨_, e7⟩ := List.append_inj' e (by simp)
    simp at e7
    subst e7
    exact ⟨by rw [h1, e1]; simp; omega, fun j a b => by rw [e6]; exact e3 j a b⟩
theorem Pst.more {es : List Int} {pre : List Nat} {l : List Int} {last n told : Int} {m : Nat} (h : Pst es pre l last n told m) (hp : pre ≠ []) : 1 ≤ n := by
  rw [h.1]
  have := List.length_pos_iff.2 hp
  omega
theorem firsts_len (es : List Int) (k : Nat) : (firsts es k).length ≤ k := Nat.le_trans (List.length_filter_le _ _) (by simp)
theorem Pst.step {es : List Int} {i : Nat} (hl : i < es.length) : Pst es (firsts es i ++ [i]) (es.take i) (es.getD i 0) (((firsts es i).length : Int) + 1) i i :=
  ⟨by simp, hl, rfl, .inr ⟨_, rfl, rfl, rfl⟩⟩
end Go.Proofs.Ytpbalilnemjeeaa
