/- What is proved here: the contracts of the law's own spare and same. Conditions: a list of ints that lies in memory. -/
import Derived.Test.YtlfppmdehkhjiaaLBox
import Derived.OwnWalk
import Derived.Laws.AppendOwnNone
import Derived.WalkSmall
namespace Go.Proofs.Ytlfppmdehkhjiaa
set_option linter.unusedVariables false
set_option linter.unusedSimpArgs false
open Go.RowKit Pl
/-- a list of ints in memory -/
def IntsAt (w : World) (A : Option Addr) (zs : List Int) : Prop := ∀ i z, zs[i]? = some z → ∃ g o, A = some ⟨g, o, none⟩ ∧ w.cell? ⟨g, o + i, none⟩ = some (.int .i64 z)
theorem IntsAt.below {w w' : World} {A : Option Addr} {zs : List Int} (h : IntsAt w A zs) (hb : Below w.heap.size w w') : IntsAt w' A zs := fun i z hi => by
  obtain ⟨g, o, rfl, hc⟩ := h i z hi
  exact ⟨g, o, rfl, (hb.cell (p := ⟨g, o + i, none⟩) (World.block_lt_of_cell? w _ hc)).trans hc⟩
theorem infoInt : (Try.prog.info? 3).map (fun i => (i.zero, i.size, i.bytes)) = some (some (.int .i64 0), 1, 8) := by kernel_rfl
/-- a list of ints appended to a row of the call's own -/
theorem wpList_append_ints {w : World} {ops : Array Oper} {rest : List Oper} {o : Oper} {a : Act} {Q : Exit → Act → World → Prop} (hgd : o.guard = none) (s x : Operand)
    (ho : o.op = .call { callee := .builtin .append, args := #[s, x], argTypes := #[27, 27] })
    (base : Nat) (v : Value) (n : Nat) (xs : List Value) (hs : a.eval s = v) (hown : w.ownsRow base 3 1 v n xs)
    (A : Option Addr) (m c : Nat) (zs : List Int) (hx : a.eval x = .slice A m c) (hm : zs.length = m) (hz : IntsAt w A zs) (hA : A = none → m = 0 ∧ c = 0)
    (hbytes : (n + m) * 8 ≤ 140737488355328) (hbase : base ≤ w.heap.size)
    (h : ∀ v' w', w'.ownsRow base 3 1 v' (n + m) (xs ++ zs.map (Value.int .i64)) → w.grownBy w' v.ownBlock → wpList Try.prog ops Q rest (a.put o.dst v') w') : wpList Try.prog ops Q (o :: rest) a w := by
  obtain ⟨i0, hi, hz0, hz1, hz2⟩ := info_parts infoInt
  cases A with
  | none =>
    obtain ⟨rfl, rfl⟩ := hA rfl
    have e : zs = [] := List.eq_nil_of_length_eq_zero hm
    subst e
    refine wpList_append_own_none hgd s x _ ho base 3 i0 1 Try.underlying27 hi v n xs hs hown hx ?_
    exact h v w (by simpa using hown) ⟨rfl, rfl, rfl, Nat.le_refl _, fun _ _ _ => rfl⟩
  | some ad =>
    refine wpList_append_own w hgd s x _ ho base 3 i0 (.int .i64 0) 1 8 Try.underlying27 hi hz0 hz1 hz2 rfl (by decide) v n xs hs hown ad m c (zs.map (Value.int .i64)) hx (by simp [hm]) ?_ (ints_oneCell _ _) (by unfold maxLen; omega) hbytes hbase (fun v' w' h1 h2 _ => h v' w' h1 h2)
    intro j u hu
    rw [List.getElem?_map] at hu
    obtain ⟨z, hz', rfl⟩ := Option.map_eq_some_iff.1 hu
    obtain ⟨g, o', he, hc⟩ := hz j z hz'
    obtain rfl := Option.some.inj he
    rw [Addr.add_lit]; exact hc
theorem two_ints (w : World) : IntsAt (w.alloc (.cells #[.int .i64 77, .int .i64 77] 3)) (some ⟨w.heap.size, 0, none⟩) [77, 77] := by
  intro i z hz
  refine ⟨_, _, rfl, ?_⟩
  have := cell_two_new w (.int .i64 77) (.int .i64 77) 3 i (.int .i64 z) (by
    rw [show [Value.int .i64 77, Value.int .i64 77] = [(77 : Int), 77].map (Value.int .i64) by rfl, List.getElem?_map, hz]; rfl)
  rw [Addr.add_lit] at this; exact this
theorem own_some {w : World} {base : Nat} {e : TypeId} {v : Value} {n : Nat} {xs : List Value} (h : w.ownsRow base e 1 v n xs) (hn : 0 < n) :
    ∃ g cap, v = .slice (some ⟨g, 0, none⟩) n cap ∧ base ≤ g ∧ n ≤ cap ∧ ∀ j u, xs[j]? = some u → w.cell? ⟨g, j, none⟩ = some u := by
  have hc := fun g => h.cells (g := g)
  rcases h.2 with ⟨rfl, h0⟩ | ⟨g, cap, cur, rfl, h1, _, h2, _⟩
  · omega
  · refine ⟨g, cap, rfl, h1, h2, fun j u hu => ?_⟩
    have := hc g rfl j u hu
    rw [Addr.add_lit] at this
    simpa using this
set_option maxRecDepth 100000 in
theorem spare_to (A : Option Addr) (c : Nat) (zs : List Int) (n : Nat) (w : World) (hn : zs.length = n) (hz : IntsAt w A zs) (hA : A = none → n = 0 ∧ c = 0) (hl : n ≤ 17592186044414) :
    Calls Try.prog 13 #[.slice A n c] w fun e w' => (∃ g cap, e = .returned (.slice (some ⟨g, 0, none⟩) n cap) ∧ w.heap.size ≤ g ∧ n + 2 ≤ cap ∧ ∀ i z, (zs ++ [77, 77])[i]? = some z → w'.cell? ⟨g, i, none⟩ = some (.int .i64 z)) ∧ Below w.heap.size w w' := by
  go_enter Try.func13, Try.ntmps13
  have hz1 : IntsAt (w.alloc (.cells #[] 3)) A zs := hz.below ((Below.refl _ _).alloc (Nat.le_refl _) _)
  replace hz1 := Lib.hid hz1
  replace hn := Lib.hid hn
  have hown0 := Lib.hid (World.ownsRow_made (base := w.heap.size) (e := 3) (size := 1) w #[] 0 (Nat.le_refl _) (by decide) rfl)
  go_wp2_with (first | ((with_reducible show wpList _ _ _ (⟨some 6, _, _, _, _, _⟩ :: _) _ _); refine wpList_append_ints rfl (.tmp 4) (.tmp 5) rfl w.heap.size _ 0 [] rfl hown0.out A n c zs rfl hn.out hz1.out hA (by omega) (by simp) ?_; intro v1 w1 hown1 hgrow1; replace hown1 := Lib.hid hown1; replace hgrow1 := Lib.hid hgrow1) | ((with_reducible show wpList _ _ _ (⟨some 9, _, _, _, _, _⟩ :: _) _ _); refine wpList_append_ints rfl (.tmp 7) (.tmp 8) rfl w.heap.size _ (0 + n) _ rfl (hown1.out.alloc _) (some ⟨w1.heap.size, 0, none⟩) 2 2 [77, 77] rfl rfl (two_ints w1) (by intro h; cases h) (by omega) (by have := hgrow1.out.size; simp at this ⊢; omega) ?_; intro v2 w2 hown2 hgrow2; replace hown2 := Lib.hid hown2; replace hgrow2 := Lib.hid hgrow2; obtain ⟨g, cap, rfl, hg1, hg2, hg3⟩ := own_some hown2.out (by omega); replace hg3 := Lib.hid hg3))
  have hB1 : Below w.heap.size w w1 := ((Below.refl w.heap.size w).alloc (Nat.le_refl _) _).grown hgrow1.out (by simp) (fun k hk => Nat.le_of_eq (Option.some.inj (show some w.heap.size = some k from hk)))
  have hB2 : Below w.heap.size w w2 := (hB1.alloc hB1.size _).grown hgrow2.out (by have := hB1.size; simp; omega) (fun k hk => (hown1.out.lt k hk).1)
  go_ret
  refine ⟨⟨g, cap, rfl, hg1, by omega, fun i z hi => ?_⟩, hB2⟩
  have := hg3.out i (.int .i64 z) (by
    rw [List.nil_append, ← List.map_append, List.getElem?_map, hi]; rfl)
  exact this
set_option maxRecDepth 100000 in
theorem same_to (g cap : Nat) (A : Option Addr) (c : Nat) (zs : List Int) (n : Nat) (w : World) (hn : zs.length = n) (hz : IntsAt w A zs) (hcap : n + 2 ≤ cap) (hl : n ≤ 17592186044414) (hg : ∀ i z, (zs ++ [77, 77])[i]? = some z → w.cell? ⟨g, i, none⟩ = some (.int .i64 z)) :
    Calls Try.prog 15 #[.slice (some ⟨g, 0, none⟩) n cap, .slice A n c] w fun e w' => e = .returned (.bool true) ∧ ∃ m, w' = w.drewN m := by
  replace hn := Lib.hid hn
  replace hz := Lib.hid hz
  replace hg := Lib.hid hg
  go_enter Try.func15, Try.ntmps15
  go_wp2_with fail
  go_loopw [6] (fun i wr => ∃ j : Nat, j ≤ n ∧ i = .int .i64 j ∧ ∃ m, wr = w.drewN m) (fun i _ => (n - (intOf i).toNat))
  case atStart => exact ⟨0, by omega, rfl, 0, rfl⟩
  case round =>
    obtain ⟨j, hj, rfl, m, rfl⟩ := hrel
    by_cases hlt : j < n
    · obtain ⟨z, hzj⟩ : ∃ z, Hid (zs[j]? = some z) := ⟨_, List.getElem?_eq_getElem (by rw [hn.out]; exact hlt)⟩
      obtain ⟨a, o, rfl, hc⟩ := hz.out j z hzj.out
      have hc2 := hg.out j z (by rw [List.getElem?_append_left (by rw [hn.out]; exact hlt)]; exact hzj.out)
      have hzz : (z != z) = false := by simp
      go_wp2_with fail
      go_quiet (fail)
      go_wp2_with fail
      go_roundw
      case rel => exact ⟨j + 1, by omega, by go_num, _, rfl⟩
      case measure => simp [intOf]; omega
    · obtain rfl : j = n := by omega
      have h0 := hg.out j 77 (by rw [List.getElem?_append_right (by rw [hn.out]; omega), hn.out, Nat.sub_self]; rfl)
      have h1 := hg.out (j + 1) 77 (by rw [List.getElem?_append_right (by rw [hn.out]; omega), hn.out, Nat.add_sub_cancel_left]; rfl)
      go_wp2_with fail
      go_ret
      exact ⟨rfl, _, rfl⟩
theorem IntsAt.five {w : World} {A : Option Addr} {k e ka ea c : Int} (h : IntsAt w A [k, e, ka, ea, c]) : ∃ g o, A = some ⟨g, o, none⟩ ∧ g < w.heap.size ∧ w.cell? ⟨g, o, none⟩ = some (.int .i64 k) ∧ w.cell? ⟨g, o + 1, none⟩ = some (.int .i64 e) ∧ w.cell? ⟨g, o + 2, none⟩ = some (.int .i64 ka) ∧ w.cell? ⟨g, o + 3, none⟩ = some (.int .i64 ea) ∧ w.cell? ⟨g, o + 4, none⟩ = some (.int .i64 c) := by
  obtain ⟨g, o, rfl, h0⟩ := h 0 k rfl
  refine ⟨g, o, rfl, World.block_lt_of_cell? w _ h0, by simpa using h0, ?_, ?_, ?_, ?_⟩
  · obtain ⟨g', o', he, hc⟩ := h 1 e rfl; cases he; exact hc
  · obtain ⟨g', o', he, hc⟩ := h 2 ka rfl; cases he; exact hc
  · obtain ⟨g', o', he, hc⟩ := h 3 ea rfl; cases he; exact hc
  · obtain ⟨g', o', he, hc⟩ := h 4 c rfl; cases he; exact hc
/-- what Parse answers to a list of any length -/
def listLay : List Int → LV
  | [k, e, ka, ea, c] => parsed k e ka ea c
  | _ => LV.zero
def listErr : List Int → Int
  | [k, e, ka, ea, c] => perr k e ka ea c
  | _ => 30
theorem list_short {zs : List Int} (h : zs.length ≠ 5) : listLay zs = LV.zero ∧ listErr zs = 30 := by
  rcases zs with _ | ⟨a, _ | ⟨b, _ | ⟨c, _ | ⟨d, _ | ⟨e, _ | ⟨f, r⟩⟩⟩⟩⟩⟩ <;> first | exact ⟨rfl, rfl⟩ | exact absurd rfl h
theorem list_five {zs : List Int} (h : zs.length = 5) : ∃ k e ka ea c, zs = [k, e, ka, ea, c] := by
  rcases zs with _ | ⟨a, _ | ⟨b, _ | ⟨c, _ | ⟨d, _ | ⟨e, _ | ⟨f, r⟩⟩⟩⟩⟩⟩ <;> simp at h
  exact ⟨a, b, c, d, e, rfl⟩
/-- Parse of a list of any length -/
theorem parse_list (A : Option Addr) (c : Nat) (zs : List Int) (n : Nat) (w : World) (hn : zs.length = n) (hz : IntsAt w A zs) (l : LV) (er : Int) (hl : listLay zs = l) (he : listErr zs = er) :
    Calls Try.prog 14 #[.slice A n c] w fun e' w' => e' = .returned (.tuple #[.agg #[.int .i64 l.k, .int .i64 l.e, .int .i64 l.ka, .int .i64 l.ea, .int .i64 l.c, .int .i64 l.eo, .int .i64 l.bo, .int .i64 l.sl, .int .i64 l.gr], .int .i64 er]) ∧ Below w.heap.size w w' := by
  subst hl; subst he; subst hn
  by_cases h5 : zs.length = 5
  · obtain ⟨k, e, ka, ea, cp, rfl⟩ := list_five h5
    obtain ⟨g, o, rfl, hb, h0, h1, h2, h3, h4⟩ := hz.five
    exact parse_to g o c k e ka ea cp _ _ w rfl rfl hb h0 h1 h2 h3 h4
  · obtain ⟨e1, e2⟩ := list_short h5
    rw [e1, e2]
    exact parse_short A _ c w h5
end Go.Proofs.Ytlfppmdehkhjiaa
