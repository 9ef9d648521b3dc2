/- What is proved here: the contracts of the arena's own tests: is a span inside one live block? No condition. -/
import Derived.Test.YtpbalilnemjeeaaAAlloc
namespace Go.Proofs.Ytpbalilnemjeeaa
set_option linter.unusedVariables false
set_option linter.unusedSimpArgs false
open Go.RowKit Pm Pa Pl
namespace Pa
/-- where part i begins -/
def stOf (ps : Parts) (i : Nat) : Nat := 16 + total (ps.take i)
def zsOf (ps : Parts) : List Int := (starts ps).map fun (x : Nat) => (x : Int)
theorem zs_len (ps : Parts) : (zsOf ps).length = ps.length := by simp [zsOf, starts, startsFrom_len]
theorem zs_get (ps : Parts) (i : Nat) (h : i < ps.length) : (zsOf ps)[i]? = some ((stOf ps i : Nat) : Int) := by simp [zsOf, starts_get ps i h, stOf]
theorem zs_getD (ps : Parts) (i : Nat) (h : i < ps.length) : (zsOf ps).getD i 0 = ((stOf ps i : Nat) : Int) := by rw [List.getD_eq_getElem?_getD, zs_get ps i h]; rfl
theorem st_succ (ps : Parts) (i : Nat) (a : Nat × Bool) (h : ps[i]? = some a) : stOf ps (i + 1) = stOf ps i + a.1 := by unfold stOf; rw [total_take_succ ps i a h]; omega
theorem st_lt (ps : Parts) (hp : ∀ a ∈ ps, 16 ≤ a.1) (i j : Nat) (h : i < j) (hj : j ≤ ps.length) : stOf ps i < stOf ps j := by
  induction j with
  | zero => omega
  | succ j ih =>
    obtain ⟨a, ha⟩ : ∃ a, ps[j]? = some a := ⟨_, List.getElem?_eq_getElem (by omega)⟩
    have h1 := st_succ ps j a ha
    have h2 := hp a (List.mem_of_getElem? ha)
    by_cases e : i = j
    · subst e; omega
    · have := ih (by omega) (by omega); omega
theorem st_le (ps : Parts) (hp : ∀ a ∈ ps, 16 ≤ a.1) (i j : Nat) (h : i ≤ j) (hj : j ≤ ps.length) : stOf ps i ≤ stOf ps j := by
  by_cases e : i = j
  · subst e; omega
  · have := st_lt ps hp i j (by omega) hj; omega
theorem st_end (ps : Parts) : stOf ps ps.length = endOf ps := by unfold stOf endOf; rw [List.take_length]
theorem zs_mem (ps : Parts) (v : Int) (h : v ∈ zsOf ps) : ∃ i, i < ps.length ∧ v = ((stOf ps i : Nat) : Int) := by
  obtain ⟨i, hi, rfl⟩ := List.getElem_of_mem h
  rw [zs_len] at hi
  refine ⟨i, hi, ?_⟩
  have := zs_get ps i hi
  rw [List.getElem?_eq_getElem (by rw [zs_len]; exact hi)] at this
  exact Option.some.inj this
theorem zs_sorted (ps : Parts) (hp : ∀ a ∈ ps, 16 ≤ a.1) : (zsOf ps).Pairwise (· ≤ ·) := by
  rw [List.pairwise_iff_getElem]
  intro i j hi hj hij
  rw [zs_len] at hi hj
  have h1 := zs_get ps i hi
  have h2 := zs_get ps j hj
  rw [List.getElem?_eq_getElem (by rw [zs_len]; assumption)] at h1 h2
  rw [Option.some.inj h1, Option.some.inj h2]
  have := st_lt ps hp i j hij (by omega)
  omega
/-- how many starts lie ahead of off -/
theorem zs_count (ps : Parts) (hp : ∀ a ∈ ps, 16 ≤ a.1) (off : Int) (k : Nat) (hk : k ≤ ps.length) (h1 : ∀ i, i < k → ((stOf ps i : Nat) : Int) < off) (h2 : ∀ i, k ≤ i → i < ps.length → off ≤ ((stOf ps i : Nat) : Int)) : (zsOf ps).countP (· < off) = k := by
  have hl : ((zsOf ps).take k).length = k := by rw [List.length_take, zs_len]; omega
  have e1 : ((zsOf ps).take k).countP (· < off) = k := by
    have : ((zsOf ps).take k).countP (· < off) = ((zsOf ps).take k).length := by
      rw [List.countP_eq_length]
      intro v hv
      obtain ⟨i, hi, rfl⟩ := List.getElem_of_mem hv
      rw [hl] at hi
      have h3 : ((zsOf ps).take k)[i]? = some ((stOf ps i : Nat) : Int) := by rw [List.getElem?_take, if_pos hi]; exact zs_get ps i (by omega)
      rw [List.getElem?_eq_getElem (by rw [hl]; exact hi)] at h3
      rw [Option.some.inj h3]
      exact decide_eq_true (h1 i hi)
    rw [this, hl]
  have e2 : ((zsOf ps).drop k).countP (· < off) = 0 := by
    rw [List.countP_eq_zero]
    intro v hv
    obtain ⟨i, hi, rfl⟩ := List.getElem_of_mem hv
    rw [List.length_drop, zs_len] at hi
    have h3 : ((zsOf ps).drop k)[i]? = some ((stOf ps (k + i) : Nat) : Int) := by rw [List.getElem?_drop]; exact zs_get ps (k + i) (by omega)
    rw [List.getElem?_eq_getElem (by rw [List.length_drop, zs_len]; exact hi)] at h3
    rw [Option.some.inj h3]
    have := h2 (k + i) (by omega) (by omega)
    simp; omega
  rw [← List.take_append_drop k (zsOf ps), List.countP_append, e1, e2, Nat.add_zero]
theorem zs_has (ps : Parts) (k : Nat) (hk : k < ps.length) : (zsOf ps).contains ((stOf ps k : Nat) : Int) = true := by
  rw [List.contains_iff_mem]
  exact List.mem_of_getElem? (zs_get ps k hk)
theorem zs_hasnt (ps : Parts) (off : Int) (h : ∀ i, i < ps.length → off ≠ ((stOf ps i : Nat) : Int)) : (zsOf ps).contains off = false := by
  rw [Bool.eq_false_iff]
  intro hc
  rw [List.contains_iff_mem] at hc
  obtain ⟨i, hi, e⟩ := zs_mem ps off hc
  exact h i hi e
end Pa
section
variable {w : World} {p : Nat} {x : Loc} {lim : Nat} {ps : Parts} {L : List UInt8}
theorem ArAt.row1 (h : ArAt w p x lim ps L) (hn : 0 < ps.length) : ∃ g cap, x.v1 = .slice (some ⟨g, 0, none⟩) ps.length cap ∧ ∀ (i : Nat), i < ps.length → w.cell? ⟨g, i, none⟩ = some (.int .i64 ((stOf ps i : Nat) : Int)) := by
  have hs := h.st
  obtain ⟨k, hk⟩ : ∃ k, ps.length = k + 1 := ⟨ps.length - 1, by omega⟩
  rw [hk] at hs
  obtain ⟨g, cap, e⟩ := ownsRow_succ hs
  refine ⟨g, cap, by rw [hk]; exact e, fun i hi => ?_⟩
  rw [e] at hs
  rw [hs.cellAt i (by omega)]
  simp [ints, starts_get ps i hi, stOf]
theorem holds_no (i off n : Int) (hi : i < 0) (w : World) (p : Nat) : Calls Try.prog 103 #[.pointer (some ⟨p, 0, none⟩), .int .i64 i, .int .i64 off, .int .i64 n] w fun e w' => e = .returned (.bool false) ∧ ∃ m, w' = w.drewN m := by
  go_enter Try.func103, Try.ntmps103
  go_wp2_with fail
  go_ret
  exact ⟨rfl, 0, rfl⟩
set_option maxHeartbeats 1000000 in
theorem holds_in (h : ArAt w p x lim ps L) (i c : Nat) (l : Bool) (hi : ps[i]? = some (c, l)) (off n I : Int) (ho : 16 ≤ off ∧ off ≤ 134217728) (r : Bool) (hr : (l && decide (n ≤ ((stOf ps i : Nat) : Int) + c - off)) = r) (hI : I = i) :
    Calls Try.prog 103 #[.pointer (some ⟨p, 0, none⟩), .int .i64 I, .int .i64 off, .int .i64 n] w fun e w' => e = .returned (.bool r) ∧ ∃ m, w' = w.drewN m := by
  subst hI
  have hil : i < ps.length := (List.getElem?_eq_some_iff.1 hi).1
  obtain ⟨g, cap, hv1, hcell⟩ := h.row1 (by omega)
  obtain ⟨c0, c1, c2, c3, c4, c5, c6⟩ := h.cells
  have hci := hcell i hil
  have hsz := sizeFrom_at 16 ps (fun a ha => by have := (h.pos a ha).1; omega) i c l hi
  have hend := h.endle
  have hcp := h.pos _ (List.mem_of_getElem? hi)
  have hst : stOf ps i + c ≤ endOf ps := by
    have h1 := st_succ ps i _ hi
    have h2 := st_le ps (fun a ha => (h.pos a ha).1) (i + 1) ps.length (by omega) (Nat.le_refl _)
    rw [st_end] at h2
    simp at h1
    omega
  have hwf : (Lit.int .i64 ((stOf ps i : Nat) : Int)).wf = true := WalkArith.wf_i64 (by omega)
  have hlk : ∀ m, (Instr.lookup 125 (.map (some x.bs)) (.int .i64 ((stOf ps i : Nat) : Int)) true).run Try.prog (w.drewN m) = .ok (.tuple #[(szF ps ((stOf ps i : Nat) : Int)).getD (.int .i64 0), .bool (szF ps ((stOf ps i : Nat) : Int)).isSome]) (w.drewN m) :=
    fun m => SM.look_ok (h.sz.drewN m) hwf
  have hsz' : szF ps ((stOf ps i : Nat) : Int) = if l = true then some (.int .i64 (c : Int)) else none := by
    unfold szF stOf
    rw [hsz]
    cases l <;> rfl
  rw [hsz'] at hlk
  rw [hv1] at c3
  have i0 : (0 : Int) ≤ i := by omega
  have i1 : (i : Int) < ps.length := by omega
  obtain ⟨S, hS⟩ : ∃ S, Hid (S = stOf ps i) := ⟨_, rfl⟩
  rw [← hS.out] at hlk hci hst hwf hr
  clear h hcell hsz hsz' hv1 hi hS
  cases l with
  | false =>
    simp only [Bool.false_and, Bool.false_eq_true, if_false, Option.getD_none, Option.isSome_none] at hr hlk
    subst hr
    go_enter Try.func103, Try.ntmps103
    go_upto_region 3 with (fail)
    go_quiet (fail)
    go_wp2_with fail
    go_ret
    exact ⟨rfl, _, rfl⟩
  | true =>
    simp only [Bool.true_and, if_true, Option.getD_some, Option.isSome_some] at hr hlk
    have hr2 : decide (n ≤ (S : Int) + (c : Int) - off) = r := hr
    go_enter Try.func103, Try.ntmps103
    go_upto_region 3 with (fail)
    go_quiet (fail)
    go_wp2_with fail
    go_ret
    exact ⟨rfl, _, rfl⟩
theorem search_ps (h : ArAt w p x lim ps L) (hn : 0 < ps.length) (off : Int) (k : Nat) (ex : Bool) (hk : (zsOf ps).countP (· < off) = k) (hex : (zsOf ps).contains off = ex) :
    Calls Try.prog 76 #[x.v1, .int .i64 off] w fun e w' => e = .returned (.tuple #[.int .i64 (k : Int), .bool ex]) ∧ ∃ q, w' = w.drewN q := by
  obtain ⟨g, cap, hv1, hcell⟩ := h.row1 hn
  have hlen := h.len
  rw [hv1]
  have h1 := search_any g 0 ps.length cap (zsOf ps) off w (by rw [zs_len]; exact Nat.le_refl _) (by omega) (fun j hj => by rw [zs_len] at hj; rw [Nat.zero_add, zs_getD ps j hj]; exact hcell j hj)
    (by rw [← zs_len ps, List.take_length]; exact zs_sorted ps (fun a ha => (h.pos a ha).1))
  have e : (zsOf ps).take ps.length = zsOf ps := by rw [← zs_len ps, List.take_length]
  rw [e, hk, hex] at h1
  exact h1
theorem good_out (h : ArAt w p x lim ps L) (off n : Int) (ho : n < 0 ∨ off < 16 ∨ (endOf ps : Int) < off) : Calls Try.prog 66 #[.pointer (some ⟨p, 0, none⟩), .int .i64 off, .int .i64 n] w fun e w' => e = .returned (.bool false) ∧ ∃ m, w' = w.drewN m := by
  by_cases g1 : n < 0
  · go_enter Try.func66, Try.ntmps66
    go_wp2_with fail
    go_ret
    exact ⟨rfl, 0, rfl⟩
  · by_cases g2 : off < 16
    · go_enter Try.func66, Try.ntmps66
      go_wp2_with fail
      go_ret
      exact ⟨rfl, 0, rfl⟩
    · have g3 : (endOf ps : Int) < off := by omega
      have hA := Lib.hid h
      clear h
      go_enter Try.func66, Try.ntmps66
      go_wp2_with (first | (go_at_call 33; refine (ar_end hA.out).mono ?_; rintro e w' ⟨rfl, rfl⟩) | fail)
      go_ret
      exact ⟨rfl, 0, rfl⟩
/-- is the part ahead of part k live? -/
def prevLive (ps : Parts) : Nat → Bool
  | 0 => false
  | k + 1 => ((ps[k]?).map (·.2)).getD false
set_option maxHeartbeats 2000000 in
theorem good_mid (h : ArAt w p x lim ps L) (k c : Nat) (l : Bool) (hk : ps[k]? = some (c, l)) (off n : Int) (h1 : ((stOf ps k : Nat) : Int) < off) (h2 : off ≤ ((stOf ps k : Nat) : Int) + c) (h3 : off < ((stOf ps k : Nat) : Int) + c ∨ k + 1 = ps.length) (hn : 0 ≤ n) (r : Bool)
    (hr : (l && decide (n ≤ ((stOf ps k : Nat) : Int) + c - off)) = r) : Calls Try.prog 66 #[.pointer (some ⟨p, 0, none⟩), .int .i64 off, .int .i64 n] w fun e w' => e = .returned (.bool r) ∧ ∃ m, w' = w.drewN m := by
  have hkl : k < ps.length := (List.getElem?_eq_some_iff.1 hk).1
  have hp : ∀ a ∈ ps, 16 ≤ a.1 := fun a ha => (h.pos a ha).1
  have hsk := st_succ ps k _ hk
  simp only [] at hsk
  have hse := st_le ps hp (k + 1) ps.length (by omega) (Nat.le_refl _)
  rw [st_end] at hse
  have hend := h.endle
  have hst16 : 16 ≤ stOf ps k := by unfold stOf; omega
  have hcnt : (zsOf ps).countP (· < off) = k + 1 := zs_count ps hp off (k + 1) (by omega) (fun i hi => by have := st_le ps hp i k (by omega) (by omega); omega)
    (fun i hi hl => by
      have := st_le ps hp (k + 1) i hi (by omega)
      rcases h3 with h3 | h3
      · omega
      · omega)
  have hcon : (zsOf ps).contains off = false := zs_hasnt ps off (fun i hi e => by
    by_cases hik : i ≤ k
    · have := st_le ps hp i k hik (by omega); omega
    · have := st_le ps hp (k + 1) i (by omega) (by omega)
      rcases h3 with h3 | h3 <;> omega)
  have g1 : ¬ n < 0 := by omega
  have g2 : ¬ off < 16 := by omega
  have g3 : ¬ (endOf ps : Int) < off := by omega
  obtain ⟨c0, c1, c2, c3, c4, c5, c6⟩ := h.cells
  have hA := Lib.hid h
  have hlen := h.len
  replace hcnt := Lib.hid hcnt
  replace hcon := Lib.hid hcon
  replace hr := Lib.hid hr
  replace hk := Lib.hid hk
  replace hp := Lib.hid hp
  clear h h1 h2 h3 hsk hse
  go_enter Try.func66, Try.ntmps66
  cases r with
  | true =>
    go_wp2_with (first
      | (go_at_call 33; refine (ar_end hA.out).mono ?_; rintro e w' ⟨rfl, rfl⟩)
      | (go_at_call 76; refine (search_ps hA.out (by omega) off (k + 1) false hcnt.out hcon.out).mono ?_; rintro e w' ⟨rfl, q, rfl⟩)
      | (go_at_call 103; refine (holds_in (hA.out.drewN _) k c l hk.out off n _ (by omega) _ hr.out (by omega)).mono ?_; rintro e w' ⟨rfl, m, rfl⟩)
      | fail)
    go_ret
    exact ⟨rfl, _, rfl⟩
  | false =>
    by_cases hn0 : n = 0
    · subst hn0
      go_wp2_with (first
        | (go_at_call 33; refine (ar_end hA.out).mono ?_; rintro e w' ⟨rfl, rfl⟩)
        | (go_at_call 76; refine (search_ps hA.out (by omega) off (k + 1) false hcnt.out hcon.out).mono ?_; rintro e w' ⟨rfl, q, rfl⟩)
        | (go_at_call 103; refine (holds_in (hA.out.drewN _) k c l hk.out off 0 _ (by omega) _ hr.out (by omega)).mono ?_; rintro e w' ⟨rfl, m, rfl⟩)
        | fail)
      go_ret
      exact ⟨rfl, _, rfl⟩
    · go_wp2_with (first
        | (go_at_call 33; refine (ar_end hA.out).mono ?_; rintro e w' ⟨rfl, rfl⟩)
        | (go_at_call 76; refine (search_ps hA.out (by omega) off (k + 1) false hcnt.out hcon.out).mono ?_; rintro e w' ⟨rfl, q, rfl⟩)
        | (go_at_call 103; refine (holds_in (hA.out.drewN _) k c l hk.out off n _ (by omega) _ hr.out (by omega)).mono ?_; rintro e w' ⟨rfl, m, rfl⟩)
        | fail)
      go_ret
      exact ⟨rfl, _, rfl⟩
set_option maxHeartbeats 2000000 in
theorem good_at (h : ArAt w p x lim ps L) (k c : Nat) (l : Bool) (hk : ps[k]? = some (c, l)) (off n : Int) (h1 : off = ((stOf ps k : Nat) : Int)) (hn : 0 ≤ n) (r : Bool)
    (hr : ((l && decide (n ≤ (c : Int))) || (decide (n = 0) && prevLive ps k)) = r) : Calls Try.prog 66 #[.pointer (some ⟨p, 0, none⟩), .int .i64 off, .int .i64 n] w fun e w' => e = .returned (.bool r) ∧ ∃ m, w' = w.drewN m := by
  subst h1
  have hkl : k < ps.length := (List.getElem?_eq_some_iff.1 hk).1
  have hp : ∀ a ∈ ps, 16 ≤ a.1 := fun a ha => (h.pos a ha).1
  have hse := st_le ps hp k ps.length (by omega) (Nat.le_refl _)
  rw [st_end] at hse
  have hend := h.endle
  have hst16 : 16 ≤ stOf ps k := by unfold stOf; omega
  have hcnt : (zsOf ps).countP (· < ((stOf ps k : Nat) : Int)) = k := zs_count ps hp _ k (by omega) (fun i hi => by have := st_lt ps hp i k hi (by omega); omega) (fun i hi hl => by have := st_le ps hp k i hi (by omega); omega)
  have hcon := zs_has ps k hkl
  obtain ⟨b1, hr1⟩ : ∃ b, (l && decide (n ≤ ((stOf ps k : Nat) : Int) + c - ((stOf ps k : Nat) : Int))) = b := ⟨_, rfl⟩
  have hb1 : (l && decide (n ≤ (c : Int))) = b1 := by
    rw [← hr1]
    congr 2
    apply propext
    omega
  rw [hb1] at hr
  have g1 : ¬ n < 0 := by omega
  have g2 : ¬ ((stOf ps k : Nat) : Int) < 16 := by omega
  have g3 : ¬ (endOf ps : Int) < ((stOf ps k : Nat) : Int) := by omega
  obtain ⟨c0, c1, c2, c3, c4, c5, c6⟩ := h.cells
  have hA := Lib.hid h
  have hlen := h.len
  have hprev : ∀ j c' l', k = j + 1 → ps[j]? = some (c', l') → stOf ps k = stOf ps j + c' := fun j c' l' e hj => by rw [e]; exact st_succ ps j _ hj
  obtain ⟨S, hS⟩ : ∃ S, Hid (S = stOf ps k) := ⟨_, rfl⟩
  replace hr1 : (l && decide (n ≤ ((stOf ps k : Nat) : Int) + c - (S : Int))) = b1 := by rw [hS.out]; exact hr1
  rw [← hS.out] at hcnt hcon g2 g3 hse hst16 hprev ⊢
  replace hcnt := Lib.hid hcnt
  replace hcon := Lib.hid hcon
  replace hr1 := Lib.hid hr1
  replace hk := Lib.hid hk
  replace hp := Lib.hid hp
  replace hprev := Lib.hid hprev
  clear h hb1
  have tok1 : True := trivial
  cases b1 with
  | true =>
    simp only [Bool.true_or] at hr
    subst hr
    go_enter Try.func66, Try.ntmps66
    go_wp2_with (first
      | (go_at_call 33; refine (ar_end hA.out).mono ?_; rintro e w' ⟨rfl, rfl⟩)
      | (go_at_call 76; refine (search_ps hA.out (by omega) _ _ true hcnt.out hcon.out).mono ?_; rintro e w' ⟨rfl, q, rfl⟩)
      | (go_at_call 103; have _t := tok1; refine (holds_in (hA.out.drewN _) _ c l hk.out _ n _ (by omega) _ hr1.out (by first | rfl | omega)).mono ?_; rintro e w' ⟨rfl, m, rfl⟩; clear tok1)
      | fail)
    go_ret
    exact ⟨rfl, _, rfl⟩
  | false =>
    simp only [Bool.false_or] at hr
    by_cases hn0 : n = 0
    · subst hn0
      simp only [decide_true, Bool.true_and] at hr
      cases k with
      | zero =>
        simp only [prevLive] at hr
        subst hr
        go_enter Try.func66, Try.ntmps66
        go_wp2_with (first
          | (go_at_call 33; refine (ar_end hA.out).mono ?_; rintro e w' ⟨rfl, rfl⟩)
          | (go_at_call 76; refine (search_ps hA.out (by omega) _ _ true hcnt.out hcon.out).mono ?_; rintro e w' ⟨rfl, q, rfl⟩)
          | (go_at_call 103; have _t := tok1; refine (holds_in (hA.out.drewN _) _ c l hk.out _ 0 _ (by omega) _ hr1.out (by first | rfl | omega)).mono ?_; rintro e w' ⟨rfl, m, rfl⟩; clear tok1)
          | (go_at_call 103; refine (holds_no _ _ _ (by omega) _ _).mono ?_; rintro e w' ⟨rfl, m2, rfl⟩)
          | fail)
        go_ret
        exact ⟨rfl, _, rfl⟩
      | succ j =>
        obtain ⟨⟨c', l'⟩, hj⟩ : ∃ a, Hid (ps[j]? = some a) := ⟨_, List.getElem?_eq_getElem (by omega)⟩
        have hl' : l' = r := by rw [← hr]; simp [prevLive, hj.out]
        have hSj := hprev.out j c' l' rfl hj.out
        have hr2 : Hid ((l' && decide ((0 : Int) ≤ ((stOf ps j : Nat) : Int) + c' - (S : Int))) = r) := by
          unfold Hid
          rw [hl', decide_eq_true (by omega), Bool.and_true]
        clear hr hSj hl'
        go_enter Try.func66, Try.ntmps66
        go_wp2_with (first
          | (go_at_call 33; refine (ar_end hA.out).mono ?_; rintro e w' ⟨rfl, rfl⟩)
          | (go_at_call 76; refine (search_ps hA.out (by omega) _ _ true hcnt.out hcon.out).mono ?_; rintro e w' ⟨rfl, q, rfl⟩)
          | (go_at_call 103; have _t := tok1; refine (holds_in (hA.out.drewN _) _ c l hk.out _ 0 _ (by omega) _ hr1.out (by first | rfl | omega)).mono ?_; rintro e w' ⟨rfl, m, rfl⟩; clear tok1)
          | (go_at_call 103; refine (holds_in (hA.out.drewN _) j c' l' hj.out _ 0 _ (by omega) _ hr2.out (by omega)).mono ?_; rintro e w' ⟨rfl, m2, rfl⟩)
          | fail)
        go_ret
        exact ⟨rfl, _, rfl⟩
    · have hd0 : decide (n = 0) = false := decide_eq_false hn0
      rw [hd0, Bool.false_and] at hr
      subst hr
      go_enter Try.func66, Try.ntmps66
      go_wp2_with (first
        | (go_at_call 33; refine (ar_end hA.out).mono ?_; rintro e w' ⟨rfl, rfl⟩)
        | (go_at_call 76; refine (search_ps hA.out (by omega) _ _ true hcnt.out hcon.out).mono ?_; rintro e w' ⟨rfl, q, rfl⟩)
        | (go_at_call 103; have _t := tok1; refine (holds_in (hA.out.drewN _) _ c l hk.out _ n _ (by omega) _ hr1.out (by first | rfl | omega)).mono ?_; rintro e w' ⟨rfl, m, rfl⟩; clear tok1)
        | fail)
      go_ret
      exact ⟨rfl, _, rfl⟩
end
end Go.Proofs.Ytpbalilnemjeeaa
