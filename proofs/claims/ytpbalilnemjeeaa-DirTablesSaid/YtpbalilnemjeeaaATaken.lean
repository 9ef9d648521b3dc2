/- What is proved here: what a take makes of the parts and of the bytes; why the room is always enough; the contract of the arena's take. No condition. -/
import Derived.Test.YtpbalilnemjeeaaATakeOld
import Derived.Test.YtpbalilnemjeeaaAAlloc
namespace Go.Proofs.Ytpbalilnemjeeaa
set_option linter.unusedVariables false
set_option linter.unusedSimpArgs false
open Go.RowKit Pm Pa Pl
namespace Pa
/-- the parts behind a take of class c -/
def takeP : Parts → Nat → Parts
  | [], c => [(c, true)]
  | (d, l) :: t, c => if l = false ∧ d = c then (c, true) :: t else (d, l) :: takeP t c
/-- the offset that a take of class c answers -/
def takeAt (ps : Parts) (c : Nat) : Nat := (deadFrom 16 ps (c : Int)).headD (endOf ps)
/-- the bytes behind a take of class c -/
def takeB (M : List UInt8) (ps : Parts) (c : Nat) : List UInt8 :=
  match deadFrom 16 ps (c : Int) with
  | [] => M ++ List.replicate c 0
  | o :: _ => splice M o (List.replicate c 0)
theorem takeP_new (o : Nat) (ps : Parts) (c : Nat) (h : deadFrom o ps (c : Int) = []) : takeP ps c = ps ++ [(c, true)] := by
  induction ps generalizing o with
  | nil => rfl
  | cons y t ih =>
    obtain ⟨d, l⟩ := y
    unfold deadFrom at h
    by_cases hc : l = false ∧ (d : Int) = c
    · rw [if_pos hc] at h; cases h
    · rw [if_neg hc] at h
      unfold takeP
      rw [if_neg (fun e => hc ⟨e.1, by rw [e.2]⟩), ih _ h]; rfl
theorem takeP_old (o : Nat) (a b : Parts) (c : Nat) (h : deadFrom o a (c : Int) = []) : takeP (a ++ (c, false) :: b) c = a ++ (c, true) :: b := by
  induction a generalizing o with
  | nil => simp [takeP]
  | cons y t ih =>
    obtain ⟨d, l⟩ := y
    unfold deadFrom at h
    by_cases hc : l = false ∧ (d : Int) = c
    · rw [if_pos hc] at h; cases h
    · rw [if_neg hc] at h
      rw [List.cons_append]
      unfold takeP
      rw [if_neg (fun e => hc ⟨e.1, by rw [e.2]⟩), ih _ h]; rfl
theorem take_case (ps : Parts) (c : Nat) : (deadFrom 16 ps (c : Int) = [] ∧ takeP ps c = ps ++ [(c, true)] ∧ takeAt ps c = endOf ps ∧ ∀ M, takeB M ps c = M ++ List.replicate c 0) ∨
    ∃ a b, ps = a ++ (c, false) :: b ∧ deadFrom 16 a (c : Int) = [] ∧ takeP ps c = a ++ (c, true) :: b ∧ takeAt ps c = endOf a ∧ ∀ M, takeB M ps c = splice M (endOf a) (List.replicate c 0) := by
  cases h : deadFrom 16 ps (c : Int) with
  | nil => exact .inl ⟨rfl, takeP_new 16 ps c h, by unfold takeAt; rw [h]; rfl, fun M => by unfold takeB; rw [h]⟩
  | cons o r =>
    obtain ⟨a, c', b, rfl, e, h1, h2, h3⟩ := dead_split 16 ps c o r h
    have e2 : c' = c := by omega
    subst e2
    exact .inr ⟨a, b, rfl, h1, takeP_old 16 a b _ h1, by unfold takeAt; rw [h]; exact h2, fun M => by unfold takeB; rw [h, h2]; rfl⟩
theorem live_takeP (ps : Parts) (c : Nat) : liveSum (takeP ps c) = liveSum ps + c := by
  rcases take_case ps c with ⟨_, h, _⟩ | ⟨a, b, rfl, _, h, _⟩
  · rw [h, liveSum_app]
  · rw [h, liveSum_flip]
def classes : List Nat := (List.range 17).map (fun j => 16 * 2 ^ j) ++ (List.range 17).map (fun j => 48 * 2 ^ j)
theorem classes_len : classes.length = 34 := by decide
theorem clsN_class {n : Int} (h : 1 ≤ n ∧ n ≤ 1048576) : clsN n ∈ classes := by
  obtain ⟨c, b, o, j, H⟩ := cls_at h.1 h.2
  have h1 : clsN n = c.toNat := by unfold clsN; rw [H.cls]
  have hp : ((2 : Int) ^ j) = ((2 ^ j : Nat) : Int) := by norm_cast
  have hm := H.mul
  rw [hp] at hm
  unfold classes
  rw [h1]
  rcases H.odd with e | e
  · subst e
    exact List.mem_append_left _ (List.mem_map.2 ⟨j, List.mem_range.2 (by have := H.jle; omega), by omega⟩)
  · subst e
    exact List.mem_append_right _ (List.mem_map.2 ⟨j, List.mem_range.2 (by have := H.jle; omega), by omega⟩)
def clsSum (ps : Parts) (c : Nat) : Nat := total (ps.filter fun a => a.1 == c)
theorem clsSum_cons (y : Nat × Bool) (t : Parts) (c : Nat) : clsSum (y :: t) c = (if y.1 = c then y.1 else 0) + clsSum t c := by
  unfold clsSum
  by_cases e : y.1 = c
  · rw [List.filter_cons_of_pos (by simpa using e), total_cons, if_pos e]
  · rw [List.filter_cons_of_neg (by simpa using e), if_neg e, Nat.zero_add]
theorem clsSum_app (a b : Parts) (c : Nat) : clsSum (a ++ b) c = clsSum a c + clsSum b c := by
  unfold clsSum
  rw [List.filter_append, total_app]
theorem clsSum_live (o : Nat) (ps : Parts) (c : Nat) (h : deadFrom o ps (c : Int) = []) : clsSum ps c ≤ liveSum ps := by
  induction ps generalizing o with
  | nil => exact Nat.le_refl _
  | cons y t ih =>
    obtain ⟨d, l⟩ := y
    unfold deadFrom at h
    by_cases hc : l = false ∧ (d : Int) = c
    · rw [if_pos hc] at h; cases h
    · rw [if_neg hc] at h
      have := ih _ h
      rw [clsSum_cons]
      unfold liveSum
      simp only []
      by_cases e : d = c
      · rw [if_pos e, if_pos (by cases l with | true => rfl | false => exact absurd ⟨rfl, by rw [e]⟩ hc)]; omega
      · rw [if_neg e]; omega
theorem sum_ind (K : List Nat) (d : Nat) (h : d ∈ K) (g : Nat → Nat) : d + (K.map g).sum ≤ (K.map fun c => (if d = c then d else 0) + g c).sum := by
  induction K with
  | nil => cases h
  | cons k t ih =>
    simp only [List.map_cons, List.sum_cons]
    have hmono : ∀ t : List Nat, (t.map g).sum ≤ (t.map fun c => (if d = c then d else 0) + g c).sum := by
      intro t
      induction t with
      | nil => simp
      | cons k t ih => simp only [List.map_cons, List.sum_cons]; omega
    have h1 := hmono t
    by_cases e : d = k
    · rw [if_pos e]; omega
    · rcases List.mem_cons.1 h with h | h
      · exact absurd h e
      · have := ih h
        rw [if_neg e]; omega
theorem total_cls (ps : Parts) (K : List Nat) (h : ∀ a ∈ ps, a.1 ∈ K) : total ps ≤ (K.map (clsSum ps)).sum := by
  induction ps with
  | nil => exact Nat.zero_le _
  | cons y t ih =>
    have h1 := ih (fun a ha => h a (by simp [ha]))
    have h2 := sum_ind K y.1 (h y (by simp)) (clsSum t)
    have e : (K.map (clsSum (y :: t))) = K.map fun c => (if y.1 = c then y.1 else 0) + clsSum t c := List.map_congr_left fun c _ => clsSum_cons y t c
    rw [total_cons, e]
    omega
theorem sum_le (K : List Nat) (g : Nat → Nat) (m : Nat) (h : ∀ c, g c ≤ m) : (K.map g).sum ≤ K.length * m := by
  induction K with
  | nil => simp
  | cons k t ih =>
    simp only [List.map_cons, List.sum_cons, List.length_cons, Nat.add_mul, Nat.one_mul]
    have := h k
    omega
/-- no class has more bytes than the limit -/
structure Held (lim : Nat) (ps : Parts) : Prop where
  cl : ∀ a ∈ ps, a.1 ∈ classes
  sum : ∀ c, clsSum ps c ≤ lim
theorem Held.nil (lim : Nat) : Held lim [] := ⟨(fun a ha => by cases ha), fun c => Nat.zero_le _⟩
theorem Held.bound {lim : Nat} {ps : Parts} (h : Held lim ps) (hl : lim ≤ 2097152) : endOf ps ≤ 134217728 := by
  have h1 := total_cls ps classes h.cl
  have h2 := sum_le classes (clsSum ps) lim h.sum
  rw [classes_len] at h2
  unfold endOf
  omega
theorem Held.flip {lim : Nat} {a b : Parts} {c : Nat} {l : Bool} (l' : Bool) (h : Held lim (a ++ (c, l) :: b)) : Held lim (a ++ (c, l') :: b) := by
  refine ⟨fun y hy => ?_, fun d => ?_⟩
  · rcases List.mem_append.1 hy with hy | hy
    · exact h.cl y (by simp [hy])
    · rcases List.mem_cons.1 hy with rfl | hy
      · exact h.cl (c, l) (by simp)
      · exact h.cl y (by simp [hy])
  · have := h.sum d
    rw [clsSum_app, clsSum_cons] at this ⊢
    exact this
theorem Held.take {lim : Nat} {ps : Parts} (h : Held lim ps) (c : Nat) (hc : c ∈ classes) (hl : liveSum ps + c ≤ lim) : Held lim (takeP ps c) := by
  rcases take_case ps c with ⟨hd, e, _⟩ | ⟨a, b, rfl, _, e, _⟩
  · rw [e]
    refine ⟨fun y hy => ?_, fun d => ?_⟩
    · rcases List.mem_append.1 hy with hy | hy
      · exact h.cl y hy
      · simp only [List.mem_singleton] at hy; subst hy; exact hc
    · rw [clsSum_app, clsSum_cons]
      have h0 : clsSum ([] : Parts) d = 0 := rfl
      simp only []
      rw [h0]
      by_cases e2 : c = d
      · subst e2
        have := clsSum_live 16 ps c hd
        rw [if_pos rfl]; omega
      · have := h.sum d
        rw [if_neg e2]; omega
  · rw [e]; exact h.flip true
theorem class_bounds : ∀ c ∈ classes, 16 ≤ c := by decide
theorem splice_take (L : List UInt8) (e o : Nat) (cs : List UInt8) (h : o + cs.length ≤ e) (hL : e ≤ L.length) : (splice L o cs).take e = splice (L.take e) o cs := by
  apply List.ext_getElem?
  intro i
  have hl : (L.take e).length = e := by rw [List.length_take]; omega
  rw [List.getElem?_take]
  by_cases hi : i < e
  · rw [if_pos hi]
    by_cases hin : o ≤ i ∧ i < o + cs.length
    · rw [splice_in _ _ _ (by omega) _ hin.1 hin.2, splice_in _ _ _ (by rw [hl]; exact h) _ hin.1 hin.2]
    · rw [splice_out _ _ _ (by omega) _ (by omega), splice_out _ _ _ (by rw [hl]; exact h) _ (by omega), List.getElem?_take, if_pos hi]
  · rw [if_neg hi]
    symm
    rw [List.getElem?_eq_none_iff, splice_len _ _ _ (by rw [hl]; exact h), hl]; omega
end Pa
/-- take, whatever is free -/
theorem take_any {w : World} {p : Nat} {x : Loc} {lim : Nat} {ps : Parts} {L : List UInt8} (h : ArAt w p x lim ps L) (hF : Held lim ps) (c : Nat) (hcl : c ∈ classes) (hc : 16 ≤ c ∧ c ≤ 1048576) (hlim : liveSum ps + c ≤ lim) (C O : Int) (hC : C = c) (hO : O = takeAt ps c) :
    Calls Try.prog 65 #[.pointer (some ⟨p, 0, none⟩), .int .i64 C] w fun e w' =>
      e = .returned (.tuple #[.int .i64 O, .int .i64 0]) ∧ ∃ x' L', ArAt w' p x' lim (takeP ps c) L' ∧ L'.take (endOf (takeP ps c)) = takeB (L.take (endOf ps)) ps c ∧ Turns (x.all p) w w' ∧ ∀ k, k ∈ x'.all p → k ∈ x.all p ∨ w.heap.size ≤ k := by
  subst hO
  have hFt := hF.take c hcl hlim
  rcases take_case ps c with ⟨hd, e1, e2, e3⟩ | ⟨a, b, rfl, hd, e1, e2, e3⟩
  · have hb := hFt.bound h.lm
    rw [e1, endOf_app] at hb
    refine (take_new h c hc hd hb hlim C hC).mono ?_
    rintro e w' ⟨rfl, x', L', h1, h2, h3, h4⟩
    refine ⟨by rw [e2], x', L', by rw [e1]; exact h1, by rw [e1, e3, endOf_app]; exact h2, h3, h4⟩
  · refine (take_old h hd hlim C hC).mono ?_
    rintro e w' ⟨rfl, h1, h3⟩
    refine ⟨by rw [e2], x, _, by rw [e1]; exact h1, ?_, h3, fun k hk => .inl hk⟩
    rw [e1, e3, endOf_flip a b c true false]
    exact splice_take L _ _ _ (by rw [List.length_replicate]; unfold endOf; rw [total_app, total_cons]; simp only []; omega) h.mem.le
end Go.Proofs.Ytpbalilnemjeeaa
