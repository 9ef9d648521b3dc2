/- What is proved here: dir.New in an arena that the call itself has made; the bytes it leaves are a directory. No condition. -/
import Derived.Test.YtpbalilnemjeeaaDEntry
import Derived.Test.YtpbalilnemjeeaaDInts
namespace Go.Proofs.Ytpbalilnemjeeaa
set_option linter.unusedVariables false
set_option linter.unusedSimpArgs false
open Go.RowKit Pm Pa Pl Pd
theorem words_at (L : List UInt8) (off : Nat) (es : List Int) (h : off + 8 * es.length ≤ L.length) (i : Nat) (e : Int) (he : es[i]? = some e) : ((splice L off (wordsB es)).drop (off + 8 * i)).take 8 = leB 8 (uN e) := by
  have hi : i < es.length := (List.getElem?_eq_some_iff.1 he).1
  rw [← wordsB_at es i e he]
  refine List.ext_getElem? fun j => ?_
  rw [List.getElem?_take, List.getElem?_take, List.getElem?_drop, List.getElem?_drop]
  by_cases hj : j < 8
  · rw [if_pos hj, if_pos hj, splice_in L off _ (by rw [wordsB_len]; exact h) _ (by omega) (by rw [wordsB_len]; omega)]
    congr 1; omega
  · rw [if_neg hj, if_neg hj]
theorem takeB_len (M : List UInt8) (ps : Parts) (c : Nat) (h : M.length = endOf ps) : (takeB M ps c).length = endOf (takeP ps c) := by
  rcases take_case ps c with ⟨_, e1, _, e3⟩ | ⟨a, b, rfl, _, e1, _, e3⟩
  · rw [e1, e3, endOf_app]; simp [h]
  · rw [e1, e3, splice_len _ _ _ (by simp [h, endOf, total_app, total_cons]; omega), h]; exact endOf_flip a b c false true
theorem dir_held {ps : Parts} {L' M : List UInt8} {c d n : Nat} {es : List Int} (hM : M.length = endOf ps) (hL : L'.take (endOf (takeP ps c)) = takeB M ps c) (hes : ∀ e ∈ es, isI e) (hd : d ≤ 6) (hn : es.length = n) (hn2 : n = 2 ^ d) (hc : 8 * n ≤ c) (hend : endOf (takeP ps c) ≤ 134217728) :
    DirAt (takeP ps c) (splice L' (takeAt ps c) (wordsB es)) (takeAt ps c) d es := by
  have h1 : takeAt ps c + c ≤ endOf (takeP ps c) := by
    rcases take_case ps c with ⟨_, e1, e2, _⟩ | ⟨a, b, rfl, _, e1, e2, _⟩
    · rw [e1, e2, endOf_app]; exact Nat.le_refl _
    · rw [e1, e2]; simp [endOf, total_app, total_cons]; omega
  have h2 : endOf (takeP ps c) ≤ L'.length := by
    have h3 := congrArg List.length hL
    rw [takeB_len M ps c hM, List.length_take] at h3
    omega
  exact ⟨by rw [hn, hn2], hd, hes, fun i hi => inside_take ps c (8 * i) 8 (by omega), fun i e he => words_at L' _ es (by omega) i e he, by omega⟩
theorem as_dir {w0 w : World} {p : Nat} {x : Loc} {lim : Nat} {ps : Parts} {L : List UInt8} (h : AS w0 p x lim ps L w) (hF : Held lim ps) (es : List Int) (A : Option Addr) (cap : Nat) (hin : IntsIn w A es) (hAp : ∀ g o, A = some ⟨g, o, none⟩ → ¬ g ∈ x.all p) (hes : ∀ e ∈ es, isI e)
    (d : Nat) (hd : d ≤ 6) (n : Nat) (hn : es.length = n) (hn2 : n = 2 ^ d) (c : Nat) (hc : clsN (8 * (n : Int)) = c) (hl : liveSum ps + c ≤ lim) :
    Calls Try.prog 48 #[.pointer (some ⟨p, 0, none⟩), .slice A n cap] w fun e w' => ∃ x' L', e = .returned (.tuple #[dirV p (takeAt ps c) d, .int .i64 0]) ∧ AS w0 p x' lim (takeP ps c) L' w' ∧ DirAt (takeP ps c) L' (takeAt ps c) d es := by
  have hn1 : 1 ≤ n := by rw [hn2]; exact Nat.one_le_two_pow
  have hn64 : n ≤ 64 := by rw [hn2]; exact Nat.pow_le_pow_right (by decide) hd
  have hc8 : 8 * n ≤ c := by have := clsN_ge' (8 * n) (by omega) (by omega); push_cast at this; rw [hc] at this; exact this
  refine (dir_new h.ar hF es A cap hin hAp hes d hd n hn hn2 c hc hl).mono ?_
  rintro e w' ⟨rfl, x', L', h1, h2, h3, h4⟩
  exact ⟨x', _, rfl, h.turned h3 h1 h4, dir_held (by have := h.ar.mem.le; rw [List.length_take]; omega) h2 hes hd hn hn2 hc8 h1.endle⟩
/-- append([]int{}, offs...): a list of the call's own with the same numbers -/
theorem wpList_list_of {w1 : World} {ops : Array Oper} {rest : List Oper} {o : Oper} {a : Act} {Q : Exit → Act → World → Prop} (hgd : o.guard = none) (s x : Operand)
    (ho : o.op = .call { callee := .builtin .append, args := #[s, x], argTypes := #[29, 29] }) (hs : a.eval s = .slice (some ⟨w1.heap.size, 0, none⟩) 0 0)
    (A : Option Addr) (n cap : Nat) (zs : List Int) (hx : a.eval x = .slice A n cap) (hm : zs.length = n) (hz : IntsIn w1 A zs) (hA : A = none → n = 0 ∧ cap = 0) (hb : n ≤ 17592186044414)
    (h : ∀ A2 cap2 w2, IntsIn w2 A2 zs → (∀ g o, A2 = some ⟨g, o, none⟩ → w1.heap.size ≤ g) → (A2 = none → n = 0 ∧ cap2 = 0) → Below w1.heap.size w1 w2 → wpList Try.prog ops Q rest (a.put o.dst (.slice A2 n cap2)) w2) :
    wpList Try.prog ops Q (o :: rest) a (w1.alloc (.cells #[] 3)) := by
  refine wpList_append_ints hgd s x ho w1.heap.size _ 0 [] hs (World.ownsRow_made (base := w1.heap.size) (e := 3) (size := 1) w1 #[] 0 (Nat.le_refl _) (by decide) rfl) A n cap zs hx hm (ints_below hz ((Below.refl _ _).alloc (Nat.le_refl _) _)) hA (by omega) (by simp) ?_
  intro v2 w2 hown hgrow
  rw [List.nil_append, Nat.zero_add] at hown
  obtain ⟨A2, cap2, rfl, hi2, hb2, ha2, hl2⟩ := own_slice hown
  have hB2 : Below w1.heap.size w1 w2 := ((Below.refl w1.heap.size w1).alloc (Nat.le_refl _) _).grown hgrow (by simp) (fun k hk => Nat.le_of_eq (Option.some.inj (show some w1.heap.size = some k from hk)))
  exact h A2 cap2 w2 hi2 hb2 ha2 hB2
theorem list_out {w1 w0 : World} {p : Nat} {x : Loc} {lim : Nat} {ps : Parts} {L : List UInt8} (h : AS w0 p x lim ps L w1) {A2 : Option Addr} (hb : ∀ g o, A2 = some ⟨g, o, none⟩ → w1.heap.size ≤ g) : ∀ g o, A2 = some ⟨g, o, none⟩ → ¬ g ∈ x.all p :=
  fun g o e hk => absurd (h.ar.lt g hk) (Nat.not_lt.2 (hb g o e))
end Go.Proofs.Ytpbalilnemjeeaa
