/- What is proved here: the arena's contracts as a law meets them: an arena that the call itself has made, and nothing old has turned. No condition. -/
import Derived.Test.YtpbalilnemjeeaaAOps
namespace Go.Proofs.Ytpbalilnemjeeaa
set_option linter.unusedVariables false
set_option linter.unusedSimpArgs false
open Go.RowKit Pm Pa Pl
structure AS (w0 : World) (p : Nat) (x : Loc) (lim : Nat) (ps : Parts) (L : List UInt8) (w : World) : Prop where
  below : Below w0.heap.size w0 w
  ar : ArAt w p x lim ps L
  own : ∀ k, k ∈ x.all p → w0.heap.size ≤ k
section
variable {w0 w w' : World} {p : Nat} {x x' : Loc} {lim : Nat} {ps ps' : Parts} {L L' : List UInt8}
theorem AS.keep (h : AS w0 p x lim ps L w) (hb : Below w.heap.size w w') : AS w0 p x lim ps L w' := ⟨Below.then h.below hb, h.ar.keep hb, h.own⟩
theorem AS.drewN (h : AS w0 p x lim ps L w) (m : Nat) : AS w0 p x lim ps L (w.drewN m) := ⟨below_drewN h.below m, h.ar.drewN m, h.own⟩
theorem AS.drew (h : AS w0 p x lim ps L w) : AS w0 p x lim ps L w.drew := h.keep (Below.refl _ _).drew
theorem AS.alloc (h : AS w0 p x lim ps L w) (o : Obj) : AS w0 p x lim ps L (w.alloc o) := h.keep ((Below.refl _ _).alloc (Nat.le_refl _) o)
theorem AS.turned (h : AS w0 p x lim ps L w) (ht : Turns (x.all p) w w') (ha : ArAt w' p x' lim ps' L') (hf : ∀ k, k ∈ x'.all p → k ∈ x.all p ∨ w.heap.size ≤ k) : AS w0 p x' lim ps' L' w' :=
  ⟨Turns.below h.below ht h.own h.below.size, ha, fun k hk => by rcases hf k hk with e | e; exact h.own k e; exact Nat.le_trans h.below.size e⟩
theorem AS.wrote (h : AS w0 p x lim ps L w) (ht : Turns [x.q] w w') (ha : ArAt w' p x lim ps L') : AS w0 p x lim ps L' w' :=
  h.turned (ht.more fun y hy => .inl (ArAt.q_all x p y hy)) ha fun k hk => .inl hk
theorem num_any (e : Int) (w : World) : Calls Try.prog 20 #[.int .i64 e] w fun r w' => r = .returned (.int .i64 e) ∧ w = w' := by
  go_enter Try.func20, Try.ntmps20
  go_wp2_with fail
  go_ret
  exact ⟨rfl, rfl⟩
theorem as_new (lim : Nat) (w : World) (h : lim ≤ 2097152) (N : Int) (hN : N = lim) : Calls Try.prog 19 #[.int .i64 N] w fun e w' =>
    ∃ p x L, e = .returned (.tuple #[.pointer (some ⟨p, 0, none⟩), .int .i64 0]) ∧ AS w p x lim [] L w' := by
  subst hN
  refine (arnew_yes lim w h).mono ?_
  rintro e w' ⟨p, x, L, rfl, h1, h2, h3⟩
  exact ⟨p, x, L, rfl, h2, h1, h3⟩
theorem as_alloc (h : AS w0 p x lim ps L w) (hnd : noDead ps) (n : Int) (hv : 1 ≤ n ∧ n ≤ 1048576) (c : Nat) (hc : clsN n = c) (hl : liveSum ps + c ≤ lim) (hr : endOf ps + c ≤ 134217728) (off : Int) (ho : (endOf ps : Int) = off) :
    Calls Try.prog 28 #[.pointer (some ⟨p, 0, none⟩), .int .i64 n] w fun e w' => ∃ x' L', e = .returned (.tuple #[.int .i64 off, .int .i64 0]) ∧ AS w0 p x' lim (ps ++ [(c, true)]) L' w' ∧ L'.take (endOf ps + c) = L.take (endOf ps) ++ List.replicate c 0 := by
  subst hc ho
  refine (alloc_yes h.ar hnd n hv hl hr).mono ?_
  rintro e w' ⟨x', L', rfl, h1, h2, h3, h4⟩
  exact ⟨x', L', rfl, h.turned h3 h1 h4, h2⟩
theorem as_fill (h : AS w0 p x lim ps L w) {off k : Nat} (hi : Inside ps off k) (c : UInt8) (O K : Int) (hO : O = off) (hK : K = k) (b : Int) (hb : (c.toNat : Int) = b) : Calls Try.prog 26 #[.pointer (some ⟨p, 0, none⟩), .int .i64 O, .int .i64 K, .int .u8 b] w fun e w' =>
    e = .returned (.int .i64 0) ∧ AS w0 p x lim ps (splice L off (List.replicate k c)) w' := by
  subst hb
  refine (ar_fill h.ar hi c O K hO hK).mono ?_
  rintro e w' ⟨rfl, h1, h2⟩
  exact ⟨rfl, h.wrote h2 h1⟩
theorem as_store (h : AS w0 p x lim ps L w) {off k : Nat} (hi : Inside ps off k) (hk : k = 1 ∨ k = 2 ∨ k = 4 ∨ k = 8) (v : Nat) (hv : v < 2 ^ 64) (O K : Int) (hO : O = off) (hK : K = k) : Calls Try.prog 29 #[.pointer (some ⟨p, 0, none⟩), .int .i64 O, .int .i64 K, .int .u64 v] w fun e w' =>
    e = .returned (.int .i64 0) ∧ AS w0 p x lim ps (splice L off (leB k v)) w' := by
  refine (ar_store h.ar hi hk v hv O K hO hK).mono ?_
  rintro e w' ⟨rfl, h1, h2⟩
  exact ⟨rfl, h.wrote h2 h1⟩
theorem as_copy (h : AS w0 p x lim ps L w) {dst src k : Nat} (hi : Inside ps dst k) (hj : Inside ps src k) (D S K : Int) (hD : D = dst) (hS : S = src) (hK : K = k) : Calls Try.prog 24 #[.pointer (some ⟨p, 0, none⟩), .int .i64 D, .int .i64 S, .int .i64 K] w fun e w' =>
    e = .returned (.int .i64 0) ∧ AS w0 p x lim ps (splice L dst ((L.drop src).take k)) w' := by
  refine (ar_copy h.ar hi hj D S K hD hS hK).mono ?_
  rintro e w' ⟨rfl, h1, h2⟩
  exact ⟨rfl, h.wrote h2 h1⟩
theorem as_load (h : AS w0 p x lim ps L w) {off k : Nat} (hi : Inside ps off k) (hk : k = 1 ∨ k = 2 ∨ k = 4 ∨ k = 8) (O K : Int) (hO : O = off) (hK : K = k) (r : Int) (hr : (leN ((L.drop off).take k) : Int) = r) : Calls Try.prog 30 #[.pointer (some ⟨p, 0, none⟩), .int .i64 O, .int .i64 K] w fun e w' =>
    e = .returned (.tuple #[.int .u64 r, .int .i64 0]) ∧ AS w0 p x lim ps L w' := by
  refine (ar_load h.ar hi hk O K hO hK r hr).mono ?_
  rintro e w' ⟨rfl, m, rfl⟩
  exact ⟨rfl, h.drewN m⟩
theorem as_equal (h : AS w0 p x lim ps L w) {dst src k : Nat} (hi : Inside ps dst k) (hj : Inside ps src k) (D S K : Int) (hD : D = dst) (hS : S = src) (hK : K = k) (r : Bool) (hr : decide ((L.drop dst).take k = (L.drop src).take k) = r) : Calls Try.prog 23 #[.pointer (some ⟨p, 0, none⟩), .int .i64 D, .int .i64 S, .int .i64 K] w fun e w' =>
    e = .returned (.tuple #[.bool r, .int .i64 0]) ∧ AS w0 p x lim ps L w' := by
  refine (ar_equal h.ar hi hj D S K hD hS hK r hr).mono ?_
  rintro e w' ⟨rfl, m, rfl⟩
  exact ⟨rfl, h.drewN m⟩
theorem as_read (h : AS w0 p x lim ps L w) {off k : Nat} (hi : Inside ps off k) (O K : Int) (hO : O = off) (hK : K = k) (S : ByteArray) (hS : S.data.toList = (L.drop off).take k) : Calls Try.prog 25 #[.pointer (some ⟨p, 0, none⟩), .int .i64 O, .int .i64 K] w fun e w' =>
    e = .returned (.tuple #[.string S, .int .i64 0]) ∧ AS w0 p x lim ps L w' := by
  refine (ar_read h.ar hi O K hO hK S hS).mono ?_
  rintro e w' ⟨rfl, h1⟩
  exact ⟨rfl, h.keep h1⟩
end
end Go.Proofs.Ytpbalilnemjeeaa
