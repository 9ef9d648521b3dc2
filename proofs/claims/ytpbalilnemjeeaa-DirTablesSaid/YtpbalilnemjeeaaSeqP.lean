/- What is proved here: a law for a loop over an iterator that keeps blocks of its own, beside a body that turns whatever it likes but these. No condition. -/
import Derived.Test.YtpbalilnemjeeaaMemAt
import Derived.RangeFuncNested
import Derived.RangeFuncBound
import Derived.RangeFuncCalls
import Derived.RangeFuncLeaves
import Derived.Shelf.Abstract
import Derived.WalkKit
import Derived.OwnWalkIn
import Derived.TacticsInMore
import Derived.LoopNIn
import Derived.LoopIn
namespace Go.Proofs.Ytpbalilnemjeeaa
set_option linter.unusedVariables false
set_option linter.unusedSimpArgs false
open Go.RowKit
/-- the blocks of K stay -/
def Keeps (K : List Nat) (W W' : World) : Prop := W.heap.size ≤ W'.heap.size ∧ ∀ k, k ∈ K → k < W.heap.size → W'.heap[k]? = W.heap[k]?
theorem Keeps.refl (K : List Nat) (W : World) : Keeps K W W := ⟨Nat.le_refl _, fun _ _ _ => rfl⟩
theorem Keeps.trans {K : List Nat} {W W1 W2 : World} (h : Keeps K W W1) (k : Keeps K W1 W2) : Keeps K W W2 :=
  ⟨Nat.le_trans h.1 k.1, fun i hi hl => (k.2 i hi (Nat.lt_of_lt_of_le hl h.1)).trans (h.2 i hi hl)⟩
theorem Keeps.of_turns {K S : List Nat} {W W1 : World} (h : Turns S W W1) (hn : ∀ k, k ∈ K → ¬ k ∈ S) : Keeps K W W1 := ⟨h.size, fun k hk hl => h.block k hl (hn k hk)⟩
theorem Keeps.of_below {K : List Nat} {W W1 : World} (h : Below W.heap.size W W1) : Keeps K W W1 := ⟨h.size, fun k _ hl => h.block k hl⟩
theorem Keeps.set {K : List Nat} {W W1 : World} (h : Keeps K W W1) (g i : Nat) (v : Value) (hg : ¬ g ∈ K) : Keeps K W (W1.setCell ⟨g, i, none⟩ v) :=
  ⟨by simpa [World.setCell] using h.1, fun k hk hl => (Below.heap_setCell W1 ⟨g, i, none⟩ v k (by show k ≠ g; intro e; exact hg (e ▸ hk))).trans (h.2 k hk hl)⟩
theorem turns_put (W : World) (l : Nat) (o : Obj) (S : List Nat) : Turns (l :: S) W (W.putObj l o) := by
  have h := grownBy_putObj' W l o
  exact ⟨h.os, h.tape, h.output, h.size, fun k hk hn => h.block k hk (fun e => hn (by injection e with e; simp [e]))⟩
/-- an iterator: beside whatever its rounds keep it turns blocks of its own alone (Q); it gives a list of S, or a list of Sp up to a round that leaves -/
def SeqP {α : Type} (F : Fence) (n : Nat) (P : Program) (g : Nat) (lb : Array Value) (encs : α → Array Value) (S Sp : List α → Prop) (Nx : List α → α → Prop) (Gd : World → Prop) (Pv : Prop) (w : World) : Prop :=
  ∀ (l : Nat) (J Jx : List α → List Nat → World → Prop) (W : World), Below w.heap.size w W →
    (∀ s Q W W', J s Q W → Turns Q W W' → J s Q W') → (Pv → ∀ s Q Q' W, J s Q W → (∀ k, k ∈ Q' → k ∈ Q ∨ W.heap.size ≤ k) → J s Q' W) → (∀ s Q W W', Jx s Q W → Turns Q W W' → Jx s Q W') → (∀ pre Q W1, J pre Q W1 → Gd W1) →
    (∀ pre x Q W1, J pre Q W1 → W.heap.size ≤ W1.heap.size → (∀ k, k ∈ Q → W.heap.size ≤ k ∧ k < W1.heap.size) → Nx pre x → YieldAt F (n - 1) P l (encs x) W1 fun e W' =>
      (e = .returned (.bool true) ∧ J (pre ++ [x]) Q W' ∧ Keeps Q W1 W') ∨ (e = .returned (.bool false) ∧ Jx (pre ++ [x]) Q W')) →
    J [] [] W →
    CallsIn F n P g (#[.func (.yield l) #[] #[]] ++ lb) W fun e W' => (∃ v, e = .returned v) ∧ ((∃ xs Q, S xs ∧ J xs Q W') ∨ (∃ pre Q, Sp pre ∧ Jx pre Q W'))
theorem SeqP.inRound {α : Type} {F : Fence} {n : Nat} {P : Program} {g : Nat} {lb : Array Value} {encs : α → Array Value} {S Sp : List α → Prop} {Nx : List α → α → Prop} {Gd : World → Prop} {Pv : Prop} {w : World} (l : Nat) (h : SeqP F n P g lb encs S Sp Nx Gd Pv w) : SeqP (F.inRound l) n P g lb encs S Sp Nx Gd Pv w := h
/-- how a round's body may be left -/
def ownPost {α : Type} (K : List Nat) (I : List α → World → Prop) (Ix : Code → List α → World → Prop) (xs : List α) (W : World) : Exit → Act → World → Prop
  | .normal, _, W' => Keeps K W W' ∧ I xs W'
  | .ret, _, W' => Keeps K W W' ∧ Ix .ret xs W'
  | .exit id, _, W' => Keeps K W W' ∧ Ix (.exit id) xs W'
  | .goto t, _, W' => Keeps K W W' ∧ Ix (.goto t) xs W'
  | .panic _, _, _ => False
  | .outgrown, _, _ => False
section
variable {F : Fence} {n : Nat} {P : Program}
/-- the loop's rounds: the record at l is ready; Ds: blocks that the body keeps too -/
theorem rounds_p {α : Type} {ps : Array Tmp} {assign body : Code} {Q : Exit → Act → World → Prop} {a' : Act} {W0 : World} {fn gf l : Nat} {Ds : List Nat} {lb : Array Value} {tmps : Array Value} {dfs : Nat} (hfn : F.fn fn)
    {rec : LoopState → Option Code → Loop} (hrec : ∀ st pe, rec st pe = { state := st, pending := pe, fn, tmps, params := ps, assign, body, defers := dfs }) (hl : W0.heap[l]? = some (.loop (rec .ready none))) (hDs : ∀ k, k ∈ Ds → k < W0.heap.size ∧ k ≠ l)
    {encs : α → Array Value} {S Sp : List α → Prop} {Nx : List α → α → Prop} {Gd : World → Prop} {Pv : Prop} {w0 : World} (hseq : SeqP F (n - 1) P gf lb encs S Sp Nx Gd Pv w0) (hb0 : Below w0.heap.size w0 W0) (hps : ∀ x, (encs x).size = ps.size)
    (I : List α → List Nat → World → Prop) (Ix : Code → List α → List Nat → World → Prop) (hI : ∀ s Q W W', I s Q W → Turns (l :: Q) W W' → I s Q W') (hA : Pv → ∀ s Q Q' W, I s Q W → (∀ k, k ∈ Q' → k ∈ Q ∨ W.heap.size ≤ k) → I s Q' W)
    (hG : ∀ pre Q W, I pre Q W → Gd W) (hIx : ∀ c s Q W W', Ix c s Q W → Turns (l :: Q) W W' → Ix c s Q W') (h0 : I [] [] W0) (a₁ : α → Act)
    (hassign : ∀ (x : α) (W : World) (K : Act → World → Prop), K (a₁ x) W →
      assign.wpIn (F.inRound l) (n - 1 - 1) P (Exit.then K (fun _ _ _ => False)) { tmps := (ps.zip (encs x)).foldl (fun t (p, v) => t.setIfInBounds p v) tmps, defers := [] } W)
    (hbody : ∀ (pre : List α) (x : α) (Qs : List Nat) (W : World), (∃ r, W.heap[l]? = some (.loop r)) → (∀ k, k ∈ Ds → W.heap[k]? = W0.heap[k]?) → W0.heap.size ≤ W.heap.size → (∀ k, k ∈ Qs → W0.heap.size ≤ k ∧ k < W.heap.size) → I pre Qs W → Nx pre x →
      body.wpIn (F.inRound l) (n - 1 - 1) P (ownPost (l :: (Ds ++ Qs)) (fun s => I s Qs) (fun c s => Ix c s Qs) (pre ++ [x]) W) (a₁ x) W)
    (hdone : ∀ (xs : List α) (Qs : List Nat) (W : World), S xs → I xs Qs W → (∀ k, k ∈ Ds → W.heap[k]? = W0.heap[k]?) → Q .normal a' W)
    (hstop : ∀ (c : Code) (pre : List α) (Qs : List Nat) (W : World), Sp pre → Ix c pre Qs W → (∀ k, k ∈ Ds → W.heap[k]? = W0.heap[k]?) → c.wpIn F n P Q a' W) :
    CallsIn F (n - 1) P gf (#[.func (.yield l) #[] #[]] ++ lb) W0 (rangePost F n P l Q a') := by
  have hl0 : l < W0.heap.size := (Array.getElem?_eq_some_iff.1 hl).1
  have keepQ : ∀ {W W' : World} {Qs : List Nat} {k : Nat}, Turns Qs W W' → (∀ k, k ∈ Qs → W0.heap.size ≤ k) → k < W0.heap.size → W0.heap.size ≤ W.heap.size → W'.heap[k]? = W.heap[k]? := fun ht hq hk hs => ht.block _ (Nat.lt_of_lt_of_le hk hs) (fun hm => by have := hq _ hm; omega)
  refine (hseq l (fun pre Qs W => I pre Qs W ∧ W.heap[l]? = some (.loop (rec .ready none)) ∧ (∀ k, k ∈ Ds → W.heap[k]? = W0.heap[k]?) ∧ (∀ k, k ∈ Qs → W0.heap.size ≤ k) ∧ W0.heap.size ≤ W.heap.size)
    (fun pre Qs W => ∃ c, Ix c pre Qs W ∧ W.heap[l]? = some (.loop (rec .done (some c))) ∧ (∀ k, k ∈ Ds → W.heap[k]? = W0.heap[k]?) ∧ (∀ k, k ∈ Qs → W0.heap.size ≤ k) ∧ W0.heap.size ≤ W.heap.size) W0 hb0 ?_ ?_ ?_ (fun pre Qs W1 hj => hG pre Qs W1 hj.1) ?_
    ⟨h0, hl, fun _ _ => rfl, fun k hk => (by cases hk), Nat.le_refl _⟩).mono ?_
  · rintro s Qs A A' ⟨h1, h2, h3, h4, h5⟩ ht
    exact ⟨hI s Qs A A' h1 (ht.more fun x hx => .inl (by simp [hx])), (keepQ ht h4 hl0 h5).trans h2, fun k hk => (keepQ ht h4 (hDs k hk).1 h5).trans (h3 k hk), h4, Nat.le_trans h5 ht.size⟩
  · rintro hpv s Qs Qs' A ⟨h1, h2, h3, h4, h5⟩ hq
    exact ⟨hA hpv s Qs Qs' A h1 hq, h2, h3, fun k hk => by rcases hq k hk with e | e; exact h4 k e; omega, h5⟩
  · rintro s Qs A A' ⟨c, h1, h2, h3, h4, h5⟩ ht
    exact ⟨c, hIx c s Qs A A' h1 (ht.more fun x hx => .inl (by simp [hx])), (keepQ ht h4 hl0 h5).trans h2, fun k hk => (keepQ ht h4 (hDs k hk).1 h5).trans (h3 k hk), h4, Nat.le_trans h5 ht.size⟩
  · rintro pre x Qs W ⟨hi, hlW, hex, hqs, hsz⟩ hszW hq hlen
    have hlt : l < W.heap.size := (Array.getElem?_eq_some_iff.1 hlW).1
    have hy := run_yield (P := P) (args := encs x) hlW (by rw [hrec]; exact hps x)
    rw [hrec] at hy
    refine ⟨fn, _, assign, body, hy, roundIn_of_wpIn hfn (hassign x W _ ⟨_, run_beginRound hlW (by rw [hrec]), ?_⟩)⟩
    have hl2 : (W.putObj l (.loop { rec .ready none with state := .busy })).heap[l]? = some (.loop { rec .ready none with state := .busy }) := World.putObj_heap_same hlt
    have hs2 : (W.putObj l (.loop { rec .ready none with state := .busy })).heap.size = W.heap.size := by simp
    have hex2 : ∀ k, k ∈ Ds → (W.putObj l (.loop { rec .ready none with state := .busy })).heap[k]? = W0.heap[k]? := fun k hk => (World.putObj_heap_other (by have := (hDs k hk).2; omega)).trans (hex k hk)
    refine wpIn_mono (hbody pre x Qs _ ⟨_, hl2⟩ hex2 (by rw [hs2]; exact hszW) (fun k hk => ⟨(hq k hk).1, by rw [hs2]; exact (hq k hk).2⟩) (hI _ _ _ _ hi (turns_put W l _ Qs)) hlen) ?_
    have fin : ∀ (jump : Option Code) (W3 : World), Keeps (l :: (Ds ++ Qs)) (W.putObj l (.loop { rec .ready none with state := .busy })) W3 →
        (Instr.endRound l jump).run P W3 = .ok (.bool jump.isNone) (W3.putObj l (.loop (rec (if jump.isNone then .ready else .done) jump))) ∧
        (W3.putObj l (.loop (rec (if jump.isNone then .ready else .done) jump))).heap[l]? = some (.loop (rec (if jump.isNone then .ready else .done) jump)) ∧
        (∀ k, k ∈ Ds → (W3.putObj l (.loop (rec (if jump.isNone then .ready else .done) jump))).heap[k]? = W0.heap[k]?) ∧ W0.heap.size ≤ (W3.putObj l (.loop (rec (if jump.isNone then .ready else .done) jump))).heap.size ∧ Keeps Qs W (W3.putObj l (.loop (rec (if jump.isNone then .ready else .done) jump))) := fun jump W3 hk3 => by
      have hl3 := (hk3.2 l (by simp) (by rw [hs2]; exact hlt)).trans hl2
      have hlt3 : l < W3.heap.size := (Array.getElem?_eq_some_iff.1 hl3).1
      have := run_endRound (P := P) jump hl3
      simp only [hrec] at this ⊢
      have h9 := hk3.1
      rw [hs2] at h9
      refine ⟨this, World.putObj_heap_same hlt3, fun k hk => ?_, by simp; omega, by simp; omega, fun k hk hlk => ?_⟩
      · rw [World.putObj_heap_other (by have := (hDs k hk).2; omega)]
        exact (hk3.2 k (by simp [hk]) (by rw [hs2]; have := (hDs k hk).1; omega)).trans (hex2 k hk)
      · have hkl : k ≠ l := fun e => by have := hqs k hk; omega
        rw [World.putObj_heap_other (by omega), hk3.2 k (by simp [hk]) (by rw [hs2]; exact hlk), World.putObj_heap_other (by omega)]
    rintro e a3 W3 hp
    cases e with
    | normal =>
      obtain ⟨hk3, hi3⟩ := hp
      obtain ⟨hr, hl4, hx4, hz4, hst⟩ := fin none W3 hk3
      exact ⟨_, _, hr, .inl ⟨rfl, ⟨hI _ _ _ _ hi3 (turns_put W3 l _ Qs), hl4, hx4, hqs, hz4⟩, hst⟩⟩
    | ret =>
      obtain ⟨hk3, hi3⟩ := hp
      obtain ⟨hr, hl4, hx4, hz4, hst⟩ := fin (some .ret) W3 hk3
      exact ⟨_, _, hr, .inr ⟨rfl, .ret, hIx _ _ _ _ _ hi3 (turns_put W3 l _ Qs), hl4, hx4, hqs, hz4⟩⟩
    | exit id =>
      obtain ⟨hk3, hi3⟩ := hp
      obtain ⟨hr, hl4, hx4, hz4, hst⟩ := fin (some (.exit id)) W3 hk3
      exact ⟨_, _, hr, .inr ⟨rfl, .exit id, hIx _ _ _ _ _ hi3 (turns_put W3 l _ Qs), hl4, hx4, hqs, hz4⟩⟩
    | goto t =>
      obtain ⟨hk3, hi3⟩ := hp
      obtain ⟨hr, hl4, hx4, hz4, hst⟩ := fin (some (.goto t)) W3 hk3
      exact ⟨_, _, hr, .inr ⟨rfl, .goto t, hIx _ _ _ _ _ hi3 (turns_put W3 l _ Qs), hl4, hx4, hqs, hz4⟩⟩
    | panic ch => exact hp.elim
    | outgrown => exact hp.elim
  · rintro e W2 ⟨⟨v, rfl⟩, (⟨xs, Qs, hS, hi, hl2, hx, hq, hz⟩ | ⟨pre, Qs, hSp, c, hi, hl2, hx, hq, hz⟩)⟩
    · have hlt := (Array.getElem?_eq_some_iff.1 hl2).1
      exact ⟨none, _, by have := run_endLoop (P := P) hl2 (by rw [hrec]; simp); rw [hrec] at this; exact this, hdone xs Qs _ hS (hI _ _ _ _ hi (turns_put W2 l _ Qs)) (fun k hk => (World.putObj_heap_other (by have := (hDs k hk).2; omega)).trans (hx k hk))⟩
    · have hlt := (Array.getElem?_eq_some_iff.1 hl2).1
      exact ⟨some c, _, by have := run_endLoop (P := P) hl2 (by rw [hrec]; simp); rw [hrec] at this; exact this, hstop c pre Qs _ hSp (hIx _ _ _ _ _ hi (turns_put W2 l _ Qs)) (fun k hk => (World.putObj_heap_other (by have := (hDs k hk).2; omega)).trans (hx k hk))⟩
/-- the outermost loop: the block for deferred calls lies at w.heap.size, the loop's record behind it -/
theorem range_p {α : Type} {g : Operand} {ps : Array Tmp} {assign body : Code} {Q : Exit → Act → World → Prop} {a : Act} {w : World}
    (hro : F.round = none) (h1 : 1 ≤ n) {gf : Nat} {lb : Array Value} (hg : a.eval g = .func (.func gf) #[] lb) (hFg : F.fn gf) (eg : ∀ args w, (callFunc gf args).run P w = .ok (.enter gf args) w)
    {encs : α → Array Value} {S Sp : List α → Prop} {Nx : List α → α → Prop} {Gd : World → Prop} {Pv : Prop} {w0 : World} (hseq : SeqP F (n - 1) P gf lb encs S Sp Nx Gd Pv w0) (hb0 : Below w0.heap.size w0 w) (hps : ∀ x, (encs x).size = ps.size)
    (D : Nat) (hD : w.heap.size = D)
    (I : List α → List Nat → World → Prop) (Ix : Code → List α → List Nat → World → Prop) (hI : ∀ s Q W W', I s Q W → Turns ((D + 1) :: Q) W W' → I s Q W') (hA : Pv → ∀ s Q Q' W, I s Q W → (∀ k, k ∈ Q' → k ∈ Q ∨ W.heap.size ≤ k) → I s Q' W)
    (hG : ∀ pre Q W, I pre Q W → Gd W) (hIx : ∀ c s Q W W', Ix c s Q W → Turns ((D + 1) :: Q) W W' → Ix c s Q W') (h0 : ∀ W, Below w.heap.size w W → D + 2 ≤ W.heap.size → I [] [] W) (a₁ : α → Act)
    (hassign : ∀ (l : Nat) (x : α) (W : World) (K : Act → World → Prop), K (a₁ x) W →
      assign.wpIn (F.inRound l) (n - 1 - 1) P (Exit.then K (fun _ _ _ => False)) { tmps := (ps.zip (encs x)).foldl (fun t (p, v) => t.setIfInBounds p v) a.tmps, defers := [] } W)
    (hbody : ∀ (pre : List α) (x : α) (Qs : List Nat) (W : World), (∃ r, W.heap[D + 1]? = some (.loop r)) → W.heap[D]? = some (.deferred (some [])) → D + 2 ≤ W.heap.size → (∀ k, k ∈ Qs → D + 2 ≤ k ∧ k < W.heap.size) → I pre Qs W → Nx pre x →
      body.wpIn (F.inRound (D + 1)) (n - 1 - 1) P (ownPost ((D + 1) :: ([D] ++ Qs)) (fun s => I s Qs) (fun c s => Ix c s Qs) (pre ++ [x]) W) (a₁ x) W)
    (hdone : ∀ (xs : List α) (Qs : List Nat) (W : World), S xs → I xs Qs W → W.heap[D]? = some (.deferred (some [])) → Q .normal { a with defers := { target := .collected D, args := #[] } :: a.defers } W)
    (hstop : ∀ (c : Code) (pre : List α) (Qs : List Nat) (W : World), Sp pre → Ix c pre Qs W → W.heap[D]? = some (.deferred (some [])) → c.wpIn F n P Q { a with defers := { target := .collected D, args := #[] } :: a.defers } W) :
    (Code.rangeFunc g ps assign body).wpIn F n P Q a w := by
  subst hD
  refine wpIn_rangeFunc ?_
  intro fn hfn
  rw [hro]
  obtain ⟨rec, hrec⟩ : ∃ rec : LoopState → Option Code → Loop, rec = fun st pe => { state := st, pending := pe, fn, tmps := a.tmps, params := ps, assign, body, defers := w.heap.size } := ⟨_, rfl⟩
  have hsz : ((w.alloc (.deferred (some []))).alloc (.loop (rec .ready none))).heap.size = w.heap.size + 2 := by simp
  have hbB : Below w.heap.size w ((w.alloc (.deferred (some []))).alloc (.loop (rec .ready none))) := ((Below.refl _ w).alloc (Nat.le_refl _) _).alloc (by simp) _
  have hL1 : ((w.alloc (.deferred (some []))).alloc (.loop (rec .ready none))).heap[w.heap.size + 1]? = some (.loop (rec .ready none)) := by
    have := World.alloc_heap_new (w.alloc (.deferred (some []))) (.loop (rec .ready none)); rwa [World.size_alloc] at this
  have hK1 : ((w.alloc (.deferred (some []))).alloc (.loop (rec .ready none))).heap[w.heap.size]? = some (.deferred (some [])) := (Below.heap_alloc _ _ _ (by simp)).trans (World.alloc_heap_new w _)
  refine ⟨w.heap.size + 1, [{ target := .collected w.heap.size, args := #[] }], (w.alloc (.deferred (some []))).alloc (.loop (rec .ready none)), { target := .fn (.func gf) lb, args := #[.func (.yield (w.heap.size + 1)) #[] #[]] }, (w.alloc (.deferred (some []))).alloc (.loop (rec .ready none)), gf,
    #[.func (.yield (w.heap.size + 1)) #[] #[]] ++ lb, (w.alloc (.deferred (some []))).alloc (.loop (rec .ready none)), ?_, ?_, ?_, ?_, fun _ => h1, ?_⟩
  · rw [hrec]; exact run_enterLoop_outer _ _ _ _ _
  · simp only [resolve, hg]
    simp [go_sem]
  · intro f' hf'; simp [Target.leads] at hf'; subst hf'; exact hFg
  · simp [invoke, go_sem, eg]
  · generalize World.alloc _ (.loop _) = W1 at hsz hbB hL1 hK1 ⊢
    refine rounds_p (Ds := [w.heap.size]) hfn (rec := rec) (fun st pe => by rw [hrec]) hL1 (fun k hk => by simp only [List.mem_singleton] at hk; subst hk; omega) hseq (Below.then hb0 hbB) hps I Ix hI hA hG hIx (h0 W1 hbB (by omega)) a₁
      (hassign _) (fun pre x Qs W hr hd hle hq hi hn => ?_) (fun xs Qs W h1 h2 h3 => hdone xs Qs W h1 h2 ((h3 _ (by simp)).trans hK1)) (fun c pre Qs W h1 h2 h3 => hstop c pre Qs W h1 h2 ((h3 _ (by simp)).trans hK1))
    exact hbody pre x Qs W hr ((hd _ (by simp)).trans hK1) (by omega) (fun k hk => by have := hq k hk; omega) hi hn
/-- a loop in the body of a loop: the loop's record lies at w.heap.size -/
theorem range_p_in {α : Type} {g : Operand} {ps : Array Tmp} {assign body : Code} {Q : Exit → Act → World → Prop} {a : Act} {w : World}
    {l₀ : Nat} {r₀ : Loop} (hro : F.round = some l₀) (hl₀ : w.heap[l₀]? = some (.loop r₀)) (h1 : 1 ≤ n) {gf : Nat} {lb : Array Value} (hg : a.eval g = .func (.func gf) #[] lb) (hFg : F.fn gf) (eg : ∀ args w, (callFunc gf args).run P w = .ok (.enter gf args) w)
    {encs : α → Array Value} {S Sp : List α → Prop} {Nx : List α → α → Prop} {Gd : World → Prop} {Pv : Prop} {w0 : World} (hseq : SeqP F (n - 1) P gf lb encs S Sp Nx Gd Pv w0) (hb0 : Below w0.heap.size w0 w) (hps : ∀ x, (encs x).size = ps.size)
    (D : Nat) (hD : w.heap.size = D)
    (I : List α → List Nat → World → Prop) (Ix : Code → List α → List Nat → World → Prop) (hI : ∀ s Q W W', I s Q W → Turns (D :: Q) W W' → I s Q W') (hA : Pv → ∀ s Q Q' W, I s Q W → (∀ k, k ∈ Q' → k ∈ Q ∨ W.heap.size ≤ k) → I s Q' W)
    (hG : ∀ pre Q W, I pre Q W → Gd W) (hIx : ∀ c s Q W W', Ix c s Q W → Turns (D :: Q) W W' → Ix c s Q W') (h0 : ∀ W, Below w.heap.size w W → D + 1 ≤ W.heap.size → I [] [] W) (a₁ : α → Act)
    (hassign : ∀ (l : Nat) (x : α) (W : World) (K : Act → World → Prop), K (a₁ x) W →
      assign.wpIn (F.inRound l) (n - 1 - 1) P (Exit.then K (fun _ _ _ => False)) { tmps := (ps.zip (encs x)).foldl (fun t (p, v) => t.setIfInBounds p v) a.tmps, defers := [] } W)
    (hbody : ∀ (pre : List α) (x : α) (Qs : List Nat) (W : World), (∃ r, W.heap[D]? = some (.loop r)) → D + 1 ≤ W.heap.size → (∀ k, k ∈ Qs → D + 1 ≤ k ∧ k < W.heap.size) → I pre Qs W → Nx pre x →
      body.wpIn (F.inRound D) (n - 1 - 1) P (ownPost (D :: ([] ++ Qs)) (fun s => I s Qs) (fun c s => Ix c s Qs) (pre ++ [x]) W) (a₁ x) W)
    (hdone : ∀ (xs : List α) (Qs : List Nat) (W : World), S xs → I xs Qs W → Q .normal a W)
    (hstop : ∀ (c : Code) (pre : List α) (Qs : List Nat) (W : World), Sp pre → Ix c pre Qs W → c.wpIn F n P Q a W) :
    (Code.rangeFunc g ps assign body).wpIn F n P Q a w := by
  subst hD
  refine wpIn_rangeFunc ?_
  intro fn hfn
  rw [hro]
  obtain ⟨rec, hrec⟩ : ∃ rec : LoopState → Option Code → Loop, rec = fun st pe => { state := st, pending := pe, fn, tmps := a.tmps, params := ps, assign, body, defers := r₀.defers } := ⟨_, rfl⟩
  have hsz : (w.alloc (.loop (rec .ready none))).heap.size = w.heap.size + 1 := by simp
  have hbB : Below w.heap.size w (w.alloc (.loop (rec .ready none))) := (Below.refl _ w).alloc (Nat.le_refl _) _
  have hL1 : (w.alloc (.loop (rec .ready none))).heap[w.heap.size]? = some (.loop (rec .ready none)) := World.alloc_heap_new w _
  refine ⟨w.heap.size, [], w.alloc (.loop (rec .ready none)), { target := .fn (.func gf) lb, args := #[.func (.yield w.heap.size) #[] #[]] }, w.alloc (.loop (rec .ready none)), gf,
    #[.func (.yield w.heap.size) #[] #[]] ++ lb, w.alloc (.loop (rec .ready none)), ?_, ?_, ?_, ?_, fun _ => h1, ?_⟩
  · rw [hrec]; exact run_enterLoop_inner hl₀ _ _ _ _ _
  · simp only [resolve, hg]
    simp [go_sem]
  · intro f' hf'; simp [Target.leads] at hf'; subst hf'; exact hFg
  · simp [invoke, go_sem, eg]
  · generalize World.alloc _ (.loop _) = W1 at hsz hbB hL1 ⊢
    refine rounds_p (Ds := []) hfn (rec := rec) (fun st pe => by rw [hrec]) hL1 (fun k hk => by cases hk) hseq (Below.then hb0 hbB) hps I Ix hI hA hG hIx (h0 W1 hbB (by omega)) a₁
      (hassign _) (fun pre x Qs W hr hd hle hq hi hn => ?_) (fun xs Qs W h1 h2 h3 => hdone xs Qs W h1 h2) (fun c pre Qs W h1 h2 h3 => hstop c pre Qs W h1 h2)
    exact hbody pre x Qs W hr (by omega) (fun k hk => by have := hq k hk; omega) hi hn
end
end Go.Proofs.Ytpbalilnemjeeaa
