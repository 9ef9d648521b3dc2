/- What is proved here: a law for a loop over an iterator that keeps its state in cells of its own: the loop's body turns only what lay ahead of the loop. No condition. -/
import Derived.Test.YtakmaedimelaaaaDoorCIs
import Derived.RangeFuncNested
import Derived.RangeFuncBound
import Derived.RangeFuncCalls
import Derived.RangeFuncLeaves
import Derived.Shelf.Abstract
import Derived.WalkKit
import Derived.OwnWalkIn
import Derived.TacticsInMore
import Derived.LoopNIn
import Derived.LoopIn
namespace Go.Proofs.YtakmaedimelaaaaDoor
set_option linter.unusedVariables false
set_option linter.unusedSimpArgs false
open Go.RowKit
/-- what lies at or above B stays -/
def Stays (B : Nat) (W W' : World) : Prop := W.heap.size ≤ W'.heap.size ∧ ∀ k, B ≤ k → k < W.heap.size → W'.heap[k]? = W.heap[k]?
theorem Stays.refl (B : Nat) (W : World) : Stays B W W := ⟨Nat.le_refl _, fun _ _ _ => rfl⟩
theorem Stays.trans {B : Nat} {W W1 W2 : World} (h : Stays B W W1) (k : Stays B W1 W2) : Stays B W W2 :=
  ⟨Nat.le_trans h.1 k.1, fun i hi hl => (k.2 i hi (Nat.lt_of_lt_of_le hl h.1)).trans (h.2 i hi hl)⟩
theorem Stays.below {B : Nat} {W W1 : World} (h : Below W.heap.size W W1) : Stays B W W1 := ⟨h.size, fun k _ hk => h.block k hk⟩
theorem Stays.more {B B' : Nat} {W W1 : World} (h : Stays B W W1) (hB : B ≤ B') : Stays B' W W1 := ⟨h.1, fun k hk hl => h.2 k (by omega) hl⟩
theorem Stays.set {B : Nat} {W W1 : World} (h : Stays B W W1) (g i : Nat) (v : Value) (hg : g < B) : Stays B W (W1.setCell ⟨g, i, none⟩ v) :=
  ⟨by simpa [World.setCell] using h.1, fun k hk hl => (Below.heap_setCell W1 ⟨g, i, none⟩ v k (by show k ≠ g; omega)).trans (h.2 k hk hl)⟩
/-- what a turn at or above B does not touch -/
def Low {β : Type} (B : Nat) (I : β → World → Prop) : Prop := ∀ s W W', I s W → Below B W W' → I s W'
theorem below_put {B : Nat} (W : World) (l : Nat) (o : Obj) (hB : B ≤ l) (hl : l < W.heap.size) : Below B W (W.putObj l o) :=
  (Below.refl B W).grown (grownBy_putObj' W l o) (by omega) (fun k e => by cases e; exact hB)
/-- an iterator: over whatever its rounds keep, it gives a list of S, or a list of Sp up to a round that leaves -/
def SeqLow {α : Type} (F : Fence) (n : Nat) (P : Program) (g : Nat) (lb : Array Value) (encs : α → Array Value) (S Sp : List α → Prop) (Nx : List α → α → Prop) (Gd : World → Prop) (w : World) : Prop :=
  ∀ (l : Nat) (J Jx : List α → World → Prop) (W : World), Below w.heap.size w W → Low W.heap.size J → Low W.heap.size Jx → (∀ pre W1, J pre W1 → Gd W1) →
    (∀ pre x W1, J pre W1 → W.heap.size ≤ W1.heap.size → Nx pre x → YieldAt F (n - 1) P l (encs x) W1 fun e W' =>
      (e = .returned (.bool true) ∧ J (pre ++ [x]) W' ∧ Stays W.heap.size W1 W') ∨ (e = .returned (.bool false) ∧ Jx (pre ++ [x]) W')) →
    J [] W →
    CallsIn F n P g (#[.func (.yield l) #[] #[]] ++ lb) W fun e W' => (∃ v, e = .returned v) ∧ ((∃ xs, S xs ∧ J xs W') ∨ (∃ pre, Sp pre ∧ Jx pre W'))
/-- how a round's body may be left -/
def lowPost {α : Type} (B : Nat) (I : List α → World → Prop) (Ix : Code → List α → World → Prop) (xs : List α) (W : World) : Exit → Act → World → Prop
  | .normal, _, W' => Stays B W W' ∧ I xs W'
  | .ret, _, W' => Stays B W W' ∧ Ix .ret xs W'
  | .exit id, _, W' => Stays B W W' ∧ Ix (.exit id) xs W'
  | .goto t, _, W' => Stays B W W' ∧ Ix (.goto t) xs W'
  | .panic _, _, _ => False
  | .outgrown, _, _ => False
section
variable {F : Fence} {n : Nat} {P : Program}
/-- the loop's rounds: the record at l is ready -/
theorem rounds_low {α : Type} {ps : Array Tmp} {assign body : Code} {Q : Exit → Act → World → Prop} {a' : Act} {W0 : World} {fn gf l B : Nat} {lb : Array Value} {tmps : Array Value} {dfs : Nat} (hfn : F.fn fn)
    {rec : LoopState → Option Code → Loop} (hrec : ∀ st pe, rec st pe = { state := st, pending := pe, fn, tmps, params := ps, assign, body, defers := dfs }) (hl : W0.heap[l]? = some (.loop (rec .ready none))) (hB : B ≤ l)
    {encs : α → Array Value} {S Sp : List α → Prop} {Nx : List α → α → Prop} {Gd : World → Prop} {w0 : World} (hseq : SeqLow F (n - 1) P gf lb encs S Sp Nx Gd w0) (hb0 : Below w0.heap.size w0 W0) (hps : ∀ x, (encs x).size = ps.size)
    (I : List α → World → Prop) (Ix : Code → List α → World → Prop) (hI : Low B I) (hG : ∀ pre W, I pre W → Gd W) (hIx : ∀ c, Low B (Ix c)) (h0 : I [] W0) (a₁ : α → Act)
    (Ex : World → Prop) (hE : ∀ W W', Ex W → Below W0.heap.size W W' → Ex W') (hE2 : ∀ W W', Ex W → Stays B W W' → Ex W') (hE3 : ∀ W o, Ex W → Ex (W.putObj l o)) (hE0 : Ex W0)
    (hassign : ∀ (x : α) (W : World) (K : Act → World → Prop), K (a₁ x) W →
      assign.wpIn (F.inRound l) (n - 1 - 1) P (Exit.then K (fun _ _ _ => False)) { tmps := (ps.zip (encs x)).foldl (fun t (p, v) => t.setIfInBounds p v) tmps, defers := [] } W)
    (hbody : ∀ (pre : List α) (x : α) (W : World), (∃ r, W.heap[l]? = some (.loop r)) → W0.heap.size ≤ W.heap.size → I pre W → Nx pre x → body.wpIn (F.inRound l) (n - 1 - 1) P (lowPost B I Ix (pre ++ [x]) W) (a₁ x) W)
    (hdone : ∀ (xs : List α) (W : World), S xs → I xs W → Ex W → Q .normal a' W)
    (hstop : ∀ (c : Code) (pre : List α) (W : World), Sp pre → Ix c pre W → Ex W → c.wpIn F n P Q a' W) :
    CallsIn F (n - 1) P gf (#[.func (.yield l) #[] #[]] ++ lb) W0 (rangePost F n P l Q a') := by
  have hl0 : l < W0.heap.size := (Array.getElem?_eq_some_iff.1 hl).1
  have keepL : ∀ {W W' : World} {o : Obj}, W.heap[l]? = some o → Below W0.heap.size W W' → W'.heap[l]? = some o := fun h hb => (hb.block l hl0).trans h
  refine (hseq l (fun pre W => I pre W ∧ W.heap[l]? = some (.loop (rec .ready none)) ∧ Ex W) (fun pre W => ∃ c, Ix c pre W ∧ W.heap[l]? = some (.loop (rec .done (some c))) ∧ Ex W) W0 hb0
    (fun s A A' hs hb => ⟨hI s A A' hs.1 (hb.mono (by omega)), keepL hs.2.1 hb, hE _ _ hs.2.2 hb⟩)
    (fun s A A' hs hb => by obtain ⟨c, h1, h2, h3⟩ := hs; exact ⟨c, hIx c s A A' h1 (hb.mono (by omega)), keepL h2 hb, hE _ _ h3 hb⟩) (fun pre W1 hj => hG pre W1 hj.1) ?_ ⟨h0, hl, hE0⟩).mono ?_
  · rintro pre x W ⟨hi, hlW, hex⟩ hszW hlen
    have hlt : l < W.heap.size := (Array.getElem?_eq_some_iff.1 hlW).1
    have hy := run_yield (P := P) (args := encs x) hlW (by rw [hrec]; exact hps x)
    rw [hrec] at hy
    refine ⟨fn, _, assign, body, hy, roundIn_of_wpIn hfn (hassign x W _ ⟨_, run_beginRound hlW (by rw [hrec]), ?_⟩)⟩
    have hl2 : (W.putObj l (.loop { rec .ready none with state := .busy })).heap[l]? = some (.loop { rec .ready none with state := .busy }) := World.putObj_heap_same hlt
    have hs2 : (W.putObj l (.loop { rec .ready none with state := .busy })).heap.size = W.heap.size := by simp
    refine wpIn_mono (hbody pre x _ ⟨_, hl2⟩ (by rw [hs2]; exact hszW) (hI _ _ _ hi (below_put W l _ hB hlt)) hlen) ?_
    have fin : ∀ (jump : Option Code) (W3 : World), Stays B (W.putObj l (.loop { rec .ready none with state := .busy })) W3 →
        (Instr.endRound l jump).run P W3 = .ok (.bool jump.isNone) (W3.putObj l (.loop (rec (if jump.isNone then .ready else .done) jump))) ∧
        (W3.putObj l (.loop (rec (if jump.isNone then .ready else .done) jump))).heap[l]? = some (.loop (rec (if jump.isNone then .ready else .done) jump)) ∧
        Ex (W3.putObj l (.loop (rec (if jump.isNone then .ready else .done) jump))) ∧ l < W3.heap.size ∧ Stays W0.heap.size W (W3.putObj l (.loop (rec (if jump.isNone then .ready else .done) jump))) := fun jump W3 hk3 => by
      have hl3 := (hk3.2 l hB (by rw [hs2]; exact hlt)).trans hl2
      have hlt3 : l < W3.heap.size := (Array.getElem?_eq_some_iff.1 hl3).1
      have := run_endRound (P := P) jump hl3
      simp only [hrec] at this ⊢
      refine ⟨this, World.putObj_heap_same hlt3, hE3 _ _ (hE2 _ _ (hE3 _ _ hex) (by simp only [hrec] at hk3; exact hk3)), hlt3, ?_⟩
      refine ⟨by have := hk3.1; rw [hs2] at this; simpa using this, fun k hk hlk => ?_⟩
      rw [World.putObj_heap_other (by omega), hk3.2 k (by omega) (by rw [hs2]; exact hlk), World.putObj_heap_other (by omega)]
    rintro e a3 W3 hp
    cases e with
    | normal =>
      obtain ⟨hk3, hi3⟩ := hp
      obtain ⟨hr, hl4, hx4, hlt3, hst⟩ := fin none W3 hk3
      exact ⟨_, _, hr, .inl ⟨rfl, ⟨hI _ _ _ hi3 (below_put W3 l _ hB hlt3), hl4, hx4⟩, hst⟩⟩
    | ret =>
      obtain ⟨hk3, hi3⟩ := hp
      obtain ⟨hr, hl4, hx4, hlt3, hst⟩ := fin (some .ret) W3 hk3
      exact ⟨_, _, hr, .inr ⟨rfl, .ret, hIx _ _ _ _ hi3 (below_put W3 l _ hB hlt3), hl4, hx4⟩⟩
    | exit id =>
      obtain ⟨hk3, hi3⟩ := hp
      obtain ⟨hr, hl4, hx4, hlt3, hst⟩ := fin (some (.exit id)) W3 hk3
      exact ⟨_, _, hr, .inr ⟨rfl, .exit id, hIx _ _ _ _ hi3 (below_put W3 l _ hB hlt3), hl4, hx4⟩⟩
    | goto t =>
      obtain ⟨hk3, hi3⟩ := hp
      obtain ⟨hr, hl4, hx4, hlt3, hst⟩ := fin (some (.goto t)) W3 hk3
      exact ⟨_, _, hr, .inr ⟨rfl, .goto t, hIx _ _ _ _ hi3 (below_put W3 l _ hB hlt3), hl4, hx4⟩⟩
    | panic ch => exact hp.elim
    | outgrown => exact hp.elim
  · rintro e W2 ⟨⟨v, rfl⟩, (⟨xs, hS, hi, hl2, hx⟩ | ⟨pre, hSp, c, hi, hl2, hx⟩)⟩
    · have hlt := (Array.getElem?_eq_some_iff.1 hl2).1
      exact ⟨none, _, by have := run_endLoop (P := P) hl2 (by rw [hrec]; simp); rw [hrec] at this; exact this, hdone xs _ hS (hI _ _ _ hi (below_put W2 l _ hB hlt)) (hE3 _ _ hx)⟩
    · have hlt := (Array.getElem?_eq_some_iff.1 hl2).1
      exact ⟨some c, _, by have := run_endLoop (P := P) hl2 (by rw [hrec]; simp); rw [hrec] at this; exact this, hstop c pre _ hSp (hIx c _ _ _ hi (below_put W2 l _ hB hlt)) (hE3 _ _ hx)⟩
/-- the outermost loop -/
theorem range_low {α : Type} {g : Operand} {ps : Array Tmp} {assign body : Code} {Q : Exit → Act → World → Prop} {a : Act} {w : World}
    (hro : F.round = none) (h1 : 1 ≤ n) {gf : Nat} {lb : Array Value} (hg : a.eval g = .func (.func gf) #[] lb) (hFg : F.fn gf) (eg : ∀ args w, (callFunc gf args).run P w = .ok (.enter gf args) w)
    {encs : α → Array Value} {S Sp : List α → Prop} {Nx : List α → α → Prop} {Gd : World → Prop} {w0 : World} (hseq : SeqLow F (n - 1) P gf lb encs S Sp Nx Gd w0) (hb0 : Below w0.heap.size w0 w) (hps : ∀ x, (encs x).size = ps.size)
    (I : List α → World → Prop) (Ix : Code → List α → World → Prop) (hI : Low w.heap.size I) (hG : ∀ pre W, I pre W → Gd W) (hIx : ∀ c, Low w.heap.size (Ix c)) (h0 : I [] w) (a₁ : α → Act)
    (hassign : ∀ (l : Nat) (x : α) (W : World) (K : Act → World → Prop), K (a₁ x) W →
      assign.wpIn (F.inRound l) (n - 1 - 1) P (Exit.then K (fun _ _ _ => False)) { tmps := (ps.zip (encs x)).foldl (fun t (p, v) => t.setIfInBounds p v) a.tmps, defers := [] } W)
    (hbody : ∀ (l : Nat) (pre : List α) (x : α) (W : World), (∃ r, W.heap[l]? = some (.loop r)) → w.heap.size ≤ l → w.heap.size + 2 ≤ W.heap.size → I pre W → Nx pre x → body.wpIn (F.inRound l) (n - 1 - 1) P (lowPost w.heap.size I Ix (pre ++ [x]) W) (a₁ x) W)
    (hdone : ∀ (D : Nat) (xs : List α) (W : World), w.heap.size ≤ D → S xs → I xs W → W.heap[D]? = some (.deferred (some [])) → Q .normal { a with defers := { target := .collected D, args := #[] } :: a.defers } W)
    (hstop : ∀ (D : Nat) (c : Code) (pre : List α) (W : World), w.heap.size ≤ D → Sp pre → Ix c pre W → W.heap[D]? = some (.deferred (some [])) → c.wpIn F n P Q { a with defers := { target := .collected D, args := #[] } :: a.defers } W) :
    (Code.rangeFunc g ps assign body).wpIn F n P Q a w := by
  refine wpIn_rangeFunc ?_
  intro fn hfn
  rw [hro]
  obtain ⟨rec, hrec⟩ : ∃ rec : LoopState → Option Code → Loop, rec = fun st pe => { state := st, pending := pe, fn, tmps := a.tmps, params := ps, assign, body, defers := w.heap.size } := ⟨_, rfl⟩
  have hsz : ((w.alloc (.deferred (some []))).alloc (.loop (rec .ready none))).heap.size = w.heap.size + 2 := by simp
  have hbB : Below w.heap.size w ((w.alloc (.deferred (some []))).alloc (.loop (rec .ready none))) := ((Below.refl _ w).alloc (Nat.le_refl _) _).alloc (by simp) _
  have hL1 : ((w.alloc (.deferred (some []))).alloc (.loop (rec .ready none))).heap[w.heap.size + 1]? = some (.loop (rec .ready none)) := by
    have := World.alloc_heap_new (w.alloc (.deferred (some []))) (.loop (rec .ready none)); rwa [World.size_alloc] at this
  have hK1 : ((w.alloc (.deferred (some []))).alloc (.loop (rec .ready none))).heap[w.heap.size]? = some (.deferred (some [])) := (Below.heap_alloc _ _ _ (by simp)).trans (World.alloc_heap_new w _)
  refine ⟨w.heap.size + 1, [{ target := .collected w.heap.size, args := #[] }], (w.alloc (.deferred (some []))).alloc (.loop (rec .ready none)), { target := .fn (.func gf) lb, args := #[.func (.yield (w.heap.size + 1)) #[] #[]] }, (w.alloc (.deferred (some []))).alloc (.loop (rec .ready none)), gf,
    #[.func (.yield (w.heap.size + 1)) #[] #[]] ++ lb, (w.alloc (.deferred (some []))).alloc (.loop (rec .ready none)), ?_, ?_, ?_, ?_, fun _ => h1, ?_⟩
  · rw [hrec]; exact run_enterLoop_outer _ _ _ _ _
  · simp only [resolve, hg]
    simp [go_sem]
  · intro f' hf'; simp [Target.leads] at hf'; subst hf'; exact hFg
  · simp [invoke, go_sem, eg]
  · generalize World.alloc _ (.loop _) = W1 at hsz hbB hL1 hK1 ⊢
    exact rounds_low (B := w.heap.size) hfn (rec := rec) (fun st pe => by rw [hrec]) hL1 (by omega) hseq (Below.then hb0 hbB) hps I Ix hI hG hIx (hI _ _ _ h0 hbB) a₁
      (fun W => W.heap[w.heap.size]? = some (.deferred (some []))) (fun W W' h hb => (hb.block _ (by omega)).trans h) (fun W W' h hs => (hs.2 _ (Nat.le_refl _) (Array.getElem?_eq_some_iff.1 h).1).trans h) (fun W o h => (World.putObj_heap_other (by omega)).trans h) hK1
      (hassign _) (fun pre x W hr hle => hbody _ pre x W hr (by omega) (by omega)) (fun xs W h1 h2 h3 => hdone _ xs W (Nat.le_refl _) h1 h2 h3) (fun c pre W h1 h2 h3 => hstop _ c pre W (Nat.le_refl _) h1 h2 h3)
/-- a loop in the body of a loop -/
theorem range_low_in {α : Type} {g : Operand} {ps : Array Tmp} {assign body : Code} {Q : Exit → Act → World → Prop} {a : Act} {w : World}
    {l₀ : Nat} {r₀ : Loop} (hro : F.round = some l₀) (hl₀ : w.heap[l₀]? = some (.loop r₀)) (h1 : 1 ≤ n) {gf : Nat} {lb : Array Value} (hg : a.eval g = .func (.func gf) #[] lb) (hFg : F.fn gf) (eg : ∀ args w, (callFunc gf args).run P w = .ok (.enter gf args) w)
    {encs : α → Array Value} {S Sp : List α → Prop} {Nx : List α → α → Prop} {Gd : World → Prop} {w0 : World} (hseq : SeqLow F (n - 1) P gf lb encs S Sp Nx Gd w0) (hb0 : Below w0.heap.size w0 w) (hps : ∀ x, (encs x).size = ps.size)
    (I : List α → World → Prop) (Ix : Code → List α → World → Prop) (hI : Low w.heap.size I) (hG : ∀ pre W, I pre W → Gd W) (hIx : ∀ c, Low w.heap.size (Ix c)) (h0 : I [] w) (a₁ : α → Act)
    (hassign : ∀ (l : Nat) (x : α) (W : World) (K : Act → World → Prop), K (a₁ x) W →
      assign.wpIn (F.inRound l) (n - 1 - 1) P (Exit.then K (fun _ _ _ => False)) { tmps := (ps.zip (encs x)).foldl (fun t (p, v) => t.setIfInBounds p v) a.tmps, defers := [] } W)
    (hbody : ∀ (l : Nat) (pre : List α) (x : α) (W : World), w.heap.size + 1 ≤ W.heap.size → I pre W → Nx pre x → body.wpIn (F.inRound l) (n - 1 - 1) P (lowPost w.heap.size I Ix (pre ++ [x]) W) (a₁ x) W)
    (hdone : ∀ (xs : List α) (W : World), S xs → I xs W → Q .normal a W)
    (hstop : ∀ (c : Code) (pre : List α) (W : World), Sp pre → Ix c pre W → c.wpIn F n P Q a W) :
    (Code.rangeFunc g ps assign body).wpIn F n P Q a w := by
  refine wpIn_rangeFunc ?_
  intro fn hfn
  rw [hro]
  obtain ⟨rec, hrec⟩ : ∃ rec : LoopState → Option Code → Loop, rec = fun st pe => { state := st, pending := pe, fn, tmps := a.tmps, params := ps, assign, body, defers := r₀.defers } := ⟨_, rfl⟩
  have hsz : (w.alloc (.loop (rec .ready none))).heap.size = w.heap.size + 1 := by simp
  have hbB : Below w.heap.size w (w.alloc (.loop (rec .ready none))) := (Below.refl _ w).alloc (Nat.le_refl _) _
  have hL1 : (w.alloc (.loop (rec .ready none))).heap[w.heap.size]? = some (.loop (rec .ready none)) := World.alloc_heap_new w _
  refine ⟨w.heap.size, [], w.alloc (.loop (rec .ready none)), { target := .fn (.func gf) lb, args := #[.func (.yield w.heap.size) #[] #[]] }, w.alloc (.loop (rec .ready none)), gf,
    #[.func (.yield w.heap.size) #[] #[]] ++ lb, w.alloc (.loop (rec .ready none)), ?_, ?_, ?_, ?_, fun _ => h1, ?_⟩
  · rw [hrec]; exact run_enterLoop_inner hl₀ _ _ _ _ _
  · simp only [resolve, hg]
    simp [go_sem]
  · intro f' hf'; simp [Target.leads] at hf'; subst hf'; exact hFg
  · simp [invoke, go_sem, eg]
  · generalize World.alloc _ (.loop _) = W1 at hsz hbB hL1 ⊢
    exact rounds_low (B := w.heap.size) hfn (rec := rec) (fun st pe => by rw [hrec]) hL1 (Nat.le_refl _) hseq (Below.then hb0 hbB) hps I Ix hI hG hIx (hI _ _ _ h0 hbB) a₁
      (fun W => True) (fun W W' h hb => trivial) (fun W W' h hs => trivial) (fun W o h => trivial) trivial
      (hassign _) (fun pre x W hr hle => hbody _ pre x W (by omega)) (fun xs W h1 h2 h3 => hdone xs W h1 h2) (fun c pre W h1 h2 h3 => hstop c pre W h1 h2)
end
end Go.Proofs.YtakmaedimelaaaaDoor
