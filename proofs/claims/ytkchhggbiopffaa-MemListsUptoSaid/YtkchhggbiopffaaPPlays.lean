/- What is proved here: the contract of the law's own plays, but for Write: the memory and the reference memory answer alike and hold the same bytes behind the call. Conditions: a memory and a reference memory of the same bytes. -/
import Derived.Test.YtkchhggbiopffaaPAsks
namespace Go.Proofs.Ytkchhggbiopffaa
set_option linter.unusedVariables false
set_option linter.unusedSimpArgs false
open Go.RowKit Pm
theorem blk_apart {w : World} {a b : Nat} {cs ds : Array Value} {s t : TypeId} (h : Blk w a cs s) (k : Blk w b ds t) (hst : s ≠ t) : a ≠ b := by
  rintro rfl
  unfold Blk at h k
  rw [h] at k
  injection k with k
  injection k with _ h4 _
  exact hst h4
theorem row_apart {w : World} {a : Nat} {cs : Array Value} {s e : TypeId} {base size n : Nat} {V : Value} {xs : List Value} (h : Blk w a cs s) (k : w.ownsRow base e size V n xs) (hst : s ≠ e) (g : Nat) (hg : V.ownBlock = some g) : g ≠ a := by
  rintro rfl
  rcases k.2 with ⟨rfl, _⟩ | ⟨g', cap, cur, rfl, h1, h2, h3⟩
  · cases hg
  · obtain rfl : g' = g := by simpa [Value.ownBlock] using hg
    unfold Blk at h
    rw [h] at h2
    injection h2 with h2
    injection h2 with _ h4 _
    exact hst h4
/-- a call of the law's own plays that has answered true -/
def Played (w : World) (p q r : Nat) (V : Value) (A : List ActV) (e : Ending) (w' : World) : Prop :=
  ∃ q' L' n' V' A', e = .returned (.bool true) ∧ Pair w' p q' r L' n' V' A' ∧ A'.length ≤ A.length + 1 ∧ Turns (p :: q :: r :: V.ownBlock.toList) w w' ∧ (q' = q ∨ w.heap.size ≤ q') ∧ MovedTo w V V'
section
variable {w w' w1 : World} {p q r : Nat} {L : List UInt8} {n : Nat} {V : Value} {A : List ActV}
theorem Pair.rp (h : Pair w p q r L n V A) : r ≠ p := blk_apart h.ref.ptr h.mem.ptr (by decide)
theorem Pair.rq (h : Pair w p q r L n V A) : r ≠ q := blk_apart h.ref.ptr h.mem.dat (by decide)
theorem Pair.vp (h : Pair w p q r L n V A) (g : Nat) (hg : V.ownBlock = some g) : g ≠ p := row_apart h.mem.ptr h.ref.row (by decide) g hg
theorem Pair.vq (h : Pair w p q r L n V A) (g : Nat) (hg : V.ownBlock = some g) : g ≠ q := row_apart h.mem.dat h.ref.row (by decide) g hg
theorem Pair.vr (h : Pair w p q r L n V A) (g : Nat) (hg : V.ownBlock = some g) : g ≠ r := row_apart h.ref.ptr h.ref.row (by decide) g hg
/-- the memory's own call: the reference is as it was -/
theorem Pair.refs {S : List Nat} (h : Pair w p q r L n V A) (ht : Turns S w w1) (hS : ∀ x, x ∈ S → x = p ∨ x = q) : RefAt w1 r V A (L.take n) :=
  h.ref.turn ht (fun hx => by rcases hS _ hx with e | e; exact h.rp e; exact h.rq e) (fun g hg hx => by rcases hS _ hx with e | e; exact h.vp g hg e; exact h.vq g hg e)
/-- the call's own arguments, in a block of the call's own -/
theorem opblk {w : World} {ob : Nat} {kd mm a b nn : Int} {v : Nat} {P : Value} (h : Blk w ob #[.int .i64 kd, .int .i64 mm, .int .i64 a, .int .i64 b, .int .i64 nn, .int .u64 v, P] 59) :
    w.cell? ⟨ob, 0, none⟩ = some (.int .i64 kd) ∧ w.cell? ⟨ob, 2, none⟩ = some (.int .i64 a) ∧ w.cell? ⟨ob, 3, none⟩ = some (.int .i64 b) ∧ w.cell? ⟨ob, 4, none⟩ = some (.int .i64 nn) ∧ w.cell? ⟨ob, 5, none⟩ = some (.int .u64 v) ∧ w.cell? ⟨ob, 6, none⟩ = some P :=
  ⟨h.cell 0, h.cell 2, h.cell 3, h.cell 4, h.cell 5, h.cell 6⟩
theorem grow_to (h : MemAt w p q L n) (size : Nat) (h1 : n ≤ size) (h2 : size ≤ 134217728) : Calls Try.prog 26 #[.pointer (some ⟨p, 0, none⟩), .int .i64 size] w fun e w' =>
    ∃ q' L', e = .returned (.int .i64 0) ∧ MemAt w' p q' L' size ∧ L'.take size = L.take n ++ List.replicate (size - n) 0 ∧ Turns [p, q] w w' ∧ (q' = q ∨ w.heap.size ≤ q') := by
  by_cases hc : size ≤ L.length
  · refine (grow_room h size h1 hc).mono ?_
    rintro e w' ⟨rfl, hm, ht⟩
    refine ⟨q, L, rfl, hm, ?_, ht, Or.inl rfl⟩
    have hz := zero_splice h size h1 hc
    apply List.ext_getElem?
    intro i
    have hl : (L.take n).length = n := by rw [List.length_take]; exact Nat.min_eq_left h.le
    rw [List.getElem?_take]
    by_cases hi : i < n
    · rw [if_pos (by omega), List.getElem?_append_left (by rw [hl]; exact hi), List.getElem?_take, if_pos hi]
    · rw [List.getElem?_append_right (by rw [hl]; omega), List.getElem?_replicate, hl]
      by_cases hi2 : i < size
      · rw [if_pos hi2, if_pos (by omega)]; exact h.zer i (by omega) (by omega)
      · rw [if_neg hi2, if_neg (by omega)]
  · refine (grow_new h size (by omega) h2).mono ?_
    rintro e w' ⟨rfl, L', hm, hl, ht⟩
    exact ⟨w.heap.size, L', rfl, hm, hl, ht.more (fun x hx => Or.inl (by simp at hx; simp [hx])), Or.inr (Nat.le_refl _)⟩
theorem take_splice (L cs : List UInt8) (n off : Nat) (hn : n ≤ L.length) (hf : off + cs.length ≤ n) : (splice L off cs).take n = splice (L.take n) off cs := by
  apply List.ext_getElem?
  intro i
  have hl : (L.take n).length = n := by rw [List.length_take]; exact Nat.min_eq_left hn
  rw [List.getElem?_take, splice_get? _ _ _ (by omega), splice_get? _ _ _ (by omega), List.getElem?_take]
  by_cases h1 : i < n
  · rw [if_pos h1, if_pos h1]
  · rw [if_neg h1, if_neg (show ¬ (off ≤ i ∧ i < off + cs.length) by omega), if_neg h1]
set_option maxHeartbeats 1000000 in
set_option maxRecDepth 100000 in
theorem plays_grow_no (h : Pair w p q r L n V A) (mm a b nn : Int) (v : Nat) (P : Value) (hb : a < n ∨ 134217728 < a) : Calls Try.prog 31 #[.pointer (some ⟨p, 0, none⟩), .pointer (some ⟨r, 0, none⟩), .agg (opv 2 mm a b nn v P)] w (Played w p q r V A) := by
  replace hb := Lib.hid hb
  have hT0 : Turns (p :: q :: r :: V.ownBlock.toList) w (w.alloc (.cells (opv 2 mm a b nn v P) 59)) := (Turns.refl _ _).alloc _
  have hsz : (w.alloc (.cells (opv 2 mm a b nn v P) 59)).heap.size = w.heap.size + 1 := by simp
  have hX := h.alloc (.cells (opv 2 mm a b nn v P) 59)
  have hO := Blk.new w (opv 2 mm a b nn v P) 59
  have op : w.heap.size ≠ p := by have := h.mem.ptr.lt; omega
  have oq : w.heap.size ≠ q := by have := h.mem.dat.lt; omega
  have or' : w.heap.size ≠ r := by have := h.ref.ptr.lt; omega
  have ov : ∀ g, V.ownBlock = some g → w.heap.size ≠ g := fun g hg => by have := row_lt h.ref.row g hg; omega
  obtain ⟨ob, hob⟩ : ∃ ob, Hid (ob = w.heap.size) := ⟨_, rfl⟩
  rw [← hob.out] at hO op oq or' ov
  replace h := Lib.hid h
  go_enter Try.func31, Try.ntmps31
  unfold opv at hT0 hX hO hsz ⊢
  go_upto_region 8 with (fail)
  rw [← hob.out]
  generalize World.alloc w _ = wz at hX hO hT0 hsz ⊢
  replace hX := hX.drew
  replace hT0 := Lib.hid hT0
  replace hX := Lib.hid hX
  replace op := Lib.hid op
  replace oq := Lib.hid oq
  replace or' := Lib.hid or'
  replace ov := Lib.hid ov
  replace hsz := Lib.hid hsz
  obtain ⟨_, q2, q3, q4, q5, q6⟩ := opblk hO
  go_region_held3 (fun w' => w'.cell? ⟨ob, 0, none⟩ = some (.int .i64 2) ∧ w'.cell? ⟨ob, 2, none⟩ = some (.int .i64 a) ∧ w'.cell? ⟨ob, 3, none⟩ = some (.int .i64 b) ∧ w'.cell? ⟨ob, 4, none⟩ = some (.int .i64 nn) ∧ w'.cell? ⟨ob, 5, none⟩ = some (.int .u64 v) ∧ w'.cell? ⟨ob, 6, none⟩ = some P)
    (first | exact opblk hO | exact opblk hO.drew | exact ⟨by assumption, by assumption, by assumption, by assumption, by assumption, by assumption⟩ | go_keep)
    ((first
      | (go_at_call 26; (with_reducible refine (grow_no hX.out.mem a hb.out).mono ?_); rintro e w' ⟨rfl, rfl⟩)
      | (go_at_call 39; (with_reducible refine (rgrow_no hX.out.ref a (by rw [hX.out.len]; exact hb.out)).mono ?_); rintro e w' ⟨rfl, rfl⟩)))
  all_goals
    go_wp2_with fail
    go_ret
    exact ⟨q, L, n, V, A, congrArg _ (by simp), hX.out, by omega, hT0.out.drew, Or.inl rfl, MovedTo.refl _ _⟩
set_option maxHeartbeats 1000000 in
set_option maxRecDepth 100000 in
theorem plays_store_width (h : Pair w p q r L n V A) (mm a b nn : Int) (v : Nat) (P : Value) (hk : ¬ (nn = 1 ∨ nn = 2 ∨ nn = 4 ∨ nn = 8)) : Calls Try.prog 31 #[.pointer (some ⟨p, 0, none⟩), .pointer (some ⟨r, 0, none⟩), .agg (opv 4 mm a b nn v P)] w (Played w p q r V A) := by
  replace hk := Lib.hid hk
  have hT0 : Turns (p :: q :: r :: V.ownBlock.toList) w (w.alloc (.cells (opv 4 mm a b nn v P) 59)) := (Turns.refl _ _).alloc _
  have hsz : (w.alloc (.cells (opv 4 mm a b nn v P) 59)).heap.size = w.heap.size + 1 := by simp
  have hX := h.alloc (.cells (opv 4 mm a b nn v P) 59)
  have hO := Blk.new w (opv 4 mm a b nn v P) 59
  have op : w.heap.size ≠ p := by have := h.mem.ptr.lt; omega
  have oq : w.heap.size ≠ q := by have := h.mem.dat.lt; omega
  have or' : w.heap.size ≠ r := by have := h.ref.ptr.lt; omega
  have ov : ∀ g, V.ownBlock = some g → w.heap.size ≠ g := fun g hg => by have := row_lt h.ref.row g hg; omega
  obtain ⟨ob, hob⟩ : ∃ ob, Hid (ob = w.heap.size) := ⟨_, rfl⟩
  rw [← hob.out] at hO op oq or' ov
  replace h := Lib.hid h
  go_enter Try.func31, Try.ntmps31
  unfold opv at hT0 hX hO hsz ⊢
  go_upto_region 10 with (fail)
  rw [← hob.out]
  generalize World.alloc w _ = wz at hX hO hT0 hsz ⊢
  replace hX := hX.drew
  replace hT0 := Lib.hid hT0
  replace hX := Lib.hid hX
  replace op := Lib.hid op
  replace oq := Lib.hid oq
  replace or' := Lib.hid or'
  replace ov := Lib.hid ov
  replace hsz := Lib.hid hsz
  obtain ⟨_, q2, q3, q4, q5, q6⟩ := opblk hO
  go_region_held3 (fun w' => w'.cell? ⟨ob, 0, none⟩ = some (.int .i64 4) ∧ w'.cell? ⟨ob, 2, none⟩ = some (.int .i64 a) ∧ w'.cell? ⟨ob, 3, none⟩ = some (.int .i64 b) ∧ w'.cell? ⟨ob, 4, none⟩ = some (.int .i64 nn) ∧ w'.cell? ⟨ob, 5, none⟩ = some (.int .u64 v) ∧ w'.cell? ⟨ob, 6, none⟩ = some P)
    (first | exact opblk hO | exact opblk hO.drew | exact ⟨by assumption, by assumption, by assumption, by assumption, by assumption, by assumption⟩ | go_keep)
    ((first
      | (go_at_call 27; (with_reducible refine (store_width hX.out.mem a nn v hk.out).mono ?_); rintro e w' ⟨rfl, rfl⟩)
      | (go_at_call 40; (with_reducible refine (rstore_width a nn v hk.out).mono ?_); rintro e w' ⟨rfl, rfl⟩)))
  all_goals
    go_wp2_with fail
    go_ret
    exact ⟨q, L, n, V, A, congrArg _ (by simp), hX.out, by omega, hT0.out.drew, Or.inl rfl, MovedTo.refl _ _⟩
set_option maxHeartbeats 1000000 in
set_option maxRecDepth 100000 in
theorem plays_store_out (h : Pair w p q r L n V A) (mm a b nn : Int) (v : Nat) (P : Value) (hk : nn = 1 ∨ nn = 2 ∨ nn = 4 ∨ nn = 8) (hi : insF n a nn = false) : Calls Try.prog 31 #[.pointer (some ⟨p, 0, none⟩), .pointer (some ⟨r, 0, none⟩), .agg (opv 4 mm a b nn v P)] w (Played w p q r V A) := by
  replace hk := Lib.hid hk
  replace hi := Lib.hid hi
  have hT0 : Turns (p :: q :: r :: V.ownBlock.toList) w (w.alloc (.cells (opv 4 mm a b nn v P) 59)) := (Turns.refl _ _).alloc _
  have hsz : (w.alloc (.cells (opv 4 mm a b nn v P) 59)).heap.size = w.heap.size + 1 := by simp
  have hX := h.alloc (.cells (opv 4 mm a b nn v P) 59)
  have hO := Blk.new w (opv 4 mm a b nn v P) 59
  have op : w.heap.size ≠ p := by have := h.mem.ptr.lt; omega
  have oq : w.heap.size ≠ q := by have := h.mem.dat.lt; omega
  have or' : w.heap.size ≠ r := by have := h.ref.ptr.lt; omega
  have ov : ∀ g, V.ownBlock = some g → w.heap.size ≠ g := fun g hg => by have := row_lt h.ref.row g hg; omega
  obtain ⟨ob, hob⟩ : ∃ ob, Hid (ob = w.heap.size) := ⟨_, rfl⟩
  rw [← hob.out] at hO op oq or' ov
  replace h := Lib.hid h
  go_enter Try.func31, Try.ntmps31
  unfold opv at hT0 hX hO hsz ⊢
  go_upto_region 10 with (fail)
  rw [← hob.out]
  generalize World.alloc w _ = wz at hX hO hT0 hsz ⊢
  replace hX := hX.drew
  replace hT0 := Lib.hid hT0
  replace hX := Lib.hid hX
  replace op := Lib.hid op
  replace oq := Lib.hid oq
  replace or' := Lib.hid or'
  replace ov := Lib.hid ov
  replace hsz := Lib.hid hsz
  obtain ⟨_, q2, q3, q4, q5, q6⟩ := opblk hO
  go_region_held3 (fun w' => w'.cell? ⟨ob, 0, none⟩ = some (.int .i64 4) ∧ w'.cell? ⟨ob, 2, none⟩ = some (.int .i64 a) ∧ w'.cell? ⟨ob, 3, none⟩ = some (.int .i64 b) ∧ w'.cell? ⟨ob, 4, none⟩ = some (.int .i64 nn) ∧ w'.cell? ⟨ob, 5, none⟩ = some (.int .u64 v) ∧ w'.cell? ⟨ob, 6, none⟩ = some P)
    (first | exact opblk hO | exact opblk hO.drew | exact ⟨by assumption, by assumption, by assumption, by assumption, by assumption, by assumption⟩ | go_keep)
    ((first
      | (go_at_call 27; (with_reducible refine (store_out hX.out.mem a nn v hk.out hi.out).mono ?_); rintro e w' ⟨rfl, rfl⟩)
      | (go_at_call 40; (with_reducible refine (rstore_out hX.out.ref a nn v hk.out (by rw [hX.out.len]; exact hi.out)).mono ?_); rintro e w' ⟨rfl, rfl⟩)))
  all_goals
    go_wp2_with fail
    go_ret
    exact ⟨q, L, n, V, A, congrArg _ (by simp), hX.out, by omega, hT0.out.drew, Or.inl rfl, MovedTo.refl _ _⟩
set_option maxHeartbeats 1000000 in
set_option maxRecDepth 100000 in
theorem plays_store_in (h : Pair w p q r L n V A) (mm b : Int) (a nn : Nat) (v : Nat) (P : Value) (hk : nn = 1 ∨ nn = 2 ∨ nn = 4 ∨ nn = 8) (hf : a + nn ≤ n) (hv : v < 2 ^ 64) (hA : A.length ≤ 100000000000) : Calls Try.prog 31 #[.pointer (some ⟨p, 0, none⟩), .pointer (some ⟨r, 0, none⟩), .agg (opv 4 mm a b nn v P)] w (Played w p q r V A) := by
  replace hk := Lib.hid hk
  have hfit : Hid (a + (leB nn v).length ≤ n) := by unfold Hid; rw [leB_len]; exact hf
  have hle := Lib.hid h.mem.le
  have hT0 : Turns (p :: q :: r :: V.ownBlock.toList) w (w.alloc (.cells (opv 4 mm a b nn v P) 59)) := (Turns.refl _ _).alloc _
  have hsz : (w.alloc (.cells (opv 4 mm a b nn v P) 59)).heap.size = w.heap.size + 1 := by simp
  have hX := h.alloc (.cells (opv 4 mm a b nn v P) 59)
  have hO := Blk.new w (opv 4 mm a b nn v P) 59
  have op : w.heap.size ≠ p := by have := h.mem.ptr.lt; omega
  have oq : w.heap.size ≠ q := by have := h.mem.dat.lt; omega
  have or' : w.heap.size ≠ r := by have := h.ref.ptr.lt; omega
  have ov : ∀ g, V.ownBlock = some g → w.heap.size ≠ g := fun g hg => by have := row_lt h.ref.row g hg; omega
  obtain ⟨ob, hob⟩ : ∃ ob, Hid (ob = w.heap.size) := ⟨_, rfl⟩
  rw [← hob.out] at hO op oq or' ov
  replace h := Lib.hid h
  go_enter Try.func31, Try.ntmps31
  unfold opv at hT0 hX hO hsz ⊢
  go_upto_region 10 with (fail)
  rw [← hob.out]
  generalize World.alloc w _ = wz at hX hO hT0 hsz ⊢
  replace hX := hX.drew
  replace hT0 := Lib.hid hT0
  replace hX := Lib.hid hX
  replace op := Lib.hid op
  replace oq := Lib.hid oq
  replace or' := Lib.hid or'
  replace ov := Lib.hid ov
  replace hsz := Lib.hid hsz
  obtain ⟨_, q2, q3, q4, q5, q6⟩ := opblk hO
  go_region_held3 (fun w' => w'.cell? ⟨ob, 0, none⟩ = some (.int .i64 4) ∧ w'.cell? ⟨ob, 2, none⟩ = some (.int .i64 a) ∧ w'.cell? ⟨ob, 3, none⟩ = some (.int .i64 b) ∧ w'.cell? ⟨ob, 4, none⟩ = some (.int .i64 nn) ∧ w'.cell? ⟨ob, 5, none⟩ = some (.int .u64 v) ∧ w'.cell? ⟨ob, 6, none⟩ = some P)
    (first | exact opblk hO | exact opblk hO.drew | exact ⟨by assumption, by assumption, by assumption, by assumption, by assumption, by assumption⟩ | go_keep)
    ((first
      | (go_at_call 27; (with_reducible refine (store_in hX.out.mem a nn v hk.out hf hv).mono ?_); rintro e w1 ⟨rfl, hm1, ht1⟩; have hR1 := Lib.hid (hX.out.refs ht1 (fun x hx => by simp at hx; simp [hx])); replace hO := (hO.drew).turn ht1 (by simp; first | exact oq.out | exact ⟨op.out, oq.out⟩); have hT1 := Lib.hid ((hT0.out.drew).trans (ht1.more (S' := p :: q :: r :: V.ownBlock.toList) (fun x hx => Or.inl (by simp at hx; simp [hx])))); have hs1 := Lib.hid ht1.size)
      | (go_at_call 40; (with_reducible refine (rstore_in hR1.out a nn v hk.out (by rw [hX.out.len]; exact hf) hv hA).mono ?_); rintro e w2 hw; obtain ⟨V', A', rfl, hR2, hl2, ht2, hmv⟩ := hw; replace hO := hO.turn ht2 (by simp only [List.mem_cons, Option.mem_toList]; rintro (e | e); exact or'.out e; exact ov.out _ e rfl))))
  all_goals
    go_wp2_with fail
    go_ret
    refine ⟨q, splice L a (leB nn v), n, V', A', congrArg _ (by simp), ⟨hm1.turn ht2 ?_ ?_, by rw [take_splice _ _ _ _ hle.out (by simpa using hfit.out)]; exact hR2⟩, by omega, hT1.out.trans (ht2.more (fun x hx => Or.inl (by simp at hx ⊢; exact Or.inr (Or.inr hx)))), Or.inl rfl, ?_⟩
    · simp only [List.mem_cons, Option.mem_toList]
      rintro (e | e)
      · exact h.out.rp e.symm
      · exact h.out.vp _ e rfl
    · simp only [List.mem_cons, Option.mem_toList]
      rintro (e | e)
      · exact h.out.rq e.symm
      · exact h.out.vq _ e rfl
    · rcases hmv with hmv | ⟨k, hk, hk2⟩
      · exact Or.inl hmv
      · exact Or.inr ⟨k, hk, by have := hs1.out; have := hsz.out; simp at *; omega⟩
set_option maxHeartbeats 1000000 in
set_option maxRecDepth 100000 in
theorem plays_fill_out (h : Pair w p q r L n V A) (mm a b nn : Int) (v : Nat) (P : Value) (hi : insF n a nn = false) : Calls Try.prog 31 #[.pointer (some ⟨p, 0, none⟩), .pointer (some ⟨r, 0, none⟩), .agg (opv 5 mm a b nn v P)] w (Played w p q r V A) := by
  replace hi := Lib.hid hi
  obtain ⟨c, hc⟩ : ∃ c : UInt8, c = UInt8.ofNat v := ⟨_, rfl⟩
  have hcn : c.toNat = v % 256 := by rw [hc]; simp
  have f1 : IntKind.u8.wrap (v : Int) = (c.toNat : Int) := by rw [hcn]; simp [IntKind.wrap, IntKind.signed, IntKind.bits]
  clear hc hcn
  have hT0 : Turns (p :: q :: r :: V.ownBlock.toList) w (w.alloc (.cells (opv 5 mm a b nn v P) 59)) := (Turns.refl _ _).alloc _
  have hsz : (w.alloc (.cells (opv 5 mm a b nn v P) 59)).heap.size = w.heap.size + 1 := by simp
  have hX := h.alloc (.cells (opv 5 mm a b nn v P) 59)
  have hO := Blk.new w (opv 5 mm a b nn v P) 59
  have op : w.heap.size ≠ p := by have := h.mem.ptr.lt; omega
  have oq : w.heap.size ≠ q := by have := h.mem.dat.lt; omega
  have or' : w.heap.size ≠ r := by have := h.ref.ptr.lt; omega
  have ov : ∀ g, V.ownBlock = some g → w.heap.size ≠ g := fun g hg => by have := row_lt h.ref.row g hg; omega
  obtain ⟨ob, hob⟩ : ∃ ob, Hid (ob = w.heap.size) := ⟨_, rfl⟩
  rw [← hob.out] at hO op oq or' ov
  replace h := Lib.hid h
  go_enter Try.func31, Try.ntmps31
  unfold opv at hT0 hX hO hsz ⊢
  go_upto_region 12 with (fail)
  rw [← hob.out]
  generalize World.alloc w _ = wz at hX hO hT0 hsz ⊢
  replace hX := hX.drew
  replace hT0 := Lib.hid hT0
  replace hX := Lib.hid hX
  replace op := Lib.hid op
  replace oq := Lib.hid oq
  replace or' := Lib.hid or'
  replace ov := Lib.hid ov
  replace hsz := Lib.hid hsz
  obtain ⟨_, q2, q3, q4, q5, q6⟩ := opblk hO
  go_region_held3 (fun w' => w'.cell? ⟨ob, 0, none⟩ = some (.int .i64 5) ∧ w'.cell? ⟨ob, 2, none⟩ = some (.int .i64 a) ∧ w'.cell? ⟨ob, 3, none⟩ = some (.int .i64 b) ∧ w'.cell? ⟨ob, 4, none⟩ = some (.int .i64 nn) ∧ w'.cell? ⟨ob, 5, none⟩ = some (.int .u64 v) ∧ w'.cell? ⟨ob, 6, none⟩ = some P)
    (first | exact opblk hO | exact opblk hO.drew | exact ⟨by assumption, by assumption, by assumption, by assumption, by assumption, by assumption⟩ | go_keep)
    ((first
      | (go_at_call 24; (with_reducible refine (fill_out hX.out.mem a nn _ hi.out).mono ?_); rintro e w' ⟨rfl, rfl⟩)
      | (go_at_call 41; (with_reducible refine (rfill_out hX.out.ref a nn _ (by rw [hX.out.len]; exact hi.out)).mono ?_); rintro e w' ⟨rfl, rfl⟩)))
  all_goals
    go_wp2_with fail
    go_ret
    exact ⟨q, L, n, V, A, congrArg _ (by simp), hX.out, by omega, hT0.out.drew, Or.inl rfl, MovedTo.refl _ _⟩
set_option maxHeartbeats 1000000 in
set_option maxRecDepth 100000 in
theorem plays_fill_in (h : Pair w p q r L n V A) (mm b : Int) (a nn : Nat) (v : Nat) (P : Value) (hf : a + nn ≤ n) (hA : A.length ≤ 100000000000) : Calls Try.prog 31 #[.pointer (some ⟨p, 0, none⟩), .pointer (some ⟨r, 0, none⟩), .agg (opv 5 mm a b nn v P)] w (Played w p q r V A) := by
  obtain ⟨c, hc⟩ : ∃ c : UInt8, c = UInt8.ofNat v := ⟨_, rfl⟩
  have hcn : c.toNat = v % 256 := by rw [hc]; simp
  have f1 : IntKind.u8.wrap (v : Int) = (c.toNat : Int) := by rw [hcn]; simp [IntKind.wrap, IntKind.signed, IntKind.bits]
  clear hc hcn
  have hfit : Hid (a + (List.replicate nn c).length ≤ n) := by unfold Hid; rw [List.length_replicate]; exact hf
  have hle := Lib.hid h.mem.le
  have hT0 : Turns (p :: q :: r :: V.ownBlock.toList) w (w.alloc (.cells (opv 5 mm a b nn v P) 59)) := (Turns.refl _ _).alloc _
  have hsz : (w.alloc (.cells (opv 5 mm a b nn v P) 59)).heap.size = w.heap.size + 1 := by simp
  have hX := h.alloc (.cells (opv 5 mm a b nn v P) 59)
  have hO := Blk.new w (opv 5 mm a b nn v P) 59
  have op : w.heap.size ≠ p := by have := h.mem.ptr.lt; omega
  have oq : w.heap.size ≠ q := by have := h.mem.dat.lt; omega
  have or' : w.heap.size ≠ r := by have := h.ref.ptr.lt; omega
  have ov : ∀ g, V.ownBlock = some g → w.heap.size ≠ g := fun g hg => by have := row_lt h.ref.row g hg; omega
  obtain ⟨ob, hob⟩ : ∃ ob, Hid (ob = w.heap.size) := ⟨_, rfl⟩
  rw [← hob.out] at hO op oq or' ov
  replace h := Lib.hid h
  go_enter Try.func31, Try.ntmps31
  unfold opv at hT0 hX hO hsz ⊢
  go_upto_region 12 with (fail)
  rw [← hob.out]
  generalize World.alloc w _ = wz at hX hO hT0 hsz ⊢
  replace hX := hX.drew
  replace hT0 := Lib.hid hT0
  replace hX := Lib.hid hX
  replace op := Lib.hid op
  replace oq := Lib.hid oq
  replace or' := Lib.hid or'
  replace ov := Lib.hid ov
  replace hsz := Lib.hid hsz
  obtain ⟨_, q2, q3, q4, q5, q6⟩ := opblk hO
  go_region_held3 (fun w' => w'.cell? ⟨ob, 0, none⟩ = some (.int .i64 5) ∧ w'.cell? ⟨ob, 2, none⟩ = some (.int .i64 a) ∧ w'.cell? ⟨ob, 3, none⟩ = some (.int .i64 b) ∧ w'.cell? ⟨ob, 4, none⟩ = some (.int .i64 nn) ∧ w'.cell? ⟨ob, 5, none⟩ = some (.int .u64 v) ∧ w'.cell? ⟨ob, 6, none⟩ = some P)
    (first | exact opblk hO | exact opblk hO.drew | exact ⟨by assumption, by assumption, by assumption, by assumption, by assumption, by assumption⟩ | go_keep)
    ((first
      | (go_at_call 24; (with_reducible refine (fill_in hX.out.mem a nn c hf).mono ?_); rintro e w1 ⟨rfl, hm1, ht1⟩; have hR1 := Lib.hid (hX.out.refs ht1 (fun x hx => by simp at hx; simp [hx])); replace hO := (hO.drew).turn ht1 (by simp; first | exact oq.out | exact ⟨op.out, oq.out⟩); have hT1 := Lib.hid ((hT0.out.drew).trans (ht1.more (S' := p :: q :: r :: V.ownBlock.toList) (fun x hx => Or.inl (by simp at hx; simp [hx])))); have hs1 := Lib.hid ht1.size)
      | (go_at_call 41; (with_reducible refine (rfill_in hR1.out a nn c (by rw [hX.out.len]; exact hf) hA).mono ?_); rintro e w2 hw; obtain ⟨V', A', rfl, hR2, hl2, ht2, hmv⟩ := hw; replace hO := hO.turn ht2 (by simp only [List.mem_cons, Option.mem_toList]; rintro (e | e); exact or'.out e; exact ov.out _ e rfl))))
  all_goals
    go_wp2_with fail
    go_ret
    refine ⟨q, splice L a (List.replicate nn c), n, V', A', congrArg _ (by simp), ⟨hm1.turn ht2 ?_ ?_, by rw [take_splice _ _ _ _ hle.out (by simpa using hfit.out)]; exact hR2⟩, by omega, hT1.out.trans (ht2.more (fun x hx => Or.inl (by simp at hx ⊢; exact Or.inr (Or.inr hx)))), Or.inl rfl, ?_⟩
    · simp only [List.mem_cons, Option.mem_toList]
      rintro (e | e)
      · exact h.out.rp e.symm
      · exact h.out.vp _ e rfl
    · simp only [List.mem_cons, Option.mem_toList]
      rintro (e | e)
      · exact h.out.rq e.symm
      · exact h.out.vq _ e rfl
    · rcases hmv with hmv | ⟨k, hk, hk2⟩
      · exact Or.inl hmv
      · exact Or.inr ⟨k, hk, by have := hs1.out; have := hsz.out; simp at *; omega⟩
set_option maxHeartbeats 1000000 in
set_option maxRecDepth 100000 in
theorem plays_copy_out (h : Pair w p q r L n V A) (mm a b nn : Int) (v : Nat) (P : Value) (hi : insF n a nn = false ∨ insF n b nn = false) : Calls Try.prog 31 #[.pointer (some ⟨p, 0, none⟩), .pointer (some ⟨r, 0, none⟩), .agg (opv 6 mm a b nn v P)] w (Played w p q r V A) := by
  replace hi := Lib.hid hi
  have hT0 : Turns (p :: q :: r :: V.ownBlock.toList) w (w.alloc (.cells (opv 6 mm a b nn v P) 59)) := (Turns.refl _ _).alloc _
  have hsz : (w.alloc (.cells (opv 6 mm a b nn v P) 59)).heap.size = w.heap.size + 1 := by simp
  have hX := h.alloc (.cells (opv 6 mm a b nn v P) 59)
  have hO := Blk.new w (opv 6 mm a b nn v P) 59
  have op : w.heap.size ≠ p := by have := h.mem.ptr.lt; omega
  have oq : w.heap.size ≠ q := by have := h.mem.dat.lt; omega
  have or' : w.heap.size ≠ r := by have := h.ref.ptr.lt; omega
  have ov : ∀ g, V.ownBlock = some g → w.heap.size ≠ g := fun g hg => by have := row_lt h.ref.row g hg; omega
  obtain ⟨ob, hob⟩ : ∃ ob, Hid (ob = w.heap.size) := ⟨_, rfl⟩
  rw [← hob.out] at hO op oq or' ov
  replace h := Lib.hid h
  go_enter Try.func31, Try.ntmps31
  unfold opv at hT0 hX hO hsz ⊢
  go_upto_region 14 with (fail)
  rw [← hob.out]
  generalize World.alloc w _ = wz at hX hO hT0 hsz ⊢
  replace hX := hX.drew
  replace hT0 := Lib.hid hT0
  replace hX := Lib.hid hX
  replace op := Lib.hid op
  replace oq := Lib.hid oq
  replace or' := Lib.hid or'
  replace ov := Lib.hid ov
  replace hsz := Lib.hid hsz
  obtain ⟨_, q2, q3, q4, q5, q6⟩ := opblk hO
  go_region_held3 (fun w' => w'.cell? ⟨ob, 0, none⟩ = some (.int .i64 6) ∧ w'.cell? ⟨ob, 2, none⟩ = some (.int .i64 a) ∧ w'.cell? ⟨ob, 3, none⟩ = some (.int .i64 b) ∧ w'.cell? ⟨ob, 4, none⟩ = some (.int .i64 nn) ∧ w'.cell? ⟨ob, 5, none⟩ = some (.int .u64 v) ∧ w'.cell? ⟨ob, 6, none⟩ = some P)
    (first | exact opblk hO | exact opblk hO.drew | exact ⟨by assumption, by assumption, by assumption, by assumption, by assumption, by assumption⟩ | go_keep)
    ((first
      | (go_at_call 21; (with_reducible refine (copy_out hX.out.mem a b nn hi.out).mono ?_); rintro e w' ⟨rfl, rfl⟩)
      | (go_at_call 42; (with_reducible refine (rcopy_out hX.out.ref a b nn (by rw [hX.out.len]; exact hi.out)).mono ?_); rintro e w' ⟨rfl, rfl⟩)))
  all_goals
    go_wp2_with fail
    go_ret
    exact ⟨q, L, n, V, A, congrArg _ (by simp), hX.out, by omega, hT0.out.drew, Or.inl rfl, MovedTo.refl _ _⟩
set_option maxHeartbeats 1000000 in
set_option maxRecDepth 100000 in
theorem plays_copy_in (h : Pair w p q r L n V A) (mm : Int) (a b nn : Nat) (v : Nat) (P : Value) (hf : a + nn ≤ n) (hs : b + nn ≤ n) (hA : A.length ≤ 100000000000) : Calls Try.prog 31 #[.pointer (some ⟨p, 0, none⟩), .pointer (some ⟨r, 0, none⟩), .agg (opv 6 mm a b nn v P)] w (Played w p q r V A) := by
  have hle := Lib.hid h.mem.le
  have hfit : Hid (a + ((L.drop b).take nn).length ≤ n) := by unfold Hid; have := h.mem.le; simp; omega
  have hsp := Lib.hid (span_take L n b nn hs)
  have hT0 : Turns (p :: q :: r :: V.ownBlock.toList) w (w.alloc (.cells (opv 6 mm a b nn v P) 59)) := (Turns.refl _ _).alloc _
  have hsz : (w.alloc (.cells (opv 6 mm a b nn v P) 59)).heap.size = w.heap.size + 1 := by simp
  have hX := h.alloc (.cells (opv 6 mm a b nn v P) 59)
  have hO := Blk.new w (opv 6 mm a b nn v P) 59
  have op : w.heap.size ≠ p := by have := h.mem.ptr.lt; omega
  have oq : w.heap.size ≠ q := by have := h.mem.dat.lt; omega
  have or' : w.heap.size ≠ r := by have := h.ref.ptr.lt; omega
  have ov : ∀ g, V.ownBlock = some g → w.heap.size ≠ g := fun g hg => by have := row_lt h.ref.row g hg; omega
  obtain ⟨ob, hob⟩ : ∃ ob, Hid (ob = w.heap.size) := ⟨_, rfl⟩
  rw [← hob.out] at hO op oq or' ov
  replace h := Lib.hid h
  go_enter Try.func31, Try.ntmps31
  unfold opv at hT0 hX hO hsz ⊢
  go_upto_region 14 with (fail)
  rw [← hob.out]
  generalize World.alloc w _ = wz at hX hO hT0 hsz ⊢
  replace hX := hX.drew
  replace hT0 := Lib.hid hT0
  replace hX := Lib.hid hX
  replace op := Lib.hid op
  replace oq := Lib.hid oq
  replace or' := Lib.hid or'
  replace ov := Lib.hid ov
  replace hsz := Lib.hid hsz
  obtain ⟨_, q2, q3, q4, q5, q6⟩ := opblk hO
  go_region_held3 (fun w' => w'.cell? ⟨ob, 0, none⟩ = some (.int .i64 6) ∧ w'.cell? ⟨ob, 2, none⟩ = some (.int .i64 a) ∧ w'.cell? ⟨ob, 3, none⟩ = some (.int .i64 b) ∧ w'.cell? ⟨ob, 4, none⟩ = some (.int .i64 nn) ∧ w'.cell? ⟨ob, 5, none⟩ = some (.int .u64 v) ∧ w'.cell? ⟨ob, 6, none⟩ = some P)
    (first | exact opblk hO | exact opblk hO.drew | exact ⟨by assumption, by assumption, by assumption, by assumption, by assumption, by assumption⟩ | go_keep)
    ((first
      | (go_at_call 21; (with_reducible refine (copy_in hX.out.mem a b nn hf hs).mono ?_); rintro e w1 ⟨rfl, hm1, ht1⟩; have hR1 := Lib.hid (hX.out.refs ht1 (fun x hx => by simp at hx; simp [hx])); replace hO := (hO.drew).turn ht1 (by simp; first | exact oq.out | exact ⟨op.out, oq.out⟩); have hT1 := Lib.hid ((hT0.out.drew).trans (ht1.more (S' := p :: q :: r :: V.ownBlock.toList) (fun x hx => Or.inl (by simp at hx; simp [hx])))); have hs1 := Lib.hid ht1.size)
      | (go_at_call 42; (with_reducible refine (rcopy_in hR1.out a b nn (by rw [hX.out.len]; exact hf) (by rw [hX.out.len]; exact hs) hA).mono ?_); rintro e w2 hw; rw [hsp.out] at hw; obtain ⟨V', A', rfl, hR2, hl2, ht2, hmv⟩ := hw; replace hO := hO.turn ht2 (by simp only [List.mem_cons, Option.mem_toList]; rintro (e | e); exact or'.out e; exact ov.out _ e rfl))))
  all_goals
    go_wp2_with fail
    go_ret
    refine ⟨q, splice L a ((L.drop b).take nn), n, V', A', congrArg _ (by simp), ⟨hm1.turn ht2 ?_ ?_, by rw [take_splice _ _ _ _ hle.out (by simpa using hfit.out)]; exact hR2⟩, by omega, hT1.out.trans (ht2.more (fun x hx => Or.inl (by simp at hx ⊢; exact Or.inr (Or.inr hx)))), Or.inl rfl, ?_⟩
    · simp only [List.mem_cons, Option.mem_toList]
      rintro (e | e)
      · exact h.out.rp e.symm
      · exact h.out.vp _ e rfl
    · simp only [List.mem_cons, Option.mem_toList]
      rintro (e | e)
      · exact h.out.rq e.symm
      · exact h.out.vq _ e rfl
    · rcases hmv with hmv | ⟨k, hk, hk2⟩
      · exact Or.inl hmv
      · exact Or.inr ⟨k, hk, by have := hs1.out; have := hsz.out; simp at *; omega⟩
set_option maxHeartbeats 1000000 in
set_option maxRecDepth 100000 in
theorem plays_grow_yes (h : Pair w p q r L n V A) (mm b nn : Int) (a : Nat) (v : Nat) (P : Value) (h1 : n ≤ a) (h2 : a ≤ 134217728) : Calls Try.prog 31 #[.pointer (some ⟨p, 0, none⟩), .pointer (some ⟨r, 0, none⟩), .agg (opv 2 mm a b nn v P)] w (Played w p q r V A) := by
  have hT0 : Turns (p :: q :: r :: V.ownBlock.toList) w (w.alloc (.cells (opv 2 mm a b nn v P) 59)) := (Turns.refl _ _).alloc _
  have hsz : (w.alloc (.cells (opv 2 mm a b nn v P) 59)).heap.size = w.heap.size + 1 := by simp
  have hX := h.alloc (.cells (opv 2 mm a b nn v P) 59)
  have hO := Blk.new w (opv 2 mm a b nn v P) 59
  have op : w.heap.size ≠ p := by have := h.mem.ptr.lt; omega
  have oq : w.heap.size ≠ q := by have := h.mem.dat.lt; omega
  have or' : w.heap.size ≠ r := by have := h.ref.ptr.lt; omega
  have ov : ∀ g, V.ownBlock = some g → w.heap.size ≠ g := fun g hg => by have := row_lt h.ref.row g hg; omega
  obtain ⟨ob, hob⟩ : ∃ ob, Hid (ob = w.heap.size) := ⟨_, rfl⟩
  rw [← hob.out] at hO op oq or' ov
  replace h := Lib.hid h
  go_enter Try.func31, Try.ntmps31
  unfold opv at hT0 hX hO hsz ⊢
  go_upto_region 8 with (fail)
  rw [← hob.out]
  generalize World.alloc w _ = wz at hX hO hT0 hsz ⊢
  replace hX := hX.drew
  replace hT0 := Lib.hid hT0
  replace hX := Lib.hid hX
  replace op := Lib.hid op
  replace oq := Lib.hid oq
  replace or' := Lib.hid or'
  replace ov := Lib.hid ov
  replace hsz := Lib.hid hsz
  obtain ⟨_, q2, q3, q4, q5, q6⟩ := opblk hO
  go_region_held3 (fun w' => w'.cell? ⟨ob, 0, none⟩ = some (.int .i64 2) ∧ w'.cell? ⟨ob, 2, none⟩ = some (.int .i64 a) ∧ w'.cell? ⟨ob, 3, none⟩ = some (.int .i64 b) ∧ w'.cell? ⟨ob, 4, none⟩ = some (.int .i64 nn) ∧ w'.cell? ⟨ob, 5, none⟩ = some (.int .u64 v) ∧ w'.cell? ⟨ob, 6, none⟩ = some P)
    (first | exact opblk hO | exact opblk hO.drew | exact ⟨by assumption, by assumption, by assumption, by assumption, by assumption, by assumption⟩ | go_keep)
    ((first
      | (go_at_call 26; (with_reducible refine (grow_to hX.out.mem a h1 h2).mono ?_); rintro e w1 ⟨q', L', rfl, hm1, hl1, ht1, hq1⟩; have hR1 := Lib.hid (hX.out.refs ht1 (fun x hx => by simp at hx; simp [hx])); replace hO := (hO.drew).turn ht1 (by simp; exact ⟨op.out, oq.out⟩); have hT1 := Lib.hid ((hT0.out.drew).trans (ht1.more (S' := p :: q :: r :: V.ownBlock.toList) (fun x hx => Or.inl (by simp at hx; rcases hx with rfl | rfl <;> simp)))); have hs1 := Lib.hid ht1.size)
      | (go_at_call 39; (with_reducible refine (rgrow_yes hR1.out a (by rw [hX.out.len]; exact h1) h2).mono ?_); rintro e w2 ⟨rfl, hR2, ht2⟩; replace hO := hO.turn ht2 (by simp; exact or'.out))))
  all_goals
    go_wp2_with fail
    go_ret
    rw [hX.out.len, ← hl1] at hR2
    refine ⟨q', L', a, V, A, congrArg _ (by simp), ⟨hm1.turn ht2 (by simp; exact fun e => h.out.rp e.symm) ?_, hR2⟩, by omega, hT1.out.trans (ht2.more (fun x hx => Or.inl (by simp at hx; simp [hx]))), ?_, MovedTo.refl _ _⟩
    · simp
      intro e
      rcases hq1 with e2 | e2
      · exact h.out.rq (by rw [← e, e2])
      · have := h.out.ref.ptr.lt
        have := hsz.out
        simp at e2
        omega
    · rcases hq1 with e2 | e2
      · exact Or.inl e2
      · exact Or.inr (by have := hsz.out; simp at e2; omega)
set_option maxHeartbeats 1000000 in
set_option maxRecDepth 100000 in
theorem plays_ask (h : Pair w p q r L n V A) (kd mm a b nn : Int) (v : Nat) (P : Value) (hk : kd = 1 ∨ kd = 3 ∨ kd = 7 ∨ kd = 8) : Calls Try.prog 31 #[.pointer (some ⟨p, 0, none⟩), .pointer (some ⟨r, 0, none⟩), .agg (opv kd mm a b nn v P)] w fun e w' => e = .returned (.bool true) ∧ Below w.heap.size w w' := by
  have hT0 : Below w.heap.size w (w.alloc (.cells (opv kd mm a b nn v P) 59)) := (Below.refl _ _).alloc (Nat.le_refl _) _
  have hX := h.alloc (.cells (opv kd mm a b nn v P) 59)
  have c := asks_any hX kd mm a b nn v P
  replace h := Lib.hid h
  rcases hk with rfl | rfl | rfl | rfl
  all_goals
    go_enter Try.func31, Try.ntmps31
    unfold opv at hT0 hX c ⊢
    replace c := Lib.hid c
    replace hX := Lib.hid hX
    replace hT0 := Lib.hid hT0
    go_wp2_with fail
    refine c.out.mono ?_
    rintro e w2 ⟨rfl, hb2⟩
    have hT2 := Lib.hid (Below.then hT0.out hb2)
    go_wp2_with fail
    go_ret
    exact ⟨rfl, hT2.out⟩
theorem plays_asks (h : Pair w p q r L n V A) (kd mm a b nn : Int) (v : Nat) (P : Value) (hk : kd = 1 ∨ kd = 3 ∨ kd = 7 ∨ kd = 8) : Calls Try.prog 31 #[.pointer (some ⟨p, 0, none⟩), .pointer (some ⟨r, 0, none⟩), .agg (opv kd mm a b nn v P)] w (Played w p q r V A) :=
  (plays_ask h kd mm a b nn v P hk).mono (by rintro e w' ⟨rfl, hb⟩; exact ⟨q, L, n, V, A, rfl, h.keep hb, by omega, Turns.of_below hb, Or.inl rfl, MovedTo.refl _ _⟩)
set_option maxHeartbeats 1000000 in
set_option maxRecDepth 100000 in
theorem plays_other (h : Pair w p q r L n V A) (kd mm a b nn : Int) (v : Nat) (P : Value) (hk : kd < 1 ∨ 9 < kd) : Calls Try.prog 31 #[.pointer (some ⟨p, 0, none⟩), .pointer (some ⟨r, 0, none⟩), .agg (opv kd mm a b nn v P)] w (Played w p q r V A) := by
  have hT0 : Turns (p :: q :: r :: V.ownBlock.toList) w (w.alloc (.cells (opv kd mm a b nn v P) 59)) := (Turns.refl _ _).alloc _
  have hX := h.alloc (.cells (opv kd mm a b nn v P) 59)
  replace h := Lib.hid h
  have k1 : (kd == 1) = false := by simp; omega
  have k2 : (kd == 2) = false := by simp; omega
  have k3 : (kd == 3) = false := by simp; omega
  have k4 : (kd == 4) = false := by simp; omega
  have k5 : (kd == 5) = false := by simp; omega
  have k6 : (kd == 6) = false := by simp; omega
  have k7 : (kd == 7) = false := by simp; omega
  have k8 : (kd == 8) = false := by simp; omega
  have k9 : (kd == 9) = false := by simp; omega
  clear hk
  go_enter Try.func31, Try.ntmps31
  unfold opv at hT0 hX ⊢
  replace hX := Lib.hid hX
  replace hT0 := Lib.hid hT0
  go_wp2_with fail
  go_ret
  exact ⟨q, L, n, V, A, rfl, hX.out, by omega, hT0.out, Or.inl rfl, MovedTo.refl _ _⟩
end
end Go.Proofs.Ytkchhggbiopffaa
