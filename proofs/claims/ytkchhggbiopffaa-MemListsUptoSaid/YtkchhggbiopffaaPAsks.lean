/- What is proved here: the contract of the law's own asks: a call that changes nothing answers as the reference does. Conditions: a memory and a reference memory of the same bytes. -/
import Derived.Test.YtkchhggbiopffaaPRead
namespace Go.Proofs.Ytkchhggbiopffaa
set_option linter.unusedVariables false
set_option linter.unusedSimpArgs false
open Go.RowKit Pm
/-- a memory and a reference memory of the same bytes -/
structure Pair (w : World) (p q r : Nat) (L : List UInt8) (n : Nat) (V : Value) (A : List ActV) : Prop where
  mem : MemAt w p q L n
  ref : RefAt w r V A (L.take n)
section
variable {w w' : World} {p q r : Nat} {L : List UInt8} {n : Nat} {V : Value} {A : List ActV}
theorem Pair.len (h : Pair w p q r L n V A) : (L.take n).length = n := by rw [List.length_take]; exact Nat.min_eq_left h.mem.le
theorem Pair.keep (h : Pair w p q r L n V A) (hb : Below w.heap.size w w') : Pair w' p q r L n V A := ⟨h.mem.keep hb, h.ref.keep hb⟩
theorem Pair.alloc (h : Pair w p q r L n V A) (o : Obj) : Pair (w.alloc o) p q r L n V A := ⟨h.mem.alloc o, h.ref.alloc o⟩
theorem Pair.drew (h : Pair w p q r L n V A) : Pair w.drew p q r L n V A := ⟨h.mem.drew, h.ref.drew⟩
theorem Pair.drewN (h : Pair w p q r L n V A) (m : Nat) : Pair (w.drewN m) p q r L n V A := ⟨h.mem.drewN m, h.ref.drewN m⟩
theorem Pair.r0 (h : Pair w p q r L n V A) : w.cell? ⟨r, 0, none⟩ = some (.int .i64 n) := by have := h.ref.c0; rwa [h.len] at this
theorem Pair.n_le (h : Pair w p q r L n V A) : n ≤ 134217728 := Nat.le_trans h.mem.le h.mem.cap
end
theorem span_take (L : List UInt8) (n x k : Nat) (h : x + k ≤ n) : ((L.take n).drop x).take k = (L.drop x).take k := by
  rw [List.drop_take, List.take_take, Nat.min_eq_left (by omega)]
/-- a call's own arguments -/
def opv (kd mm a b nn : Int) (v : Nat) (P : Value) : Array Value := #[.int .i64 kd, .int .i64 mm, .int .i64 a, .int .i64 b, .int .i64 nn, .int .u64 v, P]
theorem conv_nil (w : World) : (convert 27 9 (.slice none 0 0)).run Try.prog w = .ok (.string ByteArray.empty) w := by kernel_rfl
theorem conv_told (w : World) (v : Value) (X : List UInt8) (S : ByteArray) (h : Told w v X) (hS : S.data.toList = X) : (convert 27 9 v).run Try.prog w = .ok (.string S) w := by
  rcases h with ⟨rfl, rfl⟩ | ⟨g, cap, rfl, hc⟩
  · have e : S = ByteArray.empty := by
      obtain ⟨⟨l⟩⟩ := S
      have : l = [] := hS
      subst this; rfl
    rw [e]; exact conv_nil w
  · have h := run_convert_bytes_arg (P := Try.prog) w 27 5 Try.underlying27 Try.underlying5 g 0 X.length cap (X.map fun b => (b.toNat : Int)) (by simp) (fun i hi => by
      rw [Nat.zero_add, hc i X[i] (List.getElem?_eq_getElem (by omega))]
      simp [List.getD, List.getElem?_eq_getElem (show i < X.length by omega)]) 9 Try.underlying9
    rw [h]
    have e : strOfNums (X.map fun b => (b.toNat : Int)) = S := by
      unfold strOfNums
      subst hS
      obtain ⟨⟨l⟩⟩ := S
      have e2 : ((fun n : Int => UInt8.ofNat n.toNat) ∘ fun b : UInt8 => (b.toNat : Int)) = id := by funext b; simp
      simp only [List.map_map, e2, List.map_id]
    rw [e]
section
variable {w : World} {p q r : Nat} {L : List UInt8} {n : Nat} {V : Value} {A : List ActV}
theorem asks_load_width (h : Pair w p q r L n V A) (mm a b nn : Int) (v : Nat) (P : Value) (hk : ¬ (nn = 1 ∨ nn = 2 ∨ nn = 4 ∨ nn = 8)) : Calls Try.prog 38 #[.pointer (some ⟨p, 0, none⟩), .pointer (some ⟨r, 0, none⟩), .agg (opv 3 mm a b nn v P)] w fun e w' => e = .returned (.bool true) ∧ Below w.heap.size w w' := by
  have hB : Below w.heap.size w (w.alloc (.cells (opv 3 mm a b nn v P) 59)) := (Below.refl _ _).alloc (Nat.le_refl _) _
  have h1 := h.alloc (.cells (opv 3 mm a b nn v P) 59)
  go_enter Try.func38, Try.ntmps38
  unfold opv at h1 hB ⊢
  replace hB := Lib.hid hB
  replace h1 := Lib.hid h1
  replace h := Lib.hid h
  go_wp2_with fail
  refine (load_width h1.out.mem a nn hk).mono ?_
  rintro e w' ⟨rfl, rfl⟩
  go_wp2_with fail
  refine (rload_width a nn hk).mono ?_
  rintro e w' ⟨rfl, rfl⟩
  go_wp2_with fail
  go_ret
  exact ⟨ret_bool (by simp), hB.out⟩
theorem asks_load_out (h : Pair w p q r L n V A) (mm a b nn : Int) (v : Nat) (P : Value) (hk : nn = 1 ∨ nn = 2 ∨ nn = 4 ∨ nn = 8) (hi : insF n a nn = false) : Calls Try.prog 38 #[.pointer (some ⟨p, 0, none⟩), .pointer (some ⟨r, 0, none⟩), .agg (opv 3 mm a b nn v P)] w fun e w' => e = .returned (.bool true) ∧ Below w.heap.size w w' := by
  replace hk := Lib.hid hk
  replace hi := Lib.hid hi
  have hB : Below w.heap.size w (w.alloc (.cells (opv 3 mm a b nn v P) 59)) := (Below.refl _ _).alloc (Nat.le_refl _) _
  have h1 := h.alloc (.cells (opv 3 mm a b nn v P) 59)
  go_enter Try.func38, Try.ntmps38
  unfold opv at h1 hB ⊢
  replace hB := Lib.hid hB
  replace h1 := Lib.hid h1
  replace h := Lib.hid h
  go_wp2_with fail
  refine (load_out h1.out.mem a nn hk.out hi.out).mono ?_
  rintro e w' ⟨rfl, rfl⟩
  go_wp2_with fail
  refine (rload_out h1.out.ref a nn hk.out (by rw [h1.out.len]; exact hi.out)).mono ?_
  rintro e w' ⟨rfl, rfl⟩
  go_wp2_with fail
  go_ret
  exact ⟨ret_bool (by simp), hB.out⟩
theorem asks_load_in (h : Pair w p q r L n V A) (mm b : Int) (a nn : Nat) (v : Nat) (P : Value) (hk : nn = 1 ∨ nn = 2 ∨ nn = 4 ∨ nn = 8) (hf : a + nn ≤ n) : Calls Try.prog 38 #[.pointer (some ⟨p, 0, none⟩), .pointer (some ⟨r, 0, none⟩), .agg (opv 3 mm a b nn v P)] w fun e w' => e = .returned (.bool true) ∧ Below w.heap.size w w' := by
  replace hk := Lib.hid hk
  obtain ⟨x, hx⟩ : ∃ x, Hid (leN ((L.drop a).take nn) = x) := ⟨_, rfl⟩
  have hx2 : Hid (leN (((L.take n).drop a).take nn) = x) := by unfold Hid; rw [span_take L n a nn hf]; exact hx.out
  have hB : Below w.heap.size w (w.alloc (.cells (opv 3 mm a b nn v P) 59)) := (Below.refl _ _).alloc (Nat.le_refl _) _
  have h1 := h.alloc (.cells (opv 3 mm a b nn v P) 59)
  have c1 := load_in h1.mem a nn hk.out hf
  have c2 := rload_in h1.ref a nn hk.out (by rw [h1.len]; exact hf)
  rw [hx.out] at c1
  rw [hx2.out] at c2
  go_enter Try.func38, Try.ntmps38
  unfold opv at c1 c2 hB ⊢
  replace c1 := Lib.hid c1
  replace c2 := Lib.hid c2
  clear h1
  replace hB := Lib.hid hB
  replace h := Lib.hid h
  go_wp2_with fail
  refine c1.out.mono ?_
  rintro e w' ⟨rfl, rfl⟩
  go_wp2_with fail
  refine c2.out.mono ?_
  rintro e w2 ⟨rfl, hb2⟩
  have hB2 := Lib.hid (Below.then hB.out hb2)
  go_wp2_with fail
  go_ret
  exact ⟨ret_bool (by simp), hB2.out⟩
theorem asks_equal_out (h : Pair w p q r L n V A) (mm a b nn : Int) (v : Nat) (P : Value) (hi : insF n a nn = false ∨ insF n b nn = false) : Calls Try.prog 38 #[.pointer (some ⟨p, 0, none⟩), .pointer (some ⟨r, 0, none⟩), .agg (opv 7 mm a b nn v P)] w fun e w' => e = .returned (.bool true) ∧ Below w.heap.size w w' := by
  replace hi := Lib.hid hi
  have hB : Below w.heap.size w (w.alloc (.cells (opv 7 mm a b nn v P) 59)) := (Below.refl _ _).alloc (Nat.le_refl _) _
  have h1 := h.alloc (.cells (opv 7 mm a b nn v P) 59)
  go_enter Try.func38, Try.ntmps38
  unfold opv at h1 hB ⊢
  replace hB := Lib.hid hB
  replace h1 := Lib.hid h1
  replace h := Lib.hid h
  go_wp2_with fail
  refine (equal_out h1.out.mem a b nn hi.out).mono ?_
  rintro e w' ⟨rfl, rfl⟩
  go_wp2_with fail
  refine (requal_out h1.out.ref a b nn (by rw [h1.out.len]; exact hi.out)).mono ?_
  rintro e w' ⟨rfl, rfl⟩
  go_wp2_with fail
  go_ret
  exact ⟨ret_bool (by simp), hB.out⟩
theorem asks_equal_in (h : Pair w p q r L n V A) (mm : Int) (a b nn : Nat) (v : Nat) (P : Value) (hd : a + nn ≤ n) (hs : b + nn ≤ n) : Calls Try.prog 38 #[.pointer (some ⟨p, 0, none⟩), .pointer (some ⟨r, 0, none⟩), .agg (opv 7 mm a b nn v P)] w fun e w' => e = .returned (.bool true) ∧ Below w.heap.size w w' := by
  obtain ⟨x, hx⟩ : ∃ x, Hid (decide ((L.drop a).take nn = (L.drop b).take nn) = x) := ⟨_, rfl⟩
  have hB : Below w.heap.size w (w.alloc (.cells (opv 7 mm a b nn v P) 59)) := (Below.refl _ _).alloc (Nat.le_refl _) _
  have h1 := h.alloc (.cells (opv 7 mm a b nn v P) 59)
  have c1 := equal_in h1.mem a b nn hd hs
  have c2 := fun m => requal_in (h1.drewN m).ref a b nn (by rw [h1.len]; exact hd) (by rw [h1.len]; exact hs)
  simp only [span_take L n a nn hd, span_take L n b nn hs] at c2
  rw [hx.out] at c1
  simp only [hx.out] at c2
  go_enter Try.func38, Try.ntmps38
  unfold opv at c1 c2 hB ⊢
  replace c1 := Lib.hid c1
  replace c2 := Lib.hid c2
  clear h1
  replace hB := Lib.hid hB
  replace h := Lib.hid h
  go_wp2_with fail
  refine c1.out.mono ?_
  rintro e w' ⟨rfl, m, rfl⟩
  go_wp2_with fail
  refine (c2.out m).mono ?_
  rintro e w2 ⟨rfl, hb2⟩
  have hB2 := Lib.hid (Below.then (below_drewN hB.out m) hb2)
  go_wp2_with fail
  go_ret
  exact ⟨ret_bool (by simp), hB2.out⟩
theorem asks_read_out (h : Pair w p q r L n V A) (kd : Int) (mm a b nn : Int) (v : Nat) (P : Value) (hk1 : kd ≠ 1) (hk3 : kd ≠ 3) (hk7 : kd ≠ 7) (hi : insF n a nn = false) : Calls Try.prog 38 #[.pointer (some ⟨p, 0, none⟩), .pointer (some ⟨r, 0, none⟩), .agg (opv kd mm a b nn v P)] w fun e w' => e = .returned (.bool true) ∧ Below w.heap.size w w' := by
  replace hi := Lib.hid hi
  have k1 : (kd == 1) = false := by simp [hk1]
  have k3 : (kd == 3) = false := by simp [hk3]
  have k7 : (kd == 7) = false := by simp [hk7]
  clear hk1 hk3 hk7
  have hB : Below w.heap.size w (w.alloc (.cells (opv kd mm a b nn v P) 59)) := (Below.refl _ _).alloc (Nat.le_refl _) _
  have h1 := h.alloc (.cells (opv kd mm a b nn v P) 59)
  go_enter Try.func38, Try.ntmps38
  unfold opv at h1 hB ⊢
  replace hB := Lib.hid hB
  replace h1 := Lib.hid h1
  replace h := Lib.hid h
  go_wp2_with fail
  refine (read_out h1.out.mem a nn hi.out).mono ?_
  rintro e w' ⟨rfl, rfl⟩
  go_wp2_with fail
  refine (rread_out h1.out.ref a nn (by rw [h1.out.len]; exact hi.out)).mono ?_
  rintro e w' ⟨rfl, rfl⟩
  have hnil := fun (w : World) => Lib.run_eql_slice_nil (P := Try.prog) w 27 5 none 0 0 0 0 Try.underlying27
  have cn := conv_nil (w.alloc (.cells #[.int .i64 kd, .int .i64 mm, .int .i64 a, .int .i64 b, .int .i64 nn, .int .u64 v, P] 59))
  go_wp2_with fail
  go_ret
  exact ⟨ret_bool (by simp), hB.out⟩
theorem asks_read_in (h : Pair w p q r L n V A) (kd : Int) (mm b : Int) (a nn : Nat) (v : Nat) (P : Value) (hk1 : kd ≠ 1) (hk3 : kd ≠ 3) (hk7 : kd ≠ 7) (hf : a + nn ≤ n) : Calls Try.prog 38 #[.pointer (some ⟨p, 0, none⟩), .pointer (some ⟨r, 0, none⟩), .agg (opv kd mm a b nn v P)] w fun e w' => e = .returned (.bool true) ∧ Below w.heap.size w w' := by
  have k1 : (kd == 1) = false := by simp [hk1]
  have k3 : (kd == 3) = false := by simp [hk3]
  have k7 : (kd == 7) = false := by simp [hk7]
  clear hk1 hk3 hk7
  have hB : Below w.heap.size w (w.alloc (.cells (opv kd mm a b nn v P) 59)) := (Below.refl _ _).alloc (Nat.le_refl _) _
  have h1 := h.alloc (.cells (opv kd mm a b nn v P) 59)
  have c1 := read_in h1.mem a nn hf
  obtain ⟨X, hX⟩ : ∃ X, (L.drop a).take nn = X := ⟨_, rfl⟩
  have hXl : X.length = nn := by rw [← hX]; have := h.mem.le; simp; omega
  have c2 := fun (w2 : World) (hb : Below (w.alloc (.cells (opv kd mm a b nn v P) 59)).heap.size (w.alloc (.cells (opv kd mm a b nn v P) 59)) w2) => rread_in (h1.keep hb).ref a nn (by rw [h1.len]; exact hf)
  simp only [span_take L n a nn hf] at c2
  rw [hX] at c1
  simp only [hX] at c2
  clear hX
  go_enter Try.func38, Try.ntmps38
  unfold opv at c1 c2 hB ⊢
  replace c1 := Lib.hid c1
  replace c2 := Lib.hid c2
  replace hXl := Lib.hid hXl
  clear h1
  replace hB := Lib.hid hB
  replace h := Lib.hid h
  have hO := Lib.hid (Blk.new w #[.int .i64 kd, .int .i64 mm, .int .i64 a, .int .i64 b, .int .i64 nn, .int .u64 v, P] 59)
  go_wp2_with fail
  refine c1.out.mono ?_
  rintro e w1 ⟨rfl, hb1, hB1⟩
  obtain ⟨g, hg⟩ : ∃ g, Hid (g = (w.alloc (.cells #[.int .i64 kd, .int .i64 mm, .int .i64 a, .int .i64 b, .int .i64 nn, .int .u64 v, P] 59)).heap.size) := ⟨_, rfl⟩
  rw [← hg.out] at hb1
  rw [← hg.out]
  have c3 := Lib.hid (c2.out w1 hB1)
  have hB1' := Lib.hid (Below.then hB.out hB1)
  have o2 := (hO.out.keep hB1).cell 2
  have o4 := (hO.out.keep hB1).cell 4
  replace hb1 := Lib.hid hb1
  clear hB1
  go_wp2_with fail
  refine c3.out.mono ?_
  rintro e w2 ⟨u, rfl, hb2, hu⟩
  have hB2 := Lib.hid (Below.then hB1'.out hb2)
  have cx := conv_bytes w2 g nn nn X ⟨X.toArray⟩ (by simp) hXl.out (hb1.out.keep hb2)
  have cy := conv_told w2 u X ⟨X.toArray⟩ hu (by simp)
  clear hu hb2
  go_wp2_with fail
  go_ret
  exact ⟨ret_bool (by simp), hB2.out⟩
theorem asks_len (h : Pair w p q r L n V A) (mm a b nn : Int) (v : Nat) (P : Value) : Calls Try.prog 38 #[.pointer (some ⟨p, 0, none⟩), .pointer (some ⟨r, 0, none⟩), .agg (opv 1 mm a b nn v P)] w fun e w' => e = .returned (.bool true) ∧ Below w.heap.size w w' := by
  have hB : Below w.heap.size w (w.alloc (.cells (opv 1 mm a b nn v P) 59)) := (Below.refl _ _).alloc (Nat.le_refl _) _
  have h1 := h.alloc (.cells (opv 1 mm a b nn v P) 59)
  go_enter Try.func38, Try.ntmps38
  unfold opv at h1 hB ⊢
  have r0 := h1.r0
  replace hB := Lib.hid hB
  replace h1 := Lib.hid h1
  replace h := Lib.hid h
  go_wp2_with fail
  go_region_held3 (fun w' => w'.cell? ⟨r, 0, none⟩ = some (.int .i64 n)) (first | exact r0 | exact h1.out.drew.r0 | assumption | go_keep) ((first | (go_at_call 14; (with_reducible refine (len_any h1.out.drew.mem).mono ?_); rintro e w' ⟨rfl, rfl⟩)))
  all_goals
    go_wp2_with fail
    go_ret
    exact ⟨ret_bool (by simp), by first | exact hB.out | exact hB.out.drew⟩
theorem asks_any (h : Pair w p q r L n V A) (kd mm a b nn : Int) (v : Nat) (P : Value) : Calls Try.prog 38 #[.pointer (some ⟨p, 0, none⟩), .pointer (some ⟨r, 0, none⟩), .agg (opv kd mm a b nn v P)] w fun e w' => e = .returned (.bool true) ∧ Below w.heap.size w w' := by
  by_cases k1 : kd = 1
  · subst k1; exact asks_len h mm a b nn v P
  by_cases k3 : kd = 3
  · subst k3
    by_cases hk : nn = 1 ∨ nn = 2 ∨ nn = 4 ∨ nn = 8
    · cases hi : insF n a nn with
      | false => exact asks_load_out h mm a b nn v P hk hi
      | true =>
        obtain ⟨h1, h2, h3⟩ := (insF_iff _ _ _).1 hi
        obtain ⟨a', rfl⟩ := Int.eq_ofNat_of_zero_le h1
        obtain ⟨nn', rfl⟩ := Int.eq_ofNat_of_zero_le h2
        exact asks_load_in h mm b a' nn' v P (by omega) (by omega)
    · exact asks_load_width h mm a b nn v P hk
  by_cases k7 : kd = 7
  · subst k7
    by_cases hi : insF n a nn = false ∨ insF n b nn = false
    · exact asks_equal_out h mm a b nn v P hi
    · have ha : insF n a nn = true := by cases e : insF n a nn; exact absurd (Or.inl e) hi; rfl
      have hb : insF n b nn = true := by cases e : insF n b nn; exact absurd (Or.inr e) hi; rfl
      obtain ⟨h1, h2, h3⟩ := (insF_iff _ _ _).1 ha
      obtain ⟨h4, _, h6⟩ := (insF_iff _ _ _).1 hb
      obtain ⟨a', rfl⟩ := Int.eq_ofNat_of_zero_le h1
      obtain ⟨nn', rfl⟩ := Int.eq_ofNat_of_zero_le h2
      obtain ⟨b', rfl⟩ := Int.eq_ofNat_of_zero_le h4
      exact asks_equal_in h mm a' b' nn' v P (by omega) (by omega)
  cases hi : insF n a nn with
  | false => exact asks_read_out h kd mm a b nn v P k1 k3 k7 hi
  | true =>
    obtain ⟨h1, h2, h3⟩ := (insF_iff _ _ _).1 hi
    obtain ⟨a', rfl⟩ := Int.eq_ofNat_of_zero_le h1
    obtain ⟨nn', rfl⟩ := Int.eq_ofNat_of_zero_le h2
    exact asks_read_in h kd mm b a' nn' v P k1 k3 k7 (by omega)
end
end Go.Proofs.Ytkchhggbiopffaa
