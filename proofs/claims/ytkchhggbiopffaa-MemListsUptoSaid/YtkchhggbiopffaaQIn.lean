/- What is proved here: the contract of the law's own once at a Read in range. Conditions: a memory and a book apart from it. -/
import Derived.Test.YtkchhggbiopffaaQRead
namespace Go.Proofs.Ytkchhggbiopffaa
set_option linter.unusedVariables false
set_option linter.unusedSimpArgs false
open Go.RowKit Pm
section
variable {w0 w w' : World} {p q n : Nat} {L : List UInt8} {V : Value} {B : List PageV}
theorem below_turned {w1 w2 : World} {g : Nat} (hb : Below w.heap.size w w1) (ht : Turns [g] w1 w2) (hg : w.heap.size ≤ g) : Below w.heap.size w w2 := Turns.below hb ht (fun x hx => by simp at hx; omega) hb.size
def ReadIn (w0 : World) (p : Nat) (B : List PageV) (e : Ending) (w' : World) : Prop := ∃ (q' n' : Nat) (L' : List UInt8) (V' : Value) (B' : List PageV), e = .returned (.tuple #[V', .bool true]) ∧ Lst w0 w' p q' n' L' V' B' ∧ B'.length = B.length + 2
set_option maxHeartbeats 2000000 in
set_option maxRecDepth 100000 in
theorem once_read_in (h : Lst w0 w p q n L V B) (mm b : Int) (a nn : Nat) (v : Nat) (P : Value) (hf : a + nn ≤ n) (hl : B.length ≤ 100000000) :
    Calls Try.prog 28 #[.pointer (some ⟨p, 0, none⟩), .agg (opv 8 mm a b nn v P), V] w (ReadIn w0 p B) := by
  obtain ⟨A, cap, rfl⟩ := h.book.lit
  obtain ⟨ln, hln⟩ : ∃ ln, Hid (B.length = ln) := ⟨_, rfl⟩
  rw [hln.out] at hl
  have hX := h.keep ((Below.refl _ _).alloc (Nat.le_refl _) (.cells (opv 8 mm a b nn v P) 59))
  have hO := Blk.new w (opv 8 mm a b nn v P) 59
  obtain ⟨ob, hob⟩ : ∃ ob, Hid (ob = w.heap.size) := ⟨_, rfl⟩
  rw [← hob.out] at hO
  rw [hln.out] at hX ⊢
  have hn : n ≤ 9223372036854775807 := by have := h.mem.le; have := h.mem.cap; omega
  have hnn : nn ≤ 134217728 := by have := h.mem.le; have := h.mem.cap; omega
  have hi := Lib.hid ((insF_iff n a nn).2 ⟨by omega, by omega, by omega⟩)
  obtain ⟨X, hXe⟩ : ∃ X, Hid ((L.drop a).take nn = X) := ⟨_, rfl⟩
  have hXl : Hid (X.length = nn) := by unfold Hid; rw [← hXe.out, List.length_take, List.length_drop]; have := h.mem.le; omega
  obtain ⟨S, hS⟩ : ∃ S : ByteArray, Hid (S.data.toList = X) := ⟨⟨⟨X⟩⟩, rfl⟩
  obtain ⟨m, hm⟩ : ∃ m : UInt8, m = UInt8.ofNat (17 * ln + 5) := ⟨_, rfl⟩
  have hmn : m.toNat = (17 * ln + 5) % 256 := by rw [hm]; simp
  have f1 : ((17 : Int) * ln + 5) % 256 = (m.toNat : Int) := by rw [hmn]; omega
  obtain ⟨m2, hm2⟩ : ∃ m : UInt8, m = UInt8.ofNat (17 * (ln + 1) + 5) := ⟨_, rfl⟩
  have hmn2 : m2.toNat = (17 * (ln + 1) + 5) % 256 := by rw [hm2]; simp
  have f2 : ((17 : Int) * (ln + 1) + 5) % 256 = (m2.toNat : Int) := by rw [hmn2]; omega
  clear hm hmn hm2 hmn2
  replace f2 := Lib.hid f2
  replace h := Lib.hid h
  go_enter Try.func28, Try.ntmps28
  unfold opv at hX hO ⊢
  go_upto_region 1 with (fail)
  rw [← hob.out]
  generalize World.alloc w _ = wz at hX hO ⊢
  replace hX := Lib.hid hX
  replace hO := Lib.hid hO
  obtain ⟨q1, q2, q3, q4, q5, q6⟩ := opblk hO.out
  go_upto_region 14 with (go_at_call 15; (with_reducible refine (read_in hX.out.mem a nn hf).mono ?_); rintro e w1 ⟨rfl, hB1, hb1⟩; rw [hXe.out] at hB1; obtain ⟨q1, q2, q3, q4, q5, q6⟩ := opblk (hO.out.keep hb1); replace hB1 := Lib.hid hB1; replace hb1 := Lib.hid hb1)
  obtain ⟨g1, hg1⟩ : ∃ g, Hid (g = wz.heap.size) := ⟨_, rfl⟩
  rw [← hg1.out] at hB1
  rw [← hg1.out]
  replace hB1 := Lib.hid (hB1.out.keep (Below.refl _ _).drew)
  replace hb1 := Lib.hid hb1.out.drew
  have hX1 := Lib.hid (hX.out.keep hb1.out)
  have hO1 := Lib.hid (hO.out.keep hb1.out)
  go_region_held3 (fun w' => w'.cell? ⟨ob, 0, none⟩ = some (.int .i64 8) ∧ w'.cell? ⟨ob, 2, none⟩ = some (.int .i64 a) ∧ w'.cell? ⟨ob, 3, none⟩ = some (.int .i64 b) ∧ w'.cell? ⟨ob, 4, none⟩ = some (.int .i64 nn) ∧ w'.cell? ⟨ob, 5, none⟩ = some (.int .u64 v) ∧ w'.cell? ⟨ob, 6, none⟩ = some P)
    (first | exact opblk hO1.out | exact opblk hO1.out.drew | exact ⟨by assumption, by assumption, by assumption, by assumption, by assumption, by assumption⟩ | go_keep)
    ((first
      | (go_at_call 14; (first | with_reducible refine (len_any hX1.out.mem).mono ?_ | with_reducible refine (len_any hX1.out.mem.drew).mono ?_ | with_reducible refine (len_any (hX1.out.mem.drewN _)).mono ?_); rintro e w' ⟨rfl, rfl⟩)
      | (go_at_call 19; (with_reducible refine (lins_to n a nn true hi.out _ hn).mono ?_); rintro e w' ⟨rfl, rfl⟩)))
  go_upto_region 16 with (fail)
  generalize World.drew w1 = wy at hB1 hb1 hX1 hO1 ⊢
  obtain ⟨q1, q2, q3, q4, q5, q6⟩ := opblk hO1.out
  have y0 := conv_bytes wy g1 nn nn X S hS.out hXl.out hB1.out
  go_upto_region 21 with (fail)
  clear y0
  go_upto_region 22 with (first
    | (go_at_call 36
       (with_reducible refine (turned_any _ g1 nn m X hXl.out hB1.out hnn).mono ?_)
       rintro e w2 ht2
       obtain ⟨v1, v2, v3, rfl, htt, n1, n2, n3, hbk⟩ := ht2
       have hgg : wz.heap.size ≤ g1 := Nat.le_of_eq hg1.out.symm
       have hP2 := Lib.hid (hX.out.page hb1.out.size hgg hnn n1 n2 n3 hbk)
       have hb2 := Lib.hid (below_turned hb1.out htt hgg)
       obtain ⟨x1, c1, rfl, -, -, -⟩ := id n1
       obtain ⟨x2, c2, rfl, -, -, -⟩ := id n2
       obtain ⟨x3, c3, rfl, -, -, -⟩ := id n3
       simp only [marks_len] at hP2 ⊢
       clear n1 n2 n3 hbk htt)
    | ((with_reducible show wpList _ _ _ (⟨some 105, _, _, _, _, _⟩ :: _) _ _)
       have hX2 := Lib.hid (hX.out.keep hb2.out)
       have hX3 := Lib.hid (hX2.out.keep ((Below.refl _ _).alloc (Nat.le_refl _) (.cells #[.slice (some ⟨g1, 0, none⟩) nn nn, .slice (some ⟨x1, 0, none⟩) (nn + 1) c1, .slice (some ⟨x2, 0, none⟩) (nn + 2) c2, .slice (some ⟨x3, 0, none⟩) (nn + 3) c3, .int .u8 (m.toNat : Int)] 73)))
       have hP3 := Lib.hid (hP2.out.keep ((Below.refl _ _).alloc (Nat.le_refl _) (.cells #[.slice (some ⟨g1, 0, none⟩) nn nn, .slice (some ⟨x1, 0, none⟩) (nn + 1) c1, .slice (some ⟨x2, 0, none⟩) (nn + 2) c2, .slice (some ⟨x3, 0, none⟩) (nn + 3) c3, .int .u8 (m.toNat : Int)] 73)))
       have hO3 := Lib.hid ((hO.out.keep hb2.out).alloc (.cells #[.slice (some ⟨g1, 0, none⟩) nn nn, .slice (some ⟨x1, 0, none⟩) (nn + 1) c1, .slice (some ⟨x2, 0, none⟩) (nn + 2) c2, .slice (some ⟨x3, 0, none⟩) (nn + 3) c3, .int .u8 (m.toNat : Int)] 73))
       refine wpList_append_page rfl (.tmp 96) (.tmp 104) rfl (base := w0.heap.size) hX3.out.below.size (.slice A ln cap) ln (B.flatMap PageV.cells) rfl (by rw [← hln.out]; have := hX3.out.book.row; rw [hln.out] at this ⊢; exact this) w2.heap.size ⟨.slice (some ⟨g1, 0, none⟩) nn nn, .slice (some ⟨x1, 0, none⟩) (nn + 1) c1, .slice (some ⟨x2, 0, none⟩) (nn + 2) c2, .slice (some ⟨x3, 0, none⟩) (nn + 3) c3, m, nn⟩ rfl ?_ ?_ (by omega) ?_
       · intro u hu
         simp only [PageV.cells, List.mem_cons, List.not_mem_nil, or_false] at hu
         rcases hu with rfl | rfl | rfl | rfl | rfl <;> rfl
       · intro j u hu
         rw [(Blk.new w2 _ _).cell j, List.getElem?_toArray]
         exact hu
       intro v4 w4 hown hgr hmv
       have hX4 := Lib.hid (hX3.out.joined hP3.out (by rw [hln.out]; exact hown) hgr hmv)
       have hO4 := Lib.hid (hO3.out.turn (turns_of_grown hgr) (fun hx => row_apart hO3.out hX3.out.book.row (by decide) ob (by simpa using hx) rfl))
       clear hown hgr hmv hX2 hX3 hP3 hO3 hP2 hb2))
  obtain ⟨B4, hB4⟩ : ∃ B4, B4 = B ++ [(⟨.slice (some ⟨g1, 0, none⟩) nn nn, .slice (some ⟨x1, 0, none⟩) (nn + 1) c1, .slice (some ⟨x2, 0, none⟩) (nn + 2) c2, .slice (some ⟨x3, 0, none⟩) (nn + 3) c3, m, nn⟩ : PageV)] := ⟨_, rfl⟩
  have hl4 : Hid (B4.length = ln + 1) := by unfold Hid; rw [hB4, List.length_append, hln.out]; rfl
  rw [← hB4] at hX4
  clear hB4 hB1 hb1 hX1 hO1 hX hO q1 q2 q3 q4 q5 q6 f1
  obtain ⟨A4, cap4, rfl⟩ := hX4.out.book.lit
  rw [hl4.out] at hX4 ⊢
  replace f2 := f2.out
  obtain ⟨q1, q2, q3, q4, q5, q6⟩ := opblk hO4.out
  go_upto_region 23 with (go_at_call 15; (with_reducible refine (read_in hX4.out.mem a nn hf).mono ?_); rintro e w5 ⟨rfl, hB5, hb5⟩; rw [hXe.out] at hB5; obtain ⟨q1, q2, q3, q4, q5, q6⟩ := opblk (hO4.out.keep hb5); replace hB5 := Lib.hid hB5; replace hb5 := Lib.hid hb5)
  obtain ⟨g5, hg5⟩ : ∃ g, Hid (g = w4.heap.size) := ⟨_, rfl⟩
  rw [← hg5.out] at hB5
  rw [← hg5.out]
  have y0 := conv_bytes w5 g5 nn nn X S hS.out hXl.out hB5.out
  go_upto_region 25 with (fail)
  clear y0
  go_upto_region 26 with (first
    | (go_at_call 36
       (with_reducible refine (turned_any _ g5 nn m2 X hXl.out hB5.out hnn).mono ?_)
       rintro e w6 ht2
       obtain ⟨v1, v2, v3, rfl, htt, n1, n2, n3, hbk⟩ := ht2
       have hgg : w4.heap.size ≤ g5 := Nat.le_of_eq hg5.out.symm
       have hP2 := Lib.hid (hX4.out.page hb5.out.size hgg hnn n1 n2 n3 hbk)
       have hb2 := Lib.hid (below_turned hb5.out htt hgg)
       obtain ⟨y1, d1, rfl, -, -, -⟩ := id n1
       obtain ⟨y2, d2, rfl, -, -, -⟩ := id n2
       obtain ⟨y3, d3, rfl, -, -, -⟩ := id n3
       simp only [marks_len] at hP2 ⊢
       clear n1 n2 n3 hbk htt)
    | ((with_reducible show wpList _ _ _ (⟨some 133, _, _, _, _, _⟩ :: _) _ _)
       have hX2 := Lib.hid (hX4.out.keep hb2.out)
       have hX3 := Lib.hid (hX2.out.keep ((Below.refl _ _).alloc (Nat.le_refl _) (.cells #[.slice (some ⟨g5, 0, none⟩) nn nn, .slice (some ⟨y1, 0, none⟩) (nn + 1) d1, .slice (some ⟨y2, 0, none⟩) (nn + 2) d2, .slice (some ⟨y3, 0, none⟩) (nn + 3) d3, .int .u8 (m2.toNat : Int)] 73)))
       have hP3 := Lib.hid (hP2.out.keep ((Below.refl _ _).alloc (Nat.le_refl _) (.cells #[.slice (some ⟨g5, 0, none⟩) nn nn, .slice (some ⟨y1, 0, none⟩) (nn + 1) d1, .slice (some ⟨y2, 0, none⟩) (nn + 2) d2, .slice (some ⟨y3, 0, none⟩) (nn + 3) d3, .int .u8 (m2.toNat : Int)] 73)))
       have hO3 := Lib.hid ((hO4.out.keep hb2.out).alloc (.cells #[.slice (some ⟨g5, 0, none⟩) nn nn, .slice (some ⟨y1, 0, none⟩) (nn + 1) d1, .slice (some ⟨y2, 0, none⟩) (nn + 2) d2, .slice (some ⟨y3, 0, none⟩) (nn + 3) d3, .int .u8 (m2.toNat : Int)] 73))
       refine wpList_append_page rfl (.tmp 124) (.tmp 132) rfl (base := w0.heap.size) hX3.out.below.size (.slice A4 (ln + 1) cap4) (ln + 1) (B4.flatMap PageV.cells) rfl (by rw [← hl4.out]; have := hX3.out.book.row; rw [hl4.out] at this ⊢; exact this) w6.heap.size ⟨.slice (some ⟨g5, 0, none⟩) nn nn, .slice (some ⟨y1, 0, none⟩) (nn + 1) d1, .slice (some ⟨y2, 0, none⟩) (nn + 2) d2, .slice (some ⟨y3, 0, none⟩) (nn + 3) d3, m2, nn⟩ rfl ?_ ?_ (by omega) ?_
       · intro u hu
         simp only [PageV.cells, List.mem_cons, List.not_mem_nil, or_false] at hu
         rcases hu with rfl | rfl | rfl | rfl | rfl <;> rfl
       · intro j u hu
         rw [(Blk.new w6 _ _).cell j, List.getElem?_toArray]
         exact hu
       intro v8 w8 hown hgr hmv
       have hX8 := Lib.hid (hX3.out.joined hP3.out (by rw [hl4.out]; exact hown) hgr hmv)
       have hO8 := Lib.hid (hO3.out.turn (turns_of_grown hgr) (fun hx => row_apart hO3.out hX3.out.book.row (by decide) ob (by simpa using hx) rfl))
       clear hown hgr hmv hX2 hX3 hP3 hO3 hP2 hb2))
  obtain ⟨B8, hB8⟩ : ∃ B8, B8 = B4 ++ [(⟨.slice (some ⟨g5, 0, none⟩) nn nn, .slice (some ⟨y1, 0, none⟩) (nn + 1) d1, .slice (some ⟨y2, 0, none⟩) (nn + 2) d2, .slice (some ⟨y3, 0, none⟩) (nn + 3) d3, m2, nn⟩ : PageV)] := ⟨_, rfl⟩
  have hl8 : Hid (B8.length = ln + 1 + 1) := by unfold Hid; rw [hB8, List.length_append, hl4.out]; rfl
  rw [← hB8] at hX8
  clear hB8 hB5 hb5 hX4 hO4 q1 q2 q3 q4 q5 q6 f2
  obtain ⟨q1, q2, q3, q4, q5, q6⟩ := opblk hO8.out
  go_upto_region 27 with (go_at_call 15; (with_reducible refine (read_in hX8.out.mem a nn hf).mono ?_); rintro e w9 ⟨rfl, hB9, hb9⟩; rw [hXe.out] at hB9; replace hB9 := Lib.hid hB9; replace hb9 := Lib.hid hb9)
  obtain ⟨g9, hg9⟩ : ∃ g, Hid (g = w8.heap.size) := ⟨_, rfl⟩
  rw [← hg9.out] at hB9
  rw [← hg9.out]
  have hX9 := Lib.hid (hX8.out.keep hb9.out)
  have z0 := conv_bytes w9 g9 nn nn X S hS.out hXl.out hB9.out
  have z1 := conv_bytes w9.drew g9 nn nn X S hS.out hXl.out (hB9.out.keep (Below.refl _ _).drew)
  have z2 := fun k => conv_bytes (w9.drewN k) g9 nn nn X S hS.out hXl.out (hB9.out.keep (below_drewN (Below.refl _ _) k))
  clear q1 q2 q3 q4 q5 q6 hX8 hO8
  go_quiet (fail)
  go_wp2_with fail
  go_ret2
  exact ⟨q, n, L, v8, B8, rfl, hX9.out.keep (by first | exact Below.refl _ _ | exact (Below.refl _ _).drew | exact below_drewN (Below.refl _ _) _), by have := hl8.out; have := hln.out; omega⟩
end
end Go.Proofs.Ytkchhggbiopffaa
