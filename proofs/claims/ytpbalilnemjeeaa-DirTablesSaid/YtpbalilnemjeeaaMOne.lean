/- What is proved here: the contracts of a memory's New, Len, inside, number and Read. Conditions: a memory that is there. -/
import Derived.Test.YtpbalilnemjeeaaMStep
namespace Go.Proofs.Ytpbalilnemjeeaa
set_option linter.unusedVariables false
set_option linter.unusedSimpArgs false
open Go.RowKit Pm
/-- does the span (off, k) lie inside n bytes? -/
def insF (n : Nat) (off k : Int) : Bool := decide (0 ≤ off) && decide (0 ≤ k) && decide (k ≤ n) && decide (off ≤ n - k)
theorem insF_iff (n : Nat) (off k : Int) : insF n off k = true ↔ 0 ≤ off ∧ 0 ≤ k ∧ off + k ≤ n := by
  simp only [insF, Bool.and_eq_true, decide_eq_true_eq]; omega
theorem ret_tup2 {a b c d : Value} (h : a = b) (k : c = d) : Ending.returned (.tuple #[a, c]) = .returned (.tuple #[b, d]) := by rw [h, k]
theorem new_no (size : Int) (w : World) (h : size < 0 ∨ 134217728 < size) : Calls Try.prog 64 #[.int .i64 size] w fun e w' => e = .returned (.tuple #[.pointer none, .int .i64 12]) ∧ w = w' := by
  rcases h with h | h
  · go_enter Try.func64, Try.ntmps64
    go_wp2_with fail
    go_ret2
    exact ⟨rfl, rfl⟩
  · have h0 : ¬ size < 0 := by omega
    go_enter Try.func64, Try.ntmps64
    go_wp2_with fail
    go_ret2
    exact ⟨rfl, rfl⟩
theorem new_yes (size : Nat) (w : World) (h1 : size ≤ 134217728) : Calls Try.prog 64 #[.int .i64 size] w fun e w' => e = .returned (.tuple #[.pointer (some ⟨w.heap.size + 1, 0, none⟩), .int .i64 0]) ∧
    MemAt w' (w.heap.size + 1) w.heap.size (List.replicate size 0) size ∧ Below w.heap.size w w' := by
  go_enter Try.func64, Try.ntmps64
  go_wp2_with (at_make; refine wpList_make_bytes rfl _ _ rfl size size rfl rfl (by omega) (by omega) ?_)
  go_ret2
  refine ⟨rfl, ⟨?_, (Blk.new _ _ _).alloc _, by omega, by simp, by simp; omega, fun i hi hl => by rw [List.length_replicate] at hl; omega⟩, ((Below.refl _ _).alloc (Nat.le_refl _) _).alloc (by simp) _⟩
  have hb := Blk.new (w.alloc (.cells (bv (List.replicate size 0)) 5)) #[.slice (some ⟨w.heap.size, 0, none⟩) size size] 170
  simpa using hb
section
variable {w : World} {p q n : Nat} {L : List UInt8}
theorem len_any (h : MemAt w p q L n) : Calls Try.prog 78 #[.pointer (some ⟨p, 0, none⟩)] w fun e w' => e = .returned (.int .i64 n) ∧ w = w' := by
  have hc := h.ptrc
  replace h := Lib.hid h
  go_enter Try.func78, Try.ntmps78
  go_wp2_with fail
  go_ret
  exact ⟨rfl, rfl⟩
theorem inside_to (h : MemAt w p q L n) (off k : Int) (r : Bool) (hr : insF n off k = r) : Calls Try.prog 104 #[.pointer (some ⟨p, 0, none⟩), .int .i64 off, .int .i64 k] w fun e w' => e = .returned (.bool r) ∧ w = w' := by
  have hc := h.ptrc
  have hn : n ≤ 134217728 := Nat.le_trans h.le h.cap
  replace h := Lib.hid h
  have hi := insF_iff n off k
  rw [hr] at hi
  by_cases h1 : 0 ≤ off
  · by_cases h2 : 0 ≤ k
    · by_cases h3 : k ≤ n
      · by_cases h4 : off ≤ n - k
        · have hr2 : Hid (r = true) := hi.2 ⟨h1, h2, by omega⟩
          clear hi hr
          go_enter Try.func104, Try.ntmps104
          go_wp2_with fail
          go_ret
          exact ⟨ret_bool hr2.out.symm, rfl⟩
        · have hr2 : Hid (r = false) := by cases r with
            | false => rfl
            | true => exact absurd (hi.1 rfl).2.2 (by omega)
          clear hi hr
          go_enter Try.func104, Try.ntmps104
          go_wp2_with fail
          go_ret
          exact ⟨ret_bool hr2.out.symm, rfl⟩
      · have hr2 : Hid (r = false) := by cases r with
          | false => rfl
          | true => exact absurd (hi.1 rfl).2.2 (by omega)
        clear hi hr
        go_enter Try.func104, Try.ntmps104
        go_wp2_with fail
        go_ret
        exact ⟨ret_bool hr2.out.symm, rfl⟩
    · have hr2 : Hid (r = false) := by cases r with
        | false => rfl
        | true => exact absurd (hi.1 rfl).2.1 (by omega)
      clear hi hr
      go_enter Try.func104, Try.ntmps104
      go_wp2_with fail
      go_ret
      exact ⟨ret_bool hr2.out.symm, rfl⟩
  · have hr2 : Hid (r = false) := by cases r with
      | false => rfl
      | true => exact absurd (hi.1 rfl).1 (by omega)
    clear hi hr
    go_enter Try.func104, Try.ntmps104
    go_wp2_with fail
    go_ret
    exact ⟨ret_bool hr2.out.symm, rfl⟩
theorem ins_true {off k : Int} (h0 : 0 ≤ off) (h1 : 0 ≤ k) (h2 : off + k ≤ n) : insF n off k = true := (insF_iff n off k).2 ⟨h0, h1, h2⟩
theorem ins_false {off k : Int} (h : ¬ (0 ≤ off ∧ 0 ≤ k ∧ off + k ≤ n)) : insF n off k = false := by
  cases e : insF n off k with
  | false => rfl
  | true => exact absurd ((insF_iff n off k).1 e) h
/-- a width that is none -/
theorem number_width (h : MemAt w p q L n) (off k : Int) (hk : ¬ (k = 1 ∨ k = 2 ∨ k = 4 ∨ k = 8)) : Calls Try.prog 105 #[.pointer (some ⟨p, 0, none⟩), .int .i64 off, .int .i64 k] w fun e w' => e = .returned (.tuple #[.slice none 0 0, .int .i64 10]) ∧ w = w' := by
  have k1 : (k == 1) = false := by simp; omega
  have k2 : (k == 2) = false := by simp; omega
  have k4 : (k == 4) = false := by simp; omega
  have k8 : (k == 8) = false := by simp; omega
  clear hk
  replace h := Lib.hid h
  go_enter Try.func105, Try.ntmps105
  go_wp2_with fail
  go_ret2
  exact ⟨rfl, rfl⟩
theorem number_out (h : MemAt w p q L n) (off k : Int) (hk : k = 1 ∨ k = 2 ∨ k = 4 ∨ k = 8) (hi : insF n off k = false) : Calls Try.prog 105 #[.pointer (some ⟨p, 0, none⟩), .int .i64 off, .int .i64 k] w fun e w' => e = .returned (.tuple #[.slice none 0 0, .int .i64 11]) ∧ w = w' := by
  replace h := Lib.hid h
  replace hi := Lib.hid hi
  rcases hk with rfl | rfl | rfl | rfl
  all_goals
    go_enter Try.func105, Try.ntmps105
    go_wp2_with (go_at_call 104; (with_reducible refine (inside_to h.out off _ false hi.out).mono ?_); rintro e w' ⟨rfl, rfl⟩)
    go_ret2
    exact ⟨rfl, rfl⟩
theorem number_in (h : MemAt w p q L n) (off k : Nat) (hk : k = 1 ∨ k = 2 ∨ k = 4 ∨ k = 8) (hf : off + k ≤ n) : Calls Try.prog 105 #[.pointer (some ⟨p, 0, none⟩), .int .i64 off, .int .i64 k] w fun e w' => e = .returned (.tuple #[.slice (some ⟨q, off, none⟩) k (L.length - off), .int .i64 0]) ∧ w = w' := by
  have hc := h.ptrc
  have hn : n ≤ L.length := h.le
  have hn2 : L.length ≤ 134217728 := h.cap
  replace h := Lib.hid h
  rcases hk with rfl | rfl | rfl | rfl
  all_goals
    go_enter Try.func105, Try.ntmps105
    go_wp2_with (go_at_call 104; (with_reducible refine (inside_to h.out off _ true (ins_true (by omega) (by omega) (by omega))).mono ?_); rintro e w' ⟨rfl, rfl⟩)
    go_ret2
    exact ⟨ret_tup2 (by first | rfl | exact congrArg (fun x => Value.slice (some ⟨q, off, none⟩) x (L.length - off)) (Nat.add_sub_cancel_left off _)) rfl, rfl⟩
end
end Go.Proofs.Ytpbalilnemjeeaa
