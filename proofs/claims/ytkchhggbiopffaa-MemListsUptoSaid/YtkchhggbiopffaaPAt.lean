/- What is proved here: the contracts of the reference's New, Grow, inside, width and At. Conditions: a reference memory that is there. -/
import Derived.Test.YtkchhggbiopffaaPAct
namespace Go.Proofs.Ytkchhggbiopffaa
set_option linter.unusedVariables false
set_option linter.unusedSimpArgs false
open Go.RowKit Pm
theorem rnew_no (size : Int) (w : World) (h : size < 0 ∨ 134217728 < size) : Calls Try.prog 30 #[.int .i64 size] w fun e w' => e = .returned (.tuple #[.pointer none, .int .i64 12]) ∧ w = w' := by
  rcases h with h | h
  · go_enter Try.func30, Try.ntmps30
    go_wp2_with fail
    go_ret2
    exact ⟨rfl, rfl⟩
  · have h0 : ¬ size < 0 := by omega
    go_enter Try.func30, Try.ntmps30
    go_wp2_with fail
    go_ret2
    exact ⟨rfl, rfl⟩
theorem rnew_yes (size : Nat) (w : World) (h1 : size ≤ 134217728) : Calls Try.prog 30 #[.int .i64 size] w fun e w' => e = .returned (.tuple #[.pointer (some ⟨w.heap.size, 0, none⟩), .int .i64 0]) ∧
    RefAt w' w.heap.size (.slice none 0 0) [] (List.replicate size 0) ∧ Below w.heap.size w w' := by
  go_enter Try.func30, Try.ntmps30
  go_wp2_with fail
  go_ret2
  refine ⟨rfl, ⟨?_, World.ownsRow_nil _ _ _ _, by simp, fun p => ?_, by simpa using h1⟩, (Below.refl _ _).alloc (Nat.le_refl _) _⟩
  · have hb := Blk.new w #[.int .i64 size, .slice none 0 0] 78
    simpa using hb
  · simp [atA, List.getD, List.getElem?_replicate]
    split <;> rfl
section
variable {w : World} {r : Nat} {V : Value} {A : List ActV} {M : List UInt8}
theorem rinside_to (h : RefAt w r V A M) (off k : Int) (b : Bool) (hr : insF M.length off k = b) : Calls Try.prog 49 #[.pointer (some ⟨r, 0, none⟩), .int .i64 off, .int .i64 k] w fun e w' => e = .returned (.bool b) ∧ w = w' := by
  have hc := h.c0
  have hn := h.cap
  replace h := Lib.hid h
  obtain ⟨n, hM⟩ : ∃ n, M.length = n := ⟨_, rfl⟩
  rw [hM] at hc hn hr
  clear hM
  have hi := insF_iff n off k
  rw [hr] at hi
  by_cases h1 : 0 ≤ off
  · by_cases h2 : 0 ≤ k
    · by_cases h3 : k ≤ n
      · by_cases h4 : off ≤ n - k
        · have hr2 : Hid (b = true) := hi.2 ⟨h1, h2, by omega⟩
          clear hi hr
          go_enter Try.func49, Try.ntmps49
          go_wp2_with fail
          go_ret
          exact ⟨ret_bool hr2.out.symm, rfl⟩
        · have hr2 : Hid (b = false) := by cases b with
            | false => rfl
            | true => exact absurd (hi.1 rfl).2.2 (by omega)
          clear hi hr
          go_enter Try.func49, Try.ntmps49
          go_wp2_with fail
          go_ret
          exact ⟨ret_bool hr2.out.symm, rfl⟩
      · have hr2 : Hid (b = false) := by cases b with
          | false => rfl
          | true => exact absurd (hi.1 rfl).2.2 (by omega)
        clear hi hr
        go_enter Try.func49, Try.ntmps49
        go_wp2_with fail
        go_ret
        exact ⟨ret_bool hr2.out.symm, rfl⟩
    · have hr2 : Hid (b = false) := by cases b with
        | false => rfl
        | true => exact absurd (hi.1 rfl).2.1 (by omega)
      clear hi hr
      go_enter Try.func49, Try.ntmps49
      go_wp2_with fail
      go_ret
      exact ⟨ret_bool hr2.out.symm, rfl⟩
  · have hr2 : Hid (b = false) := by cases b with
      | false => rfl
      | true => exact absurd (hi.1 rfl).1 (by omega)
    clear hi hr
    go_enter Try.func49, Try.ntmps49
    go_wp2_with fail
    go_ret
    exact ⟨ret_bool hr2.out.symm, rfl⟩
theorem width_yes (k : Int) (w : World) (h : k = 1 ∨ k = 2 ∨ k = 4 ∨ k = 8) : Calls Try.prog 48 #[.int .i64 k] w fun e w' => e = .returned (.bool true) ∧ w = w' := by
  rcases h with rfl | rfl | rfl | rfl
  all_goals
    go_enter Try.func48, Try.ntmps48
    go_wp2_with fail
    go_ret
    exact ⟨rfl, rfl⟩
theorem width_no (k : Int) (w : World) (h : ¬ (k = 1 ∨ k = 2 ∨ k = 4 ∨ k = 8)) : Calls Try.prog 48 #[.int .i64 k] w fun e w' => e = .returned (.bool false) ∧ w = w' := by
  have h1 : (k == 1) = false := by simp; omega
  have h2 : (k == 2) = false := by simp; omega
  have h3 : (k == 4) = false := by simp; omega
  have h4 : (k == 8) = false := by simp; omega
  clear h
  go_enter Try.func48, Try.ntmps48
  go_wp2_with fail
  go_ret
  exact ⟨rfl, rfl⟩
theorem rgrow_no (h : RefAt w r V A M) (size : Int) (hb : size < M.length ∨ 134217728 < size) : Calls Try.prog 39 #[.pointer (some ⟨r, 0, none⟩), .int .i64 size] w fun e w' => e = .returned (.int .i64 12) ∧ w = w' := by
  have hc := h.c0
  replace h := Lib.hid h
  obtain ⟨n, hM⟩ : ∃ n, M.length = n := ⟨_, rfl⟩
  rw [hM] at hc hb
  clear hM
  by_cases h1 : size < n
  · go_enter Try.func39, Try.ntmps39
    go_wp2_with fail
    go_ret
    exact ⟨rfl, rfl⟩
  · have h2 : 134217728 < size := by omega
    go_enter Try.func39, Try.ntmps39
    go_wp2_with fail
    go_ret
    exact ⟨rfl, rfl⟩
theorem rgrow_yes (h : RefAt w r V A M) (size : Nat) (h1 : M.length ≤ size) (h2 : size ≤ 134217728) : Calls Try.prog 39 #[.pointer (some ⟨r, 0, none⟩), .int .i64 size] w fun e w' =>
    e = .returned (.int .i64 0) ∧ RefAt w' r V A (M ++ List.replicate (size - M.length) 0) ∧ Turns [r] w w' := by
  have hc := h.c0
  have hf := h.ptr.free 0
  have hR : Hid (RefAt (w.setCell ⟨r, 0, none⟩ (.int .i64 size)) r V A (M ++ List.replicate (size - M.length) 0)) := by
    refine ⟨?_, row_keep h.row (fun g hg => Below.heap_setCell w ⟨r, 0, none⟩ _ g (fun e => h.ne (by rw [hg]; exact congrArg some e))), h.ok, fun p => ?_, by simp; omega⟩
    · have := h.ptr.set 0 (.int .i64 size)
      have e : (M ++ List.replicate (size - M.length) 0).length = size := by simp; omega
      rw [e]; simpa using this
    · rw [h.sem p]
      simp only [List.getD]
      by_cases hp : p < M.length
      · rw [List.getElem?_append_left hp]
      · rw [List.getElem?_append_right (by omega), List.getElem?_eq_none (by omega), List.getElem?_replicate]
        split <;> rfl
  have hT : Hid (Turns [r] w (w.setCell ⟨r, 0, none⟩ (.int .i64 size))) := (Turns.refl _ _).set r 0 _ (Or.inl (by simp))
  replace h := Lib.hid h
  obtain ⟨n, hM⟩ : ∃ n, M.length = n := ⟨_, rfl⟩
  rw [hM] at hc h1 hR
  rw [hM]
  clear hM
  have h3 : ¬ (size : Int) < n := by omega
  have h4 : ¬ (134217728 : Int) < size := by omega
  go_enter Try.func39, Try.ntmps39
  go_wp2_with fail
  go_ret
  exact ⟨rfl, hR.out, hT.out⟩
set_option maxHeartbeats 1000000 in
theorem rat_any (h : RefAt w r V A M) (p : Nat) (hp : p ≤ 134217728) : Calls Try.prog 50 #[.pointer (some ⟨r, 0, none⟩), .int .i64 p] w fun e w' => e = .returned (.int .u8 ((M.getD p 0).toNat : Int)) ∧ Below w.heap.size w w' := by
  have hs := Lib.hid (h.sem p)
  have hc := h.c1
  have hfr := h.ptr.free 1
  obtain ⟨ln, hln⟩ : ∃ n, A.length = n := ⟨_, rfl⟩
  have hV : ∃ A0 cap, V = .slice A0 ln cap ∧ ln ≤ 9223372036854775807 := by
    rcases h.row.2 with ⟨rfl, h0⟩ | ⟨g, cap, cur, rfl, h1, h2, h3, h4, _⟩
    · exact ⟨none, 0, by rw [← hln, h0], by omega⟩
    · exact ⟨_, cap, by rw [hln], by unfold maxLen at h4; omega⟩
  obtain ⟨A0, cap, rfl, hl⟩ := hV
  replace h := Lib.hid h
  go_enter Try.func50, Try.ntmps50
  go_wp2_with fail
  go_loopw [1, 5] (fun pv iv wr => ∃ (j p' : Nat) (z : Int), j ≤ ln ∧ z = (j : Int) - 1 ∧ iv = .int .i64 z ∧ pv = .int .i64 p' ∧ p' ≤ 134217728 ∧ Hid (atA (A.take j).reverse p' = M.getD p 0) ∧ Below w.heap.size w wr) (fun _ iv _ => (intOf iv + 1).toNat)
  case atStart => exact ⟨ln, p, _, by omega, rfl, rfl, rfl, hp, by unfold Hid; rw [← hln, List.take_length]; exact hs.out, Below.refl _ _⟩
  case round =>
    obtain ⟨j, p', z, hj, hz, rfl, rfl, hp', hat, hB⟩ := hrel
    have hc2 : wr.cell? ⟨r, 1, none⟩ = _ := (hB.cell (p := ⟨r, 1, none⟩) (World.block_lt_of_cell? w _ hc)).trans hc
    by_cases hj0 : j = 0
    · subst hj0
      obtain rfl : z = -1 := by omega
      clear hz hj
      go_wp2_with fail
      go_ret
      exact ⟨ret_int (by rw [← hat.out]; rfl), hB⟩
    · obtain ⟨j, rfl⟩ : ∃ i, j = i + 1 := ⟨j - 1, by omega⟩
      obtain rfl : z = (j : Int) := by omega
      clear hz hj0
      obtain ⟨a, ha⟩ : ∃ a, Hid (A[j]? = some a) := ⟨_, List.getElem?_eq_getElem (by omega)⟩
      obtain ⟨g, cap', hVe, hcs⟩ := h.out.act j a ha.out
      obtain ⟨rfl, -, rfl⟩ : A0 = some ⟨g, 0, none⟩ ∧ ln = A.length ∧ cap = cap' := by simpa using hVe
      clear hVe
      have hok := h.out.ok a (List.mem_of_getElem? ha.out)
      have htk : Hid ((A.take (j + 1)).reverse = a :: (A.take j).reverse) := by
        unfold Hid; rw [List.take_add_one, ha.out]; simp
      obtain ⟨hk, hsp, hfm, htx⟩ := hok
      have cc : ∀ i v, a.cells[i]? = some v → wr.cell? ⟨g, j * 6 + i, none⟩ = some v := fun i v hv => (hB.cell (p := ⟨g, j * 6 + i, none⟩) (World.block_lt_of_cell? w _ (hcs i v hv))).trans (hcs i v hv)
      obtain ⟨k, off, n, src, b, s⟩ := a
      simp only at hk hsp hfm htx
      have c0 := cc 0 _ rfl
      have c1 := cc 1 _ rfl
      have c2 := cc 2 _ rfl
      have c3 := cc 3 _ rfl
      have c4 := cc 4 _ rfl
      have c5 := cc 5 _ rfl
      simp only [Nat.add_zero] at c0
      clear cc hcs
      have hr1 : (j : Int) < A.length := by omega
      have hB2 := Lib.hid hB
      have hp0 : (0 : Int) ≤ p' := by omega
      by_cases hout : p' < off ∨ off + n ≤ p'
      · have hat2 : Hid (atA (A.take j).reverse p' = M.getD p 0) := by
          unfold Hid; rw [← hat.out, htk.out, atA_out hout]
        by_cases hlo : p' < off
        · have hlo' : (p' : Int) < off := by omega
          clear hout hk
          go_wp2_with fail
          go_roundw
          case rel => exact ⟨j, p', _, by omega, rfl, by go_num, rfl, hp', hat2.out, hB2.out.alloc hB2.out.size _⟩
          case measure => simp [intOf] <;> omega
        · have hlo' : ¬ (p' : Int) < off := by omega
          have hhi : (n : Int) ≤ p' - off := by omega
          clear hout hk
          go_wp2_with fail
          go_roundw
          case rel => exact ⟨j, p', _, by omega, rfl, by go_num, rfl, hp', hat2.out, hB2.out.alloc hB2.out.size _⟩
          case measure => simp [intOf] <;> omega
      · have hlo' : ¬ (p' : Int) < off := by omega
        have hhi : ¬ (n : Int) ≤ p' - off := by omega
        have hd0 : (0 : Int) ≤ (p' : Int) - off := by omega
        rcases hk with rfl | rfl | rfl
        · have hat2 : Hid (b = M.getD p 0) := by unfold Hid; rw [← hat.out, htk.out, atA_fill hout rfl]
          clear hout
          go_wp2_with fail
          go_ret
          exact ⟨ret_int (by rw [hat2.out]; simp [List.getD]), hB2.out.alloc hB2.out.size _⟩
        · have hat2 : Hid (s.data.toList.getD (p' - off) 0 = M.getD p 0) := by unfold Hid; rw [← hat.out, htk.out, atA_laid hout rfl]
          have hsz := htx rfl
          have hlt : p' - off < s.size := by omega
          have hd1 : ((p' : Int) - off) < s.size := by omega
          have hd2 : Hid (((p' : Int) - off).toNat = p' - off) := by unfold Hid; omega
          clear hout htx
          go_wp2_with fail
          go_ret
          refine ⟨ret_int ?_, hB2.out.alloc hB2.out.size _⟩
          have e : s.data.toList.getD (p' - off) 0 = s[p' - off]'hlt := by
            have hl2 : p' - off < s.data.toList.length := by simpa using hlt
            simp only [List.getD, List.getElem?_eq_getElem hl2, Option.getD_some]
            rfl
          rw [← hat2.out, e]
        · have hat2 : Hid (atA (A.take j).reverse (src + (p' - off)) = M.getD p 0) := by unfold Hid; rw [← hat.out, htk.out, atA_copy hout rfl]
          have hsum : IntKind.i64.wrap ((src : Int) + ((p' : Int) - off)) = ((src + (p' - off) : Nat) : Int) := by rw [IntWalk.i64_in _ (by omega)]; omega
          have hle : src + (p' - off) ≤ 134217728 := by omega
          clear hout htx
          go_wp2_with fail
          go_roundw
          case rel => exact ⟨j, _, _, by omega, rfl, by go_num, by go_num, hle, hat2.out, hB2.out.alloc hB2.out.size _⟩
          case measure => simp [intOf] <;> omega
end
end Go.Proofs.Ytkchhggbiopffaa
