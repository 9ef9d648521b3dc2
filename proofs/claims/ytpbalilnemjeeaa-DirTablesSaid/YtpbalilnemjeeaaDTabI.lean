/- What is proved here: the contract of Tables' iterator: the first entry of each run, with its offset. Conditions: the directory is there. -/
import Derived.Test.YtpbalilnemjeeaaDTabP
import Derived.Test.YtpbalilnemjeeaaSeqP
import Derived.Test.YtpbalilnemjeeaaDEntry
import Derived.Test.YtpbalilnemjeeaaDWidM
namespace Go.Proofs.Ytpbalilnemjeeaa
set_option linter.unusedVariables false
set_option linter.unusedSimpArgs false
open Go.RowKit Pm Pa Pl Pd
attribute [local go_sem] Oper.semAt_some
theorem shl_one6 (d : Nat) (hd : d ≤ 6) (w : World) : (Op.shift .shl .i64 1 .i64 (d : Int)).run Try.prog w = .ok (.int .i64 ((2 ^ d : Nat) : Int)) w := by
  have h : d = 0 ∨ d = 1 ∨ d = 2 ∨ d = 3 ∨ d = 4 ∨ d = 5 ∨ d = 6 := by omega
  rcases h with rfl | rfl | rfl | rfl | rfl | rfl | rfl <;> rfl
/-- the last entry that was looked at -/
def lastE (es : List Int) (k : Nat) : Int := if k = 0 then 0 else es.getD (k - 1) 0
theorem fst_lastE {es : List Int} {k : Nat} (h : isFst es k = true) : k = 0 ∨ es.getD k 0 ≠ lastE es k := by
  rcases Nat.eq_zero_or_pos k with e | e
  · exact .inl e
  · right
    unfold lastE
    rw [if_neg (by omega)]
    exact fst_ne h e
theorem not_fst_lastE {es : List Int} {k : Nat} (h : isFst es k = false) : k ≠ 0 ∧ es.getD k 0 = lastE es k := by
  unfold isFst at h
  rw [Bool.or_eq_false_iff] at h
  have h0 : k ≠ 0 := by simpa using h.1
  refine ⟨h0, ?_⟩
  unfold lastE
  rw [if_neg h0]
  simpa using h.2
/-- what the iterator reads between two rounds -/
def DirThere (g p : Nat) (x : Loc) (lim : Nat) (ps : Parts) (L : List UInt8) (off d : Nat) (W : World) : Prop := ArAt W p x lim ps L ∧ Blk W g #[.pointer (some ⟨p, 0, none⟩), .int .i64 (off : Int), .int .i64 (d : Int)] 92
theorem DirThere.keep {g p : Nat} {x : Loc} {lim : Nat} {ps : Parts} {L : List UInt8} {off d : Nat} {W W' : World} (h : DirThere g p x lim ps L off d W) (hb : Below W.heap.size W W') : DirThere g p x lim ps L off d W' := ⟨h.1.keep hb, h.2.keep hb⟩
theorem DirThere.cells {g p : Nat} {x : Loc} {lim : Nat} {ps : Parts} {L : List UInt8} {off d : Nat} {W : World} (h : DirThere g p x lim ps L off d W) : W.cell? ⟨g, 0, none⟩ = some (.pointer (some ⟨p, 0, none⟩)) ∧ W.cell? ⟨g, 1, none⟩ = some (.int .i64 (off : Int)) ∧ W.cell? ⟨g, 2, none⟩ = some (.int .i64 (d : Int)) := ⟨h.2.cell 0, h.2.cell 1, h.2.cell 2⟩
set_option maxRecDepth 100000 in
set_option maxHeartbeats 4000000 in
theorem tables1_p (n : Nat) (hn : 2 ≤ n) (g p : Nat) (x : Loc) (lim : Nat) (ps : Parts) (L : List UInt8) {off d : Nat} {es : List Int} (hD : DirAt ps L off d es) (w : World) :
    SeqP Fence.wide n Try.prog 89 #[.pointer (some ⟨g, 0, none⟩)] (fun i : Nat => #[Value.int .i64 (i : Int), .int .i64 (es.getD i 0)]) (fun xs => xs = firsts es (2 ^ d)) (fun pre => ∃ i, i < 2 ^ d ∧ isFst es i = true ∧ pre = firsts es i ++ [i]) (fun pre i => i < 2 ^ d ∧ isFst es i = true ∧ pre = firsts es i) (DirThere g p x lim ps L off d) False w := by
  intro l J Jx W hW hJ hA hJx hG hY h0
  have hn1 : 1 ≤ n := by omega
  have hTW := hG _ _ _ h0
  have hdl := hD.dl
  have hlen := hD.len
  have hob := hD.ob
  obtain ⟨D, hDd⟩ : ∃ D : Int, Hid (D = d) := ⟨_, rfl⟩
  obtain ⟨M, hM⟩ : ∃ M : Nat, Hid (M = 2 ^ d) := ⟨_, rfl⟩
  have hM64 : M ≤ 64 := by rw [hM.out]; exact pow64 hdl
  have hsh1 : ∀ w, (Op.shift .shl .i64 1 .i64 D).run Try.prog w = .ok (.int .i64 (M : Int)) w := fun w => by rw [hDd.out, shl_one6 d hdl w, hM.out]
  have hins : ∀ i, i < M → Inside ps (off + 8 * i) 8 := fun i hi => hD.ins i (by rw [← hM.out]; exact hi)
  rw [← hM.out] at hY hlen ⊢
  have hcells : ∀ W, DirThere g p x lim ps L off d W → W.cell? ⟨g, 0, none⟩ = some (.pointer (some ⟨p, 0, none⟩)) ∧ W.cell? ⟨g, 1, none⟩ = some (.int .i64 (off : Int)) ∧ W.cell? ⟨g, 2, none⟩ = some (.int .i64 D) := fun W h => by rw [hDd.out]; exact h.cells
  obtain ⟨c0, c1, c2⟩ := hcells W hTW
  have hdeep := Lib.hid (fun w P O (hO : ∃ o : Int, O = .int .i64 o) (hP : ∃ a, P = .pointer a) => dir_deep off d (by omega) w D hDd.out P O hO hP)
  have hJ1 : ∀ s W W', J s [] W → Below W.heap.size W W' → J s [] W' := fun s W W' h hb => hJ s [] W W' h (Turns.of_below hb)
  replace hcells := Lib.hid hcells
  replace hins := Lib.hid hins
  replace hD := Lib.hid hD
  replace hlen := Lib.hid hlen
  replace hTW := Lib.hid hTW
  replace hW := Lib.hid hW
  refine callsIn_of_wp Try.func89 rfl trivial ?_ rfl
  simp only [Try.ntmps89, List.size_toArray, List.length_cons, List.length_nil, Nat.reduceAdd, Nat.reduceSub, Array.replicate_succ, Array.replicate_zero, List.push_toArray, List.append_toArray, List.nil_append, List.cons_append]
  gi_wp2_with (refine ⟨trivial, ?_⟩; gi_at_call 87; refine (callsIn_wide.2 (hdeep.out _ _ _ ⟨_, rfl⟩ ⟨_, rfl⟩)).mono ?_; rintro r w1 ⟨rfl, hb1⟩; have h1 := hJ1 _ _ _ h0 hb1; obtain ⟨d0, d1, d2⟩ := hcells.out w1 (hG _ _ _ h1); clear c0 c1 c2)
  gi_loopw [3, 12] (fun a3 a12 wr => ∃ k : Nat, k ≤ M ∧ a12 = .int .i64 (k : Int) ∧ a3 = .int .i64 (lastE es k) ∧ Hid (J (firsts es k) [] wr) ∧ Hid (W.heap.size ≤ wr.heap.size)) (fun _ i _ => (M - (intOf i).toNat))
  case atStart => exact ⟨0, Nat.zero_le _, rfl, rfl, h1, hb1.size⟩
  case round =>
    obtain ⟨k, hk, rfl, rfl, hJs, hsz⟩ := hrel
    obtain ⟨d0, d1, d2⟩ := hcells.out wr (hG _ _ _ hJs.out)
    by_cases hlt : k < M
    · have k0 : (k : Int) < M := by omega
      have hek0 : es[k]? = some (es.getD k 0) := by rw [List.getD_eq_getElem?_getD, List.getElem?_eq_getElem (by rw [hlen.out]; exact hlt)]; rfl
      obtain ⟨e, he⟩ : ∃ e, Hid (es.getD k 0 = e) := ⟨_, rfl⟩
      rw [he.out] at hek0
      have hek := Lib.hid hek0
      clear hek0
      by_cases hf : isFst es k = true
      · rcases Nat.eq_zero_or_pos k with rfl | hkp
        · gi_wp2_with (refine ⟨trivial, ?_⟩; gi_at_call 88; refine (callsIn_wide.2 (dir_word' (hG _ _ _ hJs.out).1 off d 0 e (hins.out 0 hlt) (by omega) (hD.out.wd 0 e hek.out) (hD.out.rng e (List.mem_of_getElem? hek.out)) D _ hDd.out rfl)).mono ?_; rintro r w2 ⟨rfl, hb2⟩; have hJ2 := Lib.hid (hJ1 _ _ _ hJs.out hb2); clear d0 d1 d2; obtain ⟨fn, tmps, assign, body, hy, hR⟩ := hY (firsts es 0) 0 [] w2 hJ2.out (by have := hb2.size; have := hsz.out; omega) (fun k hk => by cases hk) ⟨hlt, hf, rfl⟩; rw [he.out, show ((0 : Nat) : Int) = 0 from rfl] at hy; replace hb2 := Lib.hid hb2)
          refine hR.mono ?_
          rintro r W3 (⟨rfl, hJ3, hk3⟩ | ⟨rfl, hJx3⟩)
          · have hz3 := hk3.1
            gi_wp2
            exact ⟨⟨0 + 1, by omega, by go_num, by unfold lastE; rw [if_neg (by omega), Nat.add_sub_cancel, he.out], by unfold Hid; rw [firsts_succ, if_pos hf]; exact hJ3, by unfold Hid; have := hb2.out.size; have := hsz.out; omega⟩, by simp [intOf]; omega⟩
          · gi_wp2
            refine bodyPost_ret (results_none rfl _ _ _) rfl ?_
            exact ⟨⟨_, rfl⟩, .inr ⟨firsts es 0 ++ [0], [], ⟨0, hlt, hf, rfl⟩, hJx3⟩⟩
        · have hkn : ¬ (k : Int) = 0 := by omega
          have hne0 : e ≠ lastE es k := by
            have := fst_lastE hf
            rw [he.out] at this
            rcases this with e0 | e0
            · omega
            · exact e0
          obtain ⟨lv, hlv⟩ : ∃ lv, Hid (lastE es k = lv) := ⟨_, rfl⟩
          rw [hlv.out] at hne0 ⊢
          have hneb : (e != lv) = true := by simpa using hne0
          have hkb : ((k : Int) == 0) = false := by simpa using hkn
          gi_wp2_with (refine ⟨trivial, ?_⟩; gi_at_call 88; refine (callsIn_wide.2 (dir_word' (hG _ _ _ hJs.out).1 off d k e (hins.out k hlt) (by omega) (hD.out.wd k e hek.out) (hD.out.rng e (List.mem_of_getElem? hek.out)) D _ hDd.out rfl)).mono ?_; rintro r w2 ⟨rfl, hb2⟩; have hJ2 := Lib.hid (hJ1 _ _ _ hJs.out hb2); clear d0 d1 d2; obtain ⟨fn, tmps, assign, body, hy, hR⟩ := hY (firsts es k) k [] w2 hJ2.out (by have := hb2.size; have := hsz.out; omega) (fun k hk => by cases hk) ⟨hlt, hf, rfl⟩; rw [he.out] at hy; replace hb2 := Lib.hid hb2)
          refine hR.mono ?_
          rintro r W3 (⟨rfl, hJ3, hk3⟩ | ⟨rfl, hJx3⟩)
          · have hz3 := hk3.1
            gi_wp2
            exact ⟨⟨k + 1, by omega, by go_num, by unfold lastE; rw [if_neg (by omega), Nat.add_sub_cancel, he.out], by unfold Hid; rw [firsts_succ, if_pos hf]; exact hJ3, by unfold Hid; have := hb2.out.size; have := hsz.out; omega⟩, by simp [intOf]; omega⟩
          · gi_wp2
            refine bodyPost_ret (results_none rfl _ _ _) rfl ?_
            exact ⟨⟨_, rfl⟩, .inr ⟨firsts es k ++ [k], [], ⟨k, hlt, hf, rfl⟩, hJx3⟩⟩
      · have hf2 : isFst es k = false := by simpa using hf
        obtain ⟨hkn, hle⟩ := not_fst_lastE hf2
        rw [he.out] at hle
        rw [← hle]
        have hkn2 : ¬ (k : Int) = 0 := by omega
        replace hle := Lib.hid hle
        clear hkn
        gi_wp2_with (refine ⟨trivial, ?_⟩; gi_at_call 88; refine (callsIn_wide.2 (dir_word' (hG _ _ _ hJs.out).1 off d k e (hins.out k hlt) (by omega) (hD.out.wd k e hek.out) (hD.out.rng e (List.mem_of_getElem? hek.out)) D _ hDd.out rfl)).mono ?_; rintro r w2 ⟨rfl, hb2⟩; have hJ2 := Lib.hid (hJ1 _ _ _ hJs.out hb2); clear d0 d1 d2; have hb9 := Lib.hid hb2.size)
        refine ⟨fun _ h => (by cases h), ?_⟩
        gi_wp2
        exact ⟨⟨k + 1, by omega, by go_num, by unfold lastE; rw [if_neg (by omega), Nat.add_sub_cancel, he.out], by unfold Hid; rw [firsts_succ, if_neg hf]; exact hJ2.out, by unfold Hid; have := hb9.out; have := hsz.out; omega⟩, by simp [intOf]; omega⟩
    · obtain rfl : k = M := by omega
      gi_wp2
      go_end0
      exact ⟨⟨_, rfl⟩, .inl ⟨firsts es k, [], rfl, hJs.out⟩⟩
end Go.Proofs.Ytpbalilnemjeeaa
