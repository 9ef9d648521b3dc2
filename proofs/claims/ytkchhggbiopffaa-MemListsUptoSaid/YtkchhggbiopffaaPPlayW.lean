/- What is proved here: the contract of the law's own plays at Write. Conditions: a memory and a reference memory of the same bytes; parts of at most 1048576 bytes together. -/
import Derived.Test.YtkchhggbiopffaaPWr
namespace Go.Proofs.Ytkchhggbiopffaa
set_option linter.unusedVariables false
set_option linter.unusedSimpArgs false
open Go.RowKit Pm
theorem behind_conv {W : World} {gl : Nat} (h : W.heap[gl]? = some (.cells #[.int .u8 98, .int .u8 101, .int .u8 104, .int .u8 105, .int .u8 110, .int .u8 100] 5 (6, 7))) :
    (convert 27 9 (.slice (some ⟨gl, 0, none⟩) 6 6)).run Try.prog W = .ok (.string ⟨#[98, 101, 104, 105, 110, 100]⟩) W := by
  refine conv_told W _ [98, 101, 104, 105, 110, 100] _ (Or.inr ⟨gl, 6, rfl, fun j b hj => ?_⟩) rfl
  have hc : W.cell? ⟨gl, j, none⟩ = (#[Value.int .u8 98, .int .u8 101, .int .u8 104, .int .u8 105, .int .u8 110, .int .u8 100] : Array Value)[j]? := by simp [World.cell?, h]
  rw [hc]
  match j, hj with
  | 0, hj | 1, hj | 2, hj | 3, hj | 4, hj | 5, hj => obtain rfl := Option.some.inj hj; rfl
  | j + 6, hj => simp at hj
section
variable {w w' : World} {p q r : Nat} {L : List UInt8} {n : Nat} {V : Value} {A : List ActV}
set_option maxHeartbeats 2000000 in
set_option maxRecDepth 100000 in
theorem plays_write (h : Pair w p q r L n V A) (mm a b nn : Int) (v : Nat) (A0 : Option Addr) (cc : Nat) (ss : List ByteArray) (k : Nat) (hk : ss.length = k) (hs : StrsAt w A0 ss) (hs1 : (cat ss).size ≤ 1048576) (hs2 : k ≤ 1048576) (hss : ∀ s ∈ ss, s.size ≤ 1048576) (hA : A.length ≤ 100000000000)
    (ho : -9223372036854775808 ≤ a ∧ a ≤ 9223372036854775807) (hsa : ∀ x, A0 = some x → ss ≠ [] → x.block ≠ p ∧ x.block ≠ q ∧ x.block ≠ r ∧ V.ownBlock ≠ some x.block ∧ x.block < w.heap.size) :
    Calls Try.prog 31 #[.pointer (some ⟨p, 0, none⟩), .pointer (some ⟨r, 0, none⟩), .agg (opv 9 mm a b nn v (.slice A0 k cc))] w (Played w p q r V A) := by
  have hT0 : Turns (p :: q :: r :: V.ownBlock.toList) w (w.alloc (.cells (opv 9 mm a b nn v (.slice A0 k cc)) 59)) := (Turns.refl _ _).alloc _
  have hX := h.alloc (.cells (opv 9 mm a b nn v (.slice A0 k cc)) 59)
  have hO := Blk.new w (opv 9 mm a b nn v (.slice A0 k cc)) 59
  have hS : StrsAt (w.alloc (.cells (opv 9 mm a b nn v (.slice A0 k cc)) 59)) A0 ss := fun i s hi => by
    obtain ⟨g, o, e, hc⟩ := hs i s hi
    exact ⟨g, o, e, turn_cell hT0 (fun hm => by
      have hx := hsa _ e (by rintro rfl; simp at hi)
      simp only [List.mem_cons, Option.mem_toList] at hm
      rcases hm with e2 | e2 | e2 | e2
      · exact hx.1 e2
      · exact hx.2.1 e2
      · exact hx.2.2.1 e2
      · exact hx.2.2.2.1 e2) hc⟩
  have hsz : (w.alloc (.cells (opv 9 mm a b nn v (.slice A0 k cc)) 59)).heap.size = w.heap.size + 1 := by simp
  obtain ⟨ob, hob⟩ : ∃ ob, Hid (ob = w.heap.size) := ⟨_, rfl⟩
  rw [← hob.out] at hO
  go_enter Try.func31, Try.ntmps31
  unfold opv at hT0 hX hO hS hsz ⊢
  go_upto_region 16 with (fail)
  rw [← hob.out]
  generalize World.alloc w _ = wz at hX hO hT0 hS hsz ⊢
  have o6 := hO.cell 6
  have hrm := Lib.hid (roomy2_to A0 cc ss k wz hk hS (by omega) (fun s hm => by have := hss s hm; omega))
  replace hT0 := Lib.hid hT0
  replace hX := Lib.hid hX
  replace hS := Lib.hid hS
  replace hsz := Lib.hid hsz
  go_wp2_with fail
  refine hrm.out.mono ?_
  rintro e w1 ⟨lv, wv, xs, ys, last, rfl, hb1, hl1, hm1, hxl, ⟨gl, rfl, hlast, hgl, hinc⟩, hparts⟩
  have hW : Wr w wz.heap.size p q r L n V V A ob (opv 9 mm a b nn v (.slice A0 k cc)) A0 ss lv wv xs ys gl 0 w1 :=
    ⟨hX.out.keep hb1, hT0.out.thenB hb1, hO.keep hb1, fun i s hi => by
        obtain ⟨g, o, e, hc⟩ := hS.out i s hi
        exact ⟨g, o, e, (hb1.cell (p := ⟨g, o + i, none⟩) (World.block_lt_of_cell? _ _ hc)).trans hc⟩,
      by rw [hk]; exact hl1, by rw [hk]; exact hm1, by rw [hxl, hk], hlast, hinc, fun i s _ hi => hparts i s hi, hX.out.mem.ptr.lt, hX.out.mem.dat.lt, hX.out.ref.ptr.lt, hO.lt, fun x e hne => by have := (hsa x e hne).2.2.2.2; have := hsz.out; omega, by have := hsz.out; omega, hgl⟩
  obtain ⟨glv, capl, rfl, hglv, hcapl, hcl⟩ := own_at hW.l (by omega)
  have hcap2 : (k : Int) ≤ capl := by omega
  replace hW := Lib.hid hW
  replace hcl := Lib.hid hcl
  clear hrm hl1 hm1 hlast hparts hinc o6 hb1 hO
  have o6 : w1.cell? ⟨ob, 6, none⟩ = some (.slice A0 k cc) := hW.out.blk.cell 6
  have hkk : ss.length + 1 = k + 1 := by omega
  rw [hkk]
  replace hkk := Lib.hid hkk
  go_upto_region 18 with (fail)
  go_cut [10] (fun ov wc => ov = .bool true ∧ ∃ L' V' A', Hid (Wr w wz.heap.size p q r L' n V V' A' ob (opv 9 mm a b nn v (.slice A0 k cc)) A0 ss (.slice (some ⟨glv, 0, none⟩) (ss.length + 1) capl) wv xs ys gl 0 wc) ∧ Hid (A'.length ≤ A.length + 1 ∧ MovedTo w V V'))
  case first =>
    have o2 : w1.cell? ⟨ob, 2, none⟩ = some (.int .i64 a) := hW.out.blk.cell 2
    have hY := Lib.hid hW.out.drew
    have hYp := Lib.hid (Wr.handed (cap := capl) hY.out hcl.out hglv)
    have hfl : ((ss.map (fun s => s.data.toList)).flatten) = (cat ss).data.toList := (cat_data ss).symm
    have hfs : ((ss.map (fun s => s.data.toList)).flatten).length = (cat ss).size := (cat_size ss).symm
    cases hi : insF n a ((cat ss).size : Int) with
    | false =>
      have c1 := write_out hY.out.pair.mem a _ capl _ hYp.out (by rw [List.length_map]; omega) (by rw [hfs]; omega) (by rw [hfs]; exact hi)
      have c2 := rwrite_out hY.out.pair.ref a A0 cc ss k hk hY.out.strs hs1 hs2 (by rw [hY.out.pair.len]; exact hi)
      rw [List.length_map, hk] at c1
      replace c1 := Lib.hid c1
      replace c2 := Lib.hid c2
      clear hfl hfs hi
      go_region_held3 (fun w' => w'.cell? ⟨ob, 2, none⟩ = some (.int .i64 a) ∧ w'.cell? ⟨ob, 6, none⟩ = some (.slice A0 k cc)) (first | exact ⟨o2, o6⟩ | exact ⟨by assumption, by assumption⟩ | go_keep) ((first | (go_at_call 17; (with_reducible refine c1.out.mono ?_); rintro e w' ⟨rfl, rfl⟩) | (go_at_call 43; (with_reducible refine c2.out.mono ?_); rintro e w' ⟨rfl, rfl⟩)))
      all_goals
        go_wp2_with fail
        go_meet
        case rel => exact ⟨by simp, L, V, A, hY.out, ⟨by omega, MovedTo.refl _ _⟩⟩
    | true =>
      obtain ⟨ha1, ha2, ha3⟩ := (insF_iff _ _ _).1 hi
      obtain ⟨a', rfl⟩ := Int.eq_ofNat_of_zero_le ha1
      have hfit : a' + (cat ss).size ≤ n := by omega
      have c1 := write_in hY.out.pair.mem a' _ capl _ hYp.out (by rw [List.length_map]; omega) (by rw [hfs]; exact hfit)
      rw [List.length_map, hk, hfl] at c1
      have hVb : Hid (∀ x, V.ownBlock = some x → x < w.heap.size) := fun x hx => row_lt h.ref.row x hx
      have hnq : Hid (∀ x, A0 = some x → ss ≠ [] → x.block ≠ q) := fun x e hne => (hsa x e hne).2.1
      have c2 := fun (w2 : World) (ht1 : Turns [q] w1.drew w2) => rwrite_in (hY.out.pair.refs ht1 (fun x hx => by simp at hx; simp [hx])) a' A0 cc ss k hk (fun i s hi => by
        obtain ⟨g, o, e, hc⟩ := hY.out.strs i s hi
        exact ⟨g, o, e, turn_cell ht1 (by simp; exact hnq.out _ e (by rintro rfl; simp at hi)) hc⟩) hs1 hs2 (by rw [hY.out.pair.len]; exact hfit) hA
      replace c1 := Lib.hid c1
      replace c2 := Lib.hid c2
      have hO1 := Lib.hid hY.out.blk
      have hoq : Hid (ob ≠ q) := by have := hY.out.hq; have := h.mem.dat.lt; have := hob.out; unfold Hid; omega
      have hop : Hid (ob ≠ p) := by have := h.mem.ptr.lt; have := hob.out; unfold Hid; omega
      have hor : Hid (ob ≠ r) := by have := h.ref.ptr.lt; have := hob.out; unfold Hid; omega
      have hle := Lib.hid h.mem.le
      have hcl2 : Hid ((cat ss).data.toList.length = (cat ss).size) := by unfold Hid; simp
      clear hfl hfs hi
      go_region_held3 (fun w' => w'.cell? ⟨ob, 2, none⟩ = some (.int .i64 a') ∧ w'.cell? ⟨ob, 6, none⟩ = some (.slice A0 k cc)) (first | exact ⟨o2, o6⟩ | exact ⟨by assumption, by assumption⟩ | go_keep) ((first
        | (go_at_call 17; (with_reducible refine c1.out.mono ?_); rintro e w2 ⟨rfl, hm1, ht1⟩; have o2 : w2.cell? ⟨ob, 2, none⟩ = some (.int .i64 a') := turn_cell ht1 (by simp; exact hoq.out) (hO1.out.cell 2); have o6 : w2.cell? ⟨ob, 6, none⟩ = some (.slice A0 k cc) := turn_cell ht1 (by simp; exact hoq.out) (hO1.out.cell 6))
        | (go_at_call 43; (with_reducible refine (c2.out _ ht1).mono ?_); rintro e w3 hw; obtain ⟨V', A', rfl, hR2, hl2, ht2, hmv⟩ := hw; have o2 : w3.cell? ⟨ob, 2, none⟩ = some (.int .i64 a') := turn_cell ht2 (by simp only [List.mem_cons, Option.mem_toList]; rintro (e | e); exact hor.out e; have := hVb.out _ e; have := hob.out; omega) o2; have o6 : w3.cell? ⟨ob, 6, none⟩ = some (.slice A0 k cc) := turn_cell ht2 (by simp only [List.mem_cons, Option.mem_toList]; rintro (e | e); exact hor.out e; have := hVb.out _ e; have := hob.out; omega) o6)))
      all_goals
        go_wp2_with fail
        go_meet
        case rel =>
          have htt : Turns (q :: r :: V.ownBlock.toList) w1.drew w3 := (ht1.more (fun x hx => Or.inl (by simp at hx; simp [hx]))).trans (ht2.more (fun x hx => Or.inl (by simp only [List.mem_cons] at hx ⊢; exact Or.inr hx)))
          have hP : Pair w3 p q r (splice L a' (cat ss).data.toList) n V' A' := by
            refine ⟨hm1.turn ht2 ?_ ?_, by rw [take_splice _ _ _ _ hle.out (by rw [hcl2.out]; exact hfit)]; exact hR2⟩
            · simp only [List.mem_cons, Option.mem_toList]
              rintro (e | e)
              · exact h.rp e.symm
              · exact h.vp _ e rfl
            · simp only [List.mem_cons, Option.mem_toList]
              rintro (e | e)
              · exact h.rq e.symm
              · exact h.vq _ e rfl
          refine ⟨by simp, _, V', A', hY.out.call htt (fun x hx => ?_) (fun x hx => ⟨by have := hVb.out x hx; have := hY.out.hb; omega, by have := hVb.out x hx; have := hob.out; omega, fun y e hne e2 => (hsa y e hne).2.2.2.1 (by rw [hx, e2])⟩) (fun e => hop.out e.symm) (fun e => hoq.out e.symm) (fun e => hor.out e.symm) (fun x e hne => ⟨(hsa x e hne).1, (hsa x e hne).2.1, (hsa x e hne).2.2.1⟩) hP, ⟨by omega, ?_⟩⟩
          · simp only [List.mem_cons, Option.mem_toList] at hx
            rcases hx with e | e | e
            · exact Or.inr (Or.inl e)
            · exact Or.inr (Or.inr (Or.inl e))
            · exact Or.inr (Or.inr (Or.inr e))
          · rcases hmv with hmv | ⟨k', hk', hk2⟩
            · exact Or.inl hmv
            · refine Or.inr ⟨k', hk', ?_⟩
              have h3 := ht1.size
              have h4 := hY.out.turns.size
              omega
  case rest =>
    obtain ⟨rfl, L', V', A', hW2, hM2⟩ := hcut
    have hlit : ∃ Aw capw, wv = .slice Aw k capw := by
      rcases hW2.out.m.2 with ⟨e, h0⟩ | ⟨g, cap, _, e, _⟩
      · exact ⟨none, 0, by rw [e, show k = 0 by omega]⟩
      · exact ⟨_, cap, by rw [e, hk]⟩
    obtain ⟨Aw, capw, rfl⟩ := hlit
    have c0 : wc.cell? ⟨glv, k, none⟩ = some (.slice (some ⟨gl, 0, none⟩) 6 6) := by
      obtain ⟨g9, cap9, e9, _, _, hc9⟩ := own_at hW2.out.l (by omega)
      have eg : glv = g9 := by injection e9 with e9; injection e9 with e9; injection e9
      rw [eg]
      exact hc9 k _ (by rw [List.getElem?_append_right (by have := hW2.out.len; omega), hW2.out.len, hk, Nat.sub_self]; rfl)
    have cb := behind_conv hW2.out.last
    have k0 : (0 : Int) ≤ k := by omega
    have k1 : (k : Int) < (k : Int) + 1 := by omega
    clear hW hcl o6
    go_wp2_with fail
    clear cb c0
    go_loopw [128] (fun iv wr => ∃ j : Nat, j ≤ k ∧ iv = .int .i64 j ∧ Hid (Wr w wz.heap.size p q r L' n V V' A' ob (opv 9 mm a b nn v (.slice A0 k cc)) A0 ss (.slice (some ⟨glv, 0, none⟩) (ss.length + 1) capl) (.slice Aw k capw) xs ys gl j wr)) (fun iv _ => (k - intOf iv).toNat)
    case atStart => exact ⟨0, by omega, rfl, hW2.out⟩
    case round =>
      clear hW2
      obtain ⟨j, hj, rfl, hW⟩ := hrel
      by_cases hlt : j < k
      · obtain ⟨s, hsj⟩ : ∃ s, Hid (ss[j]? = some s) := ⟨_, List.getElem?_eq_getElem (by rw [hk]; exact hlt)⟩
        have hsl := hss s (List.mem_of_getElem? hsj.out)
        obtain ⟨ga, oa, rfl, hcs⟩ := hW.out.strs j s hsj.out
        obtain ⟨vj, uj, hxj, hyj, g, c, rfl, rfl, hgb, hBB⟩ := hW.out.parts j s (Nat.le_refl _) hsj.out
        have hzl : s.data.toList.length = s.size := by simp
        rw [hzl] at hxj hyj
        obtain ⟨gw, capw', ew, _, _, hcw⟩ := own_at hW.out.m (by omega)
        obtain ⟨rfl, -, rfl⟩ : Aw = some ⟨gw, 0, none⟩ ∧ k = ss.length ∧ capw = capw' := by simpa using ew
        have cu := hcw j _ hyj
        have cv : wr.cell? ⟨glv, j, none⟩ = some (.slice (some ⟨g, 0, none⟩) s.size c) := by
          obtain ⟨g9, cap9, e9, _, _, hc9⟩ := own_at hW.out.l (by omega)
          have eg : glv = g9 := by injection e9 with e9; injection e9 with e9; injection e9
          rw [eg]
          exact hc9 j _ (by rw [List.getElem?_append_left (List.getElem?_eq_some_iff.1 hxj).1]; exact hxj)
        have o6 : wr.cell? ⟨ob, 6, none⟩ = some (.slice (some ⟨ga, oa, none⟩) k cc) := hW.out.blk.cell 6
        have hBp : BB wr g s.data.toList c := by
          have := hBB.part s.size (by simp)
          rwa [List.take_left' (by simp)] at this
        have x0 := conv_bb wr g (s.size + 1) c _ (s ++ { data := #[165] }) (by rw [ByteArray.data_append]; simp) (by simp) hBB
        have x1 := conv_bb wr.drew g (s.size + 1) c _ (s ++ { data := #[165] }) (by rw [ByteArray.data_append]; simp) (by simp) hBB
        have x2 := fun m => conv_bb (wr.drewN m) g (s.size + 1) c _ (s ++ { data := #[165] }) (by rw [ByteArray.data_append]; simp) (by simp) hBB
        have y0 := conv_bb wr g s.size c _ s rfl (by simp) hBp
        have y1 := conv_bb wr.drew g s.size c _ s rfl (by simp) hBp
        have y2 := fun m => conv_bb (wr.drewN m) g s.size c _ s rfl (by simp) hBp
        have j0 : (0 : Int) ≤ j := by omega
        have j1 : (j : Int) < k := by omega
        have j2 : (j : Int) < (k : Int) + 1 := by omega
        replace hBB := Lib.hid hBB
        replace hBp := Lib.hid hBp
        replace hxj := Lib.hid hxj
        replace hyj := Lib.hid hyj
        clear hcw ew hzl
        go_upto_region 24 with (fail)
        go_cut [154] (fun bv wx => bv = .bool false ∧ ∃ m, wx = wr.drewN m)
        case first =>
          go_quiet (fail)
          go_wp2_with fail
          go_meet
          case rel => exact ⟨by simp, _, rfl⟩
        case rest =>
          obtain ⟨rfl, m9, rfl⟩ := hcut
          have hW2 := Lib.hid (hW.out.next.drewN m9)
          have hB0 := Lib.hid (hBB.out.at (w' := wr.drewN m9) rfl)
          have hcl := hB0.out.len
          simp only [List.length_append, List.length_cons, List.length_nil] at hcl
          have hzl : s.data.toList.length = s.size := by simp
          rw [hzl] at hcl
          clear hW hBB hBp x0 x1 x2 y0 y1 y2 cu cv o6 hcs
          generalize wr.drewN m9 = wj at hW2 hB0 ⊢
          go_wp2_with fail
          go_loopw [157] (fun iv wx => ∃ t : Nat, t ≤ s.size + 1 ∧ iv = .int .i64 t ∧ Hid (∃ X : List UInt8, X.length = s.size + 1 ∧ BB wx g X c) ∧ Hid (Turns [g] wj wx)) (fun iv _ => (s.size + 1 - intOf iv).toNat)
          case atStart => exact ⟨0, by omega, rfl, ⟨_, by simp, hB0.out⟩, Turns.refl _ _⟩
          case round =>
            obtain ⟨wq, rfl⟩ : ∃ wq : World, wq = wr := ⟨_, rfl⟩
            obtain ⟨t, ht, rfl, hXB, hTt⟩ := hrel
            by_cases hlt2 : t < s.size + 1
            · obtain ⟨X, hXl, hXb⟩ := hXB.out
              obtain ⟨z, hz⟩ : ∃ z, X[t]? = some z := ⟨_, List.getElem?_eq_getElem (by omega)⟩
              have q1 := hXb.cell t z hz
              have q2 := (hXb.room t (by omega)).2
              have hsum : IntKind.u8.wrap ((z.toNat : Int) + 101) = ((z + 101).toNat : Int) := by
                rw [show IntKind.u8.wrap ((z.toNat : Int) + 101) = ((z.toNat : Int) + 101) % 256 by simp [IntKind.wrap, IntKind.signed, IntKind.bits], UInt8.toNat_add]
                simp
              have hset := Lib.hid (hXb.set t (z + 101) (by omega))
              have hts := Lib.hid (hTt.out.set g t (.int .u8 ((z + 101).toNat : Int)) (Or.inl (by simp)))
              have t0 : (0 : Int) ≤ t := by omega
              have t1 : (t : Int) < (s.size : Int) + 1 := by omega
              replace hXl := Lib.hid hXl
              clear hXb hXB hz
              go_wp2_with fail
              go_roundw
              case rel => exact ⟨t + 1, by omega, by go_num, ⟨_, by rw [List.length_set]; exact hXl.out, hset.out⟩, hts.out⟩
              case measure => simp [intOf]; omega
            · obtain rfl : t = s.size + 1 := by omega
              go_wp2_with fail
              go_roundw
              case rel => exact ⟨j + 1, by omega, by go_num, hW2.out.over hxj.out rfl hgb hB0.out hTt.out⟩
              case measure => simp [intOf]; omega
      · obtain rfl : j = k := by omega
        go_wp2_with fail
        go_ret
        exact ⟨q, L', n, V', A', rfl, hW.out.pair, hM2.out.1, hW.out.turns, Or.inl rfl, hM2.out.2⟩
end
end Go.Proofs.Ytkchhggbiopffaa
