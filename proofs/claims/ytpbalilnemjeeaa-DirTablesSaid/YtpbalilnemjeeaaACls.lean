/- What is proved here: plain facts on the classes of blocks: the class is the least of 16, 32, 48, 64, 96, .. that is enough. No condition. -/
set_option linter.unusedVariables false
set_option linter.unusedSimpArgs false
namespace Go.Proofs.Ytpbalilnemjeeaa.Pl
/-- the loop of doubling, with fuel -/
def twoOf (n : Int) : Nat → Int → Int
  | 0, x => x
  | k + 1, x => if x < n then twoOf n k (x * 2) else x
/-- the class of n where n is in range -/
def clsIn (n : Int) : Int :=
  if 24 < twoOf n 16 16 / 4 * 3 ∧ n ≤ twoOf n 16 16 / 4 * 3 then twoOf n 16 16 / 4 * 3 else twoOf n 16 16
def cls (n : Int) : Int := if 1 ≤ n ∧ n ≤ 1048576 then clsIn n else 0
theorem cls_out {n : Int} (h : n < 1 ∨ 1048576 < n) : cls n = 0 := by unfold cls; rw [if_neg (by omega)]
theorem cls_clsIn {n : Int} (h1 : 1 ≤ n) (h2 : n ≤ 1048576) : cls n = clsIn n := by unfold cls; rw [if_pos ⟨h1, h2⟩]
theorem twoOf_step (n : Int) (k : Nat) (x y : Int) (h : x < n) (hy : x * 2 = y) : twoOf n (k + 1) x = twoOf n k y := by
  simp only [twoOf]; rw [if_pos h, hy]
theorem twoOf_stop (n : Int) (k : Nat) (x : Int) (h : ¬ x < n) : twoOf n k x = x := by
  cases k with
  | zero => rfl
  | succ k => simp only [twoOf]; rw [if_neg h]
theorem cls_two (n t m : Int) (h1 : 1 ≤ n) (h2 : n ≤ 1048576) (ht : twoOf n 16 16 = t) (hm : t / 4 * 3 = m) (hn : ¬ (24 < m ∧ n ≤ m)) : cls n = t := by
  unfold cls clsIn; rw [if_pos ⟨h1, h2⟩, ht, hm, if_neg hn]
theorem cls_mid (n t m : Int) (h1 : 1 ≤ n) (h2 : n ≤ 1048576) (ht : twoOf n 16 16 = t) (hm : t / 4 * 3 = m) (h3 : 24 < m) (h4 : n ≤ m) : cls n = m := by
  unfold cls clsIn; rw [if_pos ⟨h1, h2⟩, ht, hm, if_pos ⟨h3, h4⟩]
theorem cls16 {n : Int} (h1 : 0 < n) (h2 : n ≤ 16) : cls n = 16 :=
  cls_two n 16 12 (by omega) (by omega) (by rw [twoOf_stop n _ 16 (by omega)]) (by decide) (by omega)
theorem cls32 {n : Int} (h1 : 16 < n) (h2 : n ≤ 32) : cls n = 32 :=
  cls_two n 32 24 (by omega) (by omega) (by rw [twoOf_step n _ 16 32 (by omega) (by decide), twoOf_stop n _ 32 (by omega)]) (by decide) (by omega)
theorem cls48 {n : Int} (h1 : 32 < n) (h2 : n ≤ 48) : cls n = 48 :=
  cls_mid n 64 48 (by omega) (by omega) (by rw [twoOf_step n _ 16 32 (by omega) (by decide), twoOf_step n _ 32 64 (by omega) (by decide), twoOf_stop n _ 64 (by omega)]) (by decide) (by decide) (by omega)
theorem cls64 {n : Int} (h1 : 48 < n) (h2 : n ≤ 64) : cls n = 64 :=
  cls_two n 64 48 (by omega) (by omega) (by rw [twoOf_step n _ 16 32 (by omega) (by decide), twoOf_step n _ 32 64 (by omega) (by decide), twoOf_stop n _ 64 (by omega)]) (by decide) (by omega)
theorem cls96 {n : Int} (h1 : 64 < n) (h2 : n ≤ 96) : cls n = 96 :=
  cls_mid n 128 96 (by omega) (by omega) (by rw [twoOf_step n _ 16 32 (by omega) (by decide), twoOf_step n _ 32 64 (by omega) (by decide), twoOf_step n _ 64 128 (by omega) (by decide), twoOf_stop n _ 128 (by omega)]) (by decide) (by decide) (by omega)
theorem cls128 {n : Int} (h1 : 96 < n) (h2 : n ≤ 128) : cls n = 128 :=
  cls_two n 128 96 (by omega) (by omega) (by rw [twoOf_step n _ 16 32 (by omega) (by decide), twoOf_step n _ 32 64 (by omega) (by decide), twoOf_step n _ 64 128 (by omega) (by decide), twoOf_stop n _ 128 (by omega)]) (by decide) (by omega)
theorem cls192 {n : Int} (h1 : 128 < n) (h2 : n ≤ 192) : cls n = 192 :=
  cls_mid n 256 192 (by omega) (by omega) (by rw [twoOf_step n _ 16 32 (by omega) (by decide), twoOf_step n _ 32 64 (by omega) (by decide), twoOf_step n _ 64 128 (by omega) (by decide), twoOf_step n _ 128 256 (by omega) (by decide), twoOf_stop n _ 256 (by omega)]) (by decide) (by decide) (by omega)
theorem cls256 {n : Int} (h1 : 192 < n) (h2 : n ≤ 256) : cls n = 256 :=
  cls_two n 256 192 (by omega) (by omega) (by rw [twoOf_step n _ 16 32 (by omega) (by decide), twoOf_step n _ 32 64 (by omega) (by decide), twoOf_step n _ 64 128 (by omega) (by decide), twoOf_step n _ 128 256 (by omega) (by decide), twoOf_stop n _ 256 (by omega)]) (by decide) (by omega)
theorem cls384 {n : Int} (h1 : 256 < n) (h2 : n ≤ 384) : cls n = 384 :=
  cls_mid n 512 384 (by omega) (by omega) (by rw [twoOf_step n _ 16 32 (by omega) (by decide), twoOf_step n _ 32 64 (by omega) (by decide), twoOf_step n _ 64 128 (by omega) (by decide), twoOf_step n _ 128 256 (by omega) (by decide), twoOf_step n _ 256 512 (by omega) (by decide), twoOf_stop n _ 512 (by omega)]) (by decide) (by decide) (by omega)
theorem cls512 {n : Int} (h1 : 384 < n) (h2 : n ≤ 512) : cls n = 512 :=
  cls_two n 512 384 (by omega) (by omega) (by rw [twoOf_step n _ 16 32 (by omega) (by decide), twoOf_step n _ 32 64 (by omega) (by decide), twoOf_step n _ 64 128 (by omega) (by decide), twoOf_step n _ 128 256 (by omega) (by decide), twoOf_step n _ 256 512 (by omega) (by decide), twoOf_stop n _ 512 (by omega)]) (by decide) (by omega)
theorem cls768 {n : Int} (h1 : 512 < n) (h2 : n ≤ 768) : cls n = 768 :=
  cls_mid n 1024 768 (by omega) (by omega) (by rw [twoOf_step n _ 16 32 (by omega) (by decide), twoOf_step n _ 32 64 (by omega) (by decide), twoOf_step n _ 64 128 (by omega) (by decide), twoOf_step n _ 128 256 (by omega) (by decide), twoOf_step n _ 256 512 (by omega) (by decide), twoOf_step n _ 512 1024 (by omega) (by decide), twoOf_stop n _ 1024 (by omega)]) (by decide) (by decide) (by omega)
theorem cls1024 {n : Int} (h1 : 768 < n) (h2 : n ≤ 1024) : cls n = 1024 :=
  cls_two n 1024 768 (by omega) (by omega) (by rw [twoOf_step n _ 16 32 (by omega) (by decide), twoOf_step n _ 32 64 (by omega) (by decide), twoOf_step n _ 64 128 (by omega) (by decide), twoOf_step n _ 128 256 (by omega) (by decide), twoOf_step n _ 256 512 (by omega) (by decide), twoOf_step n _ 512 1024 (by omega) (by decide), twoOf_stop n _ 1024 (by omega)]) (by decide) (by omega)
theorem cls1536 {n : Int} (h1 : 1024 < n) (h2 : n ≤ 1536) : cls n = 1536 :=
  cls_mid n 2048 1536 (by omega) (by omega) (by rw [twoOf_step n _ 16 32 (by omega) (by decide), twoOf_step n _ 32 64 (by omega) (by decide), twoOf_step n _ 64 128 (by omega) (by decide), twoOf_step n _ 128 256 (by omega) (by decide), twoOf_step n _ 256 512 (by omega) (by decide), twoOf_step n _ 512 1024 (by omega) (by decide), twoOf_step n _ 1024 2048 (by omega) (by decide), twoOf_stop n _ 2048 (by omega)]) (by decide) (by decide) (by omega)
theorem cls2048 {n : Int} (h1 : 1536 < n) (h2 : n ≤ 2048) : cls n = 2048 :=
  cls_two n 2048 1536 (by omega) (by omega) (by rw [twoOf_step n _ 16 32 (by omega) (by decide), twoOf_step n _ 32 64 (by omega) (by decide), twoOf_step n _ 64 128 (by omega) (by decide), twoOf_step n _ 128 256 (by omega) (by decide), twoOf_step n _ 256 512 (by omega) (by decide), twoOf_step n _ 512 1024 (by omega) (by decide), twoOf_step n _ 1024 2048 (by omega) (by decide), twoOf_stop n _ 2048 (by omega)]) (by decide) (by omega)
theorem cls3072 {n : Int} (h1 : 2048 < n) (h2 : n ≤ 3072) : cls n = 3072 :=
  cls_mid n 4096 3072 (by omega) (by omega) (by rw [twoOf_step n _ 16 32 (by omega) (by decide), twoOf_step n _ 32 64 (by omega) (by decide), twoOf_step n _ 64 128 (by omega) (by decide), twoOf_step n _ 128 256 (by omega) (by decide), twoOf_step n _ 256 512 (by omega) (by decide), twoOf_step n _ 512 1024 (by omega) (by decide), twoOf_step n _ 1024 2048 (by omega) (by decide), twoOf_step n _ 2048 4096 (by omega) (by decide), twoOf_stop n _ 4096 (by omega)]) (by decide) (by decide) (by omega)
theorem cls4096 {n : Int} (h1 : 3072 < n) (h2 : n ≤ 4096) : cls n = 4096 :=
  cls_two n 4096 3072 (by omega) (by omega) (by rw [twoOf_step n _ 16 32 (by omega) (by decide), twoOf_step n _ 32 64 (by omega) (by decide), twoOf_step n _ 64 128 (by omega) (by decide), twoOf_step n _ 128 256 (by omega) (by decide), twoOf_step n _ 256 512 (by omega) (by decide), twoOf_step n _ 512 1024 (by omega) (by decide), twoOf_step n _ 1024 2048 (by omega) (by decide), twoOf_step n _ 2048 4096 (by omega) (by decide), twoOf_stop n _ 4096 (by omega)]) (by decide) (by omega)
theorem cls6144 {n : Int} (h1 : 4096 < n) (h2 : n ≤ 6144) : cls n = 6144 :=
  cls_mid n 8192 6144 (by omega) (by omega) (by rw [twoOf_step n _ 16 32 (by omega) (by decide), twoOf_step n _ 32 64 (by omega) (by decide), twoOf_step n _ 64 128 (by omega) (by decide), twoOf_step n _ 128 256 (by omega) (by decide), twoOf_step n _ 256 512 (by omega) (by decide), twoOf_step n _ 512 1024 (by omega) (by decide), twoOf_step n _ 1024 2048 (by omega) (by decide), twoOf_step n _ 2048 4096 (by omega) (by decide), twoOf_step n _ 4096 8192 (by omega) (by decide), twoOf_stop n _ 8192 (by omega)]) (by decide) (by decide) (by omega)
theorem cls8192 {n : Int} (h1 : 6144 < n) (h2 : n ≤ 8192) : cls n = 8192 :=
  cls_two n 8192 6144 (by omega) (by omega) (by rw [twoOf_step n _ 16 32 (by omega) (by decide), twoOf_step n _ 32 64 (by omega) (by decide), twoOf_step n _ 64 128 (by omega) (by decide), twoOf_step n _ 128 256 (by omega) (by decide), twoOf_step n _ 256 512 (by omega) (by decide), twoOf_step n _ 512 1024 (by omega) (by decide), twoOf_step n _ 1024 2048 (by omega) (by decide), twoOf_step n _ 2048 4096 (by omega) (by decide), twoOf_step n _ 4096 8192 (by omega) (by decide), twoOf_stop n _ 8192 (by omega)]) (by decide) (by omega)
theorem cls12288 {n : Int} (h1 : 8192 < n) (h2 : n ≤ 12288) : cls n = 12288 :=
  cls_mid n 16384 12288 (by omega) (by omega) (by rw [twoOf_step n _ 16 32 (by omega) (by decide), twoOf_step n _ 32 64 (by omega) (by decide), twoOf_step n _ 64 128 (by omega) (by decide), twoOf_step n _ 128 256 (by omega) (by decide), twoOf_step n _ 256 512 (by omega) (by decide), twoOf_step n _ 512 1024 (by omega) (by decide), twoOf_step n _ 1024 2048 (by omega) (by decide), twoOf_step n _ 2048 4096 (by omega) (by decide), twoOf_step n _ 4096 8192 (by omega) (by decide), twoOf_step n _ 8192 16384 (by omega) (by decide), twoOf_stop n _ 16384 (by omega)]) (by decide) (by decide) (by omega)
theorem cls16384 {n : Int} (h1 : 12288 < n) (h2 : n ≤ 16384) : cls n = 16384 :=
  cls_two n 16384 12288 (by omega) (by omega) (by rw [twoOf_step n _ 16 32 (by omega) (by decide), twoOf_step n _ 32 64 (by omega) (by decide), twoOf_step n _ 64 128 (by omega) (by decide), twoOf_step n _ 128 256 (by omega) (by decide), twoOf_step n _ 256 512 (by omega) (by decide), twoOf_step n _ 512 1024 (by omega) (by decide), twoOf_step n _ 1024 2048 (by omega) (by decide), twoOf_step n _ 2048 4096 (by omega) (by decide), twoOf_step n _ 4096 8192 (by omega) (by decide), twoOf_step n _ 8192 16384 (by omega) (by decide), twoOf_stop n _ 16384 (by omega)]) (by decide) (by omega)
theorem cls24576 {n : Int} (h1 : 16384 < n) (h2 : n ≤ 24576) : cls n = 24576 :=
  cls_mid n 32768 24576 (by omega) (by omega) (by rw [twoOf_step n _ 16 32 (by omega) (by decide), twoOf_step n _ 32 64 (by omega) (by decide), twoOf_step n _ 64 128 (by omega) (by decide), twoOf_step n _ 128 256 (by omega) (by decide), twoOf_step n _ 256 512 (by omega) (by decide), twoOf_step n _ 512 1024 (by omega) (by decide), twoOf_step n _ 1024 2048 (by omega) (by decide), twoOf_step n _ 2048 4096 (by omega) (by decide), twoOf_step n _ 4096 8192 (by omega) (by decide), twoOf_step n _ 8192 16384 (by omega) (by decide), twoOf_step n _ 16384 32768 (by omega) (by decide), twoOf_stop n _ 32768 (by omega)]) (by decide) (by decide) (by omega)
theorem cls32768 {n : Int} (h1 : 24576 < n) (h2 : n ≤ 32768) : cls n = 32768 :=
  cls_two n 32768 24576 (by omega) (by omega) (by rw [twoOf_step n _ 16 32 (by omega) (by decide), twoOf_step n _ 32 64 (by omega) (by decide), twoOf_step n _ 64 128 (by omega) (by decide), twoOf_step n _ 128 256 (by omega) (by decide), twoOf_step n _ 256 512 (by omega) (by decide), twoOf_step n _ 512 1024 (by omega) (by decide), twoOf_step n _ 1024 2048 (by omega) (by decide), twoOf_step n _ 2048 4096 (by omega) (by decide), twoOf_step n _ 4096 8192 (by omega) (by decide), twoOf_step n _ 8192 16384 (by omega) (by decide), twoOf_step n _ 16384 32768 (by omega) (by decide), twoOf_stop n _ 32768 (by omega)]) (by decide) (by omega)
theorem cls49152 {n : Int} (h1 : 32768 < n) (h2 : n ≤ 49152) : cls n = 49152 :=
  cls_mid n 65536 49152 (by omega) (by omega) (by rw [twoOf_step n _ 16 32 (by omega) (by decide), twoOf_step n _ 32 64 (by omega) (by decide), twoOf_step n _ 64 128 (by omega) (by decide), twoOf_step n _ 128 256 (by omega) (by decide), twoOf_step n _ 256 512 (by omega) (by decide), twoOf_step n _ 512 1024 (by omega) (by decide), twoOf_step n _ 1024 2048 (by omega) (by decide), twoOf_step n _ 2048 4096 (by omega) (by decide), twoOf_step n _ 4096 8192 (by omega) (by decide), twoOf_step n _ 8192 16384 (by omega) (by decide), twoOf_step n _ 16384 32768 (by omega) (by decide), twoOf_step n _ 32768 65536 (by omega) (by decide), twoOf_stop n _ 65536 (by omega)]) (by decide) (by decide) (by omega)
theorem cls65536 {n : Int} (h1 : 49152 < n) (h2 : n ≤ 65536) : cls n = 65536 :=
  cls_two n 65536 49152 (by omega) (by omega) (by rw [twoOf_step n _ 16 32 (by omega) (by decide), twoOf_step n _ 32 64 (by omega) (by decide), twoOf_step n _ 64 128 (by omega) (by decide), twoOf_step n _ 128 256 (by omega) (by decide), twoOf_step n _ 256 512 (by omega) (by decide), twoOf_step n _ 512 1024 (by omega) (by decide), twoOf_step n _ 1024 2048 (by omega) (by decide), twoOf_step n _ 2048 4096 (by omega) (by decide), twoOf_step n _ 4096 8192 (by omega) (by decide), twoOf_step n _ 8192 16384 (by omega) (by decide), twoOf_step n _ 16384 32768 (by omega) (by decide), twoOf_step n _ 32768 65536 (by omega) (by decide), twoOf_stop n _ 65536 (by omega)]) (by decide) (by omega)
theorem cls98304 {n : Int} (h1 : 65536 < n) (h2 : n ≤ 98304) : cls n = 98304 :=
  cls_mid n 131072 98304 (by omega) (by omega) (by rw [twoOf_step n _ 16 32 (by omega) (by decide), twoOf_step n _ 32 64 (by omega) (by decide), twoOf_step n _ 64 128 (by omega) (by decide), twoOf_step n _ 128 256 (by omega) (by decide), twoOf_step n _ 256 512 (by omega) (by decide), twoOf_step n _ 512 1024 (by omega) (by decide), twoOf_step n _ 1024 2048 (by omega) (by decide), twoOf_step n _ 2048 4096 (by omega) (by decide), twoOf_step n _ 4096 8192 (by omega) (by decide), twoOf_step n _ 8192 16384 (by omega) (by decide), twoOf_step n _ 16384 32768 (by omega) (by decide), twoOf_step n _ 32768 65536 (by omega) (by decide), twoOf_step n _ 65536 131072 (by omega) (by decide), twoOf_stop n _ 131072 (by omega)]) (by decide) (by decide) (by omega)
theorem cls131072 {n : Int} (h1 : 98304 < n) (h2 : n ≤ 131072) : cls n = 131072 :=
  cls_two n 131072 98304 (by omega) (by omega) (by rw [twoOf_step n _ 16 32 (by omega) (by decide), twoOf_step n _ 32 64 (by omega) (by decide), twoOf_step n _ 64 128 (by omega) (by decide), twoOf_step n _ 128 256 (by omega) (by decide), twoOf_step n _ 256 512 (by omega) (by decide), twoOf_step n _ 512 1024 (by omega) (by decide), twoOf_step n _ 1024 2048 (by omega) (by decide), twoOf_step n _ 2048 4096 (by omega) (by decide), twoOf_step n _ 4096 8192 (by omega) (by decide), twoOf_step n _ 8192 16384 (by omega) (by decide), twoOf_step n _ 16384 32768 (by omega) (by decide), twoOf_step n _ 32768 65536 (by omega) (by decide), twoOf_step n _ 65536 131072 (by omega) (by decide), twoOf_stop n _ 131072 (by omega)]) (by decide) (by omega)
theorem cls196608 {n : Int} (h1 : 131072 < n) (h2 : n ≤ 196608) : cls n = 196608 :=
  cls_mid n 262144 196608 (by omega) (by omega) (by rw [twoOf_step n _ 16 32 (by omega) (by decide), twoOf_step n _ 32 64 (by omega) (by decide), twoOf_step n _ 64 128 (by omega) (by decide), twoOf_step n _ 128 256 (by omega) (by decide), twoOf_step n _ 256 512 (by omega) (by decide), twoOf_step n _ 512 1024 (by omega) (by decide), twoOf_step n _ 1024 2048 (by omega) (by decide), twoOf_step n _ 2048 4096 (by omega) (by decide), twoOf_step n _ 4096 8192 (by omega) (by decide), twoOf_step n _ 8192 16384 (by omega) (by decide), twoOf_step n _ 16384 32768 (by omega) (by decide), twoOf_step n _ 32768 65536 (by omega) (by decide), twoOf_step n _ 65536 131072 (by omega) (by decide), twoOf_step n _ 131072 262144 (by omega) (by decide), twoOf_stop n _ 262144 (by omega)]) (by decide) (by decide) (by omega)
theorem cls262144 {n : Int} (h1 : 196608 < n) (h2 : n ≤ 262144) : cls n = 262144 :=
  cls_two n 262144 196608 (by omega) (by omega) (by rw [twoOf_step n _ 16 32 (by omega) (by decide), twoOf_step n _ 32 64 (by omega) (by decide), twoOf_step n _ 64 128 (by omega) (by decide), twoOf_step n _ 128 256 (by omega) (by decide), twoOf_step n _ 256 512 (by omega) (by decide), twoOf_step n _ 512 1024 (by omega) (by decide), twoOf_step n _ 1024 2048 (by omega) (by decide), twoOf_step n _ 2048 4096 (by omega) (by decide), twoOf_step n _ 4096 8192 (by omega) (by decide), twoOf_step n _ 8192 16384 (by omega) (by decide), twoOf_step n _ 16384 32768 (by omega) (by decide), twoOf_step n _ 32768 65536 (by omega) (by decide), twoOf_step n _ 65536 131072 (by omega) (by decide), twoOf_step n _ 131072 262144 (by omega) (by decide), twoOf_stop n _ 262144 (by omega)]) (by decide) (by omega)
theorem cls393216 {n : Int} (h1 : 262144 < n) (h2 : n ≤ 393216) : cls n = 393216 :=
  cls_mid n 524288 393216 (by omega) (by omega) (by rw [twoOf_step n _ 16 32 (by omega) (by decide), twoOf_step n _ 32 64 (by omega) (by decide), twoOf_step n _ 64 128 (by omega) (by decide), twoOf_step n _ 128 256 (by omega) (by decide), twoOf_step n _ 256 512 (by omega) (by decide), twoOf_step n _ 512 1024 (by omega) (by decide), twoOf_step n _ 1024 2048 (by omega) (by decide), twoOf_step n _ 2048 4096 (by omega) (by decide), twoOf_step n _ 4096 8192 (by omega) (by decide), twoOf_step n _ 8192 16384 (by omega) (by decide), twoOf_step n _ 16384 32768 (by omega) (by decide), twoOf_step n _ 32768 65536 (by omega) (by decide), twoOf_step n _ 65536 131072 (by omega) (by decide), twoOf_step n _ 131072 262144 (by omega) (by decide), twoOf_step n _ 262144 524288 (by omega) (by decide), twoOf_stop n _ 524288 (by omega)]) (by decide) (by decide) (by omega)
theorem cls524288 {n : Int} (h1 : 393216 < n) (h2 : n ≤ 524288) : cls n = 524288 :=
  cls_two n 524288 393216 (by omega) (by omega) (by rw [twoOf_step n _ 16 32 (by omega) (by decide), twoOf_step n _ 32 64 (by omega) (by decide), twoOf_step n _ 64 128 (by omega) (by decide), twoOf_step n _ 128 256 (by omega) (by decide), twoOf_step n _ 256 512 (by omega) (by decide), twoOf_step n _ 512 1024 (by omega) (by decide), twoOf_step n _ 1024 2048 (by omega) (by decide), twoOf_step n _ 2048 4096 (by omega) (by decide), twoOf_step n _ 4096 8192 (by omega) (by decide), twoOf_step n _ 8192 16384 (by omega) (by decide), twoOf_step n _ 16384 32768 (by omega) (by decide), twoOf_step n _ 32768 65536 (by omega) (by decide), twoOf_step n _ 65536 131072 (by omega) (by decide), twoOf_step n _ 131072 262144 (by omega) (by decide), twoOf_step n _ 262144 524288 (by omega) (by decide), twoOf_stop n _ 524288 (by omega)]) (by decide) (by omega)
theorem cls786432 {n : Int} (h1 : 524288 < n) (h2 : n ≤ 786432) : cls n = 786432 :=
  cls_mid n 1048576 786432 (by omega) (by omega) (by rw [twoOf_step n _ 16 32 (by omega) (by decide), twoOf_step n _ 32 64 (by omega) (by decide), twoOf_step n _ 64 128 (by omega) (by decide), twoOf_step n _ 128 256 (by omega) (by decide), twoOf_step n _ 256 512 (by omega) (by decide), twoOf_step n _ 512 1024 (by omega) (by decide), twoOf_step n _ 1024 2048 (by omega) (by decide), twoOf_step n _ 2048 4096 (by omega) (by decide), twoOf_step n _ 4096 8192 (by omega) (by decide), twoOf_step n _ 8192 16384 (by omega) (by decide), twoOf_step n _ 16384 32768 (by omega) (by decide), twoOf_step n _ 32768 65536 (by omega) (by decide), twoOf_step n _ 65536 131072 (by omega) (by decide), twoOf_step n _ 131072 262144 (by omega) (by decide), twoOf_step n _ 262144 524288 (by omega) (by decide), twoOf_step n _ 524288 1048576 (by omega) (by decide), twoOf_stop n _ 1048576 (by omega)]) (by decide) (by decide) (by omega)
theorem cls1048576 {n : Int} (h1 : 786432 < n) (h2 : n ≤ 1048576) : cls n = 1048576 :=
  cls_two n 1048576 786432 (by omega) (by omega) (by rw [twoOf_step n _ 16 32 (by omega) (by decide), twoOf_step n _ 32 64 (by omega) (by decide), twoOf_step n _ 64 128 (by omega) (by decide), twoOf_step n _ 128 256 (by omega) (by decide), twoOf_step n _ 256 512 (by omega) (by decide), twoOf_step n _ 512 1024 (by omega) (by decide), twoOf_step n _ 1024 2048 (by omega) (by decide), twoOf_step n _ 2048 4096 (by omega) (by decide), twoOf_step n _ 4096 8192 (by omega) (by decide), twoOf_step n _ 8192 16384 (by omega) (by decide), twoOf_step n _ 16384 32768 (by omega) (by decide), twoOf_step n _ 32768 65536 (by omega) (by decide), twoOf_step n _ 65536 131072 (by omega) (by decide), twoOf_step n _ 131072 262144 (by omega) (by decide), twoOf_step n _ 262144 524288 (by omega) (by decide), twoOf_step n _ 524288 1048576 (by omega) (by decide), twoOf_stop n _ 1048576 (by omega)]) (by decide) (by omega)
/-- of each n in range: its class c, the class b below it, the odd part o of c and the power j of two in c / 16 -/
structure At (n c b o : Int) (j : Nat) : Prop where
  cls : cls n = c
  lo : b < n
  hi : n ≤ c
  c16 : 16 ≤ c
  top : c ≤ 1048576
  mul : c = 16 * (o * 2 ^ j)
  jle : j ≤ 16
  odd : o = 1 ∨ o = 3
  self : Pl.cls c = c
  bself : b = 0 ∨ Pl.cls b = b
  next : Pl.cls (b + 1) = c
  b0 : 0 ≤ b
  below : b = if c = 16 then 0 else if c = 32 then 16 else if o = 3 then c / 3 * 2 else c / 4 * 3
  blt : b < c
theorem cls_at {n : Int} (h1 : 1 ≤ n) (h2 : n ≤ 1048576) : ∃ c b o, ∃ j : Nat, At n c b o j := by
  have h0 : 0 < n := by omega
  by_cases h16 : n ≤ 16
  · exact ⟨16, 0, 1, 0, cls16 h0 h16, h0, h16, by decide, by decide, by decide, by decide, by decide, cls16 (by decide) (by decide), Or.inl rfl, cls16 (by decide) (by decide), by decide, by decide, by decide⟩
  replace h16 : 16 < n := by omega
  by_cases h32 : n ≤ 32
  · exact ⟨32, 16, 1, 1, cls32 h16 h32, h16, h32, by decide, by decide, by decide, by decide, by decide, cls32 (by decide) (by decide), Or.inr (cls16 (by decide) (by decide)), cls32 (by decide) (by decide), by decide, by decide, by decide⟩
  replace h32 : 32 < n := by omega
  by_cases h48 : n ≤ 48
  · exact ⟨48, 32, 3, 0, cls48 h32 h48, h32, h48, by decide, by decide, by decide, by decide, by decide, cls48 (by decide) (by decide), Or.inr (cls32 (by decide) (by decide)), cls48 (by decide) (by decide), by decide, by decide, by decide⟩
  replace h48 : 48 < n := by omega
  by_cases h64 : n ≤ 64
  · exact ⟨64, 48, 1, 2, cls64 h48 h64, h48, h64, by decide, by decide, by decide, by decide, by decide, cls64 (by decide) (by decide), Or.inr (cls48 (by decide) (by decide)), cls64 (by decide) (by decide), by decide, by decide, by decide⟩
  replace h64 : 64 < n := by omega
  by_cases h96 : n ≤ 96
  · exact ⟨96, 64, 3, 1, cls96 h64 h96, h64, h96, by decide, by decide, by decide, by decide, by decide, cls96 (by decide) (by decide), Or.inr (cls64 (by decide) (by decide)), cls96 (by decide) (by decide), by decide, by decide, by decide⟩
  replace h96 : 96 < n := by omega
  by_cases h128 : n ≤ 128
  · exact ⟨128, 96, 1, 3, cls128 h96 h128, h96, h128, by decide, by decide, by decide, by decide, by decide, cls128 (by decide) (by decide), Or.inr (cls96 (by decide) (by decide)), cls128 (by decide) (by decide), by decide, by decide, by decide⟩
  replace h128 : 128 < n := by omega
  by_cases h192 : n ≤ 192
  · exact ⟨192, 128, 3, 2, cls192 h128 h192, h128, h192, by decide, by decide, by decide, by decide, by decide, cls192 (by decide) (by decide), Or.inr (cls128 (by decide) (by decide)), cls192 (by decide) (by decide), by decide, by decide, by decide⟩
  replace h192 : 192 < n := by omega
  by_cases h256 : n ≤ 256
  · exact ⟨256, 192, 1, 4, cls256 h192 h256, h192, h256, by decide, by decide, by decide, by decide, by decide, cls256 (by decide) (by decide), Or.inr (cls192 (by decide) (by decide)), cls256 (by decide) (by decide), by decide, by decide, by decide⟩
  replace h256 : 256 < n := by omega
  by_cases h384 : n ≤ 384
  · exact ⟨384, 256, 3, 3, cls384 h256 h384, h256, h384, by decide, by decide, by decide, by decide, by decide, cls384 (by decide) (by decide), Or.inr (cls256 (by decide) (by decide)), cls384 (by decide) (by decide), by decide, by decide, by decide⟩
  replace h384 : 384 < n := by omega
  by_cases h512 : n ≤ 512
  · exact ⟨512, 384, 1, 5, cls512 h384 h512, h384, h512, by decide, by decide, by decide, by decide, by decide, cls512 (by decide) (by decide), Or.inr (cls384 (by decide) (by decide)), cls512 (by decide) (by decide), by decide, by decide, by decide⟩
  replace h512 : 512 < n := by omega
  by_cases h768 : n ≤ 768
  · exact ⟨768, 512, 3, 4, cls768 h512 h768, h512, h768, by decide, by decide, by decide, by decide, by decide, cls768 (by decide) (by decide), Or.inr (cls512 (by decide) (by decide)), cls768 (by decide) (by decide), by decide, by decide, by decide⟩
  replace h768 : 768 < n := by omega
  by_cases h1024 : n ≤ 1024
  · exact ⟨1024, 768, 1, 6, cls1024 h768 h1024, h768, h1024, by decide, by decide, by decide, by decide, by decide, cls1024 (by decide) (by decide), Or.inr (cls768 (by decide) (by decide)), cls1024 (by decide) (by decide), by decide, by decide, by decide⟩
  replace h1024 : 1024 < n := by omega
  by_cases h1536 : n ≤ 1536
  · exact ⟨1536, 1024, 3, 5, cls1536 h1024 h1536, h1024, h1536, by decide, by decide, by decide, by decide, by decide, cls1536 (by decide) (by decide), Or.inr (cls1024 (by decide) (by decide)), cls1536 (by decide) (by decide), by decide, by decide, by decide⟩
  replace h1536 : 1536 < n := by omega
  by_cases h2048 : n ≤ 2048
  · exact ⟨2048, 1536, 1, 7, cls2048 h1536 h2048, h1536, h2048, by decide, by decide, by decide, by decide, by decide, cls2048 (by decide) (by decide), Or.inr (cls1536 (by decide) (by decide)), cls2048 (by decide) (by decide), by decide, by decide, by decide⟩
  replace h2048 : 2048 < n := by omega
  by_cases h3072 : n ≤ 3072
  · exact ⟨3072, 2048, 3, 6, cls3072 h2048 h3072, h2048, h3072, by decide, by decide, by decide, by decide, by decide, cls3072 (by decide) (by decide), Or.inr (cls2048 (by decide) (by decide)), cls3072 (by decide) (by decide), by decide, by decide, by decide⟩
  replace h3072 : 3072 < n := by omega
  by_cases h4096 : n ≤ 4096
  · exact ⟨4096, 3072, 1, 8, cls4096 h3072 h4096, h3072, h4096, by decide, by decide, by decide, by decide, by decide, cls4096 (by decide) (by decide), Or.inr (cls3072 (by decide) (by decide)), cls4096 (by decide) (by decide), by decide, by decide, by decide⟩
  replace h4096 : 4096 < n := by omega
  by_cases h6144 : n ≤ 6144
  · exact ⟨6144, 4096, 3, 7, cls6144 h4096 h6144, h4096, h6144, by decide, by decide, by decide, by decide, by decide, cls6144 (by decide) (by decide), Or.inr (cls4096 (by decide) (by decide)), cls6144 (by decide) (by decide), by decide, by decide, by decide⟩
  replace h6144 : 6144 < n := by omega
  by_cases h8192 : n ≤ 8192
  · exact ⟨8192, 6144, 1, 9, cls8192 h6144 h8192, h6144, h8192, by decide, by decide, by decide, by decide, by decide, cls8192 (by decide) (by decide), Or.inr (cls6144 (by decide) (by decide)), cls8192 (by decide) (by decide), by decide, by decide, by decide⟩
  replace h8192 : 8192 < n := by omega
  by_cases h12288 : n ≤ 12288
  · exact ⟨12288, 8192, 3, 8, cls12288 h8192 h12288, h8192, h12288, by decide, by decide, by decide, by decide, by decide, cls12288 (by decide) (by decide), Or.inr (cls8192 (by decide) (by decide)), cls12288 (by decide) (by decide), by decide, by decide, by decide⟩
  replace h12288 : 12288 < n := by omega
  by_cases h16384 : n ≤ 16384
  · exact ⟨16384, 12288, 1, 10, cls16384 h12288 h16384, h12288, h16384, by decide, by decide, by decide, by decide, by decide, cls16384 (by decide) (by decide), Or.inr (cls12288 (by decide) (by decide)), cls16384 (by decide) (by decide), by decide, by decide, by decide⟩
  replace h16384 : 16384 < n := by omega
  by_cases h24576 : n ≤ 24576
  · exact ⟨24576, 16384, 3, 9, cls24576 h16384 h24576, h16384, h24576, by decide, by decide, by decide, by decide, by decide, cls24576 (by decide) (by decide), Or.inr (cls16384 (by decide) (by decide)), cls24576 (by decide) (by decide), by decide, by decide, by decide⟩
  replace h24576 : 24576 < n := by omega
  by_cases h32768 : n ≤ 32768
  · exact ⟨32768, 24576, 1, 11, cls32768 h24576 h32768, h24576, h32768, by decide, by decide, by decide, by decide, by decide, cls32768 (by decide) (by decide), Or.inr (cls24576 (by decide) (by decide)), cls32768 (by decide) (by decide), by decide, by decide, by decide⟩
  replace h32768 : 32768 < n := by omega
  by_cases h49152 : n ≤ 49152
  · exact ⟨49152, 32768, 3, 10, cls49152 h32768 h49152, h32768, h49152, by decide, by decide, by decide, by decide, by decide, cls49152 (by decide) (by decide), Or.inr (cls32768 (by decide) (by decide)), cls49152 (by decide) (by decide), by decide, by decide, by decide⟩
  replace h49152 : 49152 < n := by omega
  by_cases h65536 : n ≤ 65536
  · exact ⟨65536, 49152, 1, 12, cls65536 h49152 h65536, h49152, h65536, by decide, by decide, by decide, by decide, by decide, cls65536 (by decide) (by decide), Or.inr (cls49152 (by decide) (by decide)), cls65536 (by decide) (by decide), by decide, by decide, by decide⟩
  replace h65536 : 65536 < n := by omega
  by_cases h98304 : n ≤ 98304
  · exact ⟨98304, 65536, 3, 11, cls98304 h65536 h98304, h65536, h98304, by decide, by decide, by decide, by decide, by decide, cls98304 (by decide) (by decide), Or.inr (cls65536 (by decide) (by decide)), cls98304 (by decide) (by decide), by decide, by decide, by decide⟩
  replace h98304 : 98304 < n := by omega
  by_cases h131072 : n ≤ 131072
  · exact ⟨131072, 98304, 1, 13, cls131072 h98304 h131072, h98304, h131072, by decide, by decide, by decide, by decide, by decide, cls131072 (by decide) (by decide), Or.inr (cls98304 (by decide) (by decide)), cls131072 (by decide) (by decide), by decide, by decide, by decide⟩
  replace h131072 : 131072 < n := by omega
  by_cases h196608 : n ≤ 196608
  · exact ⟨196608, 131072, 3, 12, cls196608 h131072 h196608, h131072, h196608, by decide, by decide, by decide, by decide, by decide, cls196608 (by decide) (by decide), Or.inr (cls131072 (by decide) (by decide)), cls196608 (by decide) (by decide), by decide, by decide, by decide⟩
  replace h196608 : 196608 < n := by omega
  by_cases h262144 : n ≤ 262144
  · exact ⟨262144, 196608, 1, 14, cls262144 h196608 h262144, h196608, h262144, by decide, by decide, by decide, by decide, by decide, cls262144 (by decide) (by decide), Or.inr (cls196608 (by decide) (by decide)), cls262144 (by decide) (by decide), by decide, by decide, by decide⟩
  replace h262144 : 262144 < n := by omega
  by_cases h393216 : n ≤ 393216
  · exact ⟨393216, 262144, 3, 13, cls393216 h262144 h393216, h262144, h393216, by decide, by decide, by decide, by decide, by decide, cls393216 (by decide) (by decide), Or.inr (cls262144 (by decide) (by decide)), cls393216 (by decide) (by decide), by decide, by decide, by decide⟩
  replace h393216 : 393216 < n := by omega
  by_cases h524288 : n ≤ 524288
  · exact ⟨524288, 393216, 1, 15, cls524288 h393216 h524288, h393216, h524288, by decide, by decide, by decide, by decide, by decide, cls524288 (by decide) (by decide), Or.inr (cls393216 (by decide) (by decide)), cls524288 (by decide) (by decide), by decide, by decide, by decide⟩
  replace h524288 : 524288 < n := by omega
  by_cases h786432 : n ≤ 786432
  · exact ⟨786432, 524288, 3, 14, cls786432 h524288 h786432, h524288, h786432, by decide, by decide, by decide, by decide, by decide, cls786432 (by decide) (by decide), Or.inr (cls524288 (by decide) (by decide)), cls786432 (by decide) (by decide), by decide, by decide, by decide⟩
  replace h786432 : 786432 < n := by omega
  have h1048576 : n ≤ 1048576 := h2
  exact ⟨1048576, 786432, 1, 16, cls1048576 h786432 h1048576, h786432, h1048576, by decide, by decide, by decide, by decide, by decide, cls1048576 (by decide) (by decide), Or.inr (cls786432 (by decide) (by decide)), cls1048576 (by decide) (by decide), by decide, by decide, by decide⟩

theorem cls_ge {n : Int} (h2 : n ≤ 1048576) : n ≤ cls n := by
  by_cases h : 1 ≤ n
  · obtain ⟨c, b, o, j, H⟩ := cls_at h h2; rw [H.cls]; exact H.hi
  · rw [cls_out (by omega)]; omega
theorem cls_bounds {n : Int} (h1 : 1 ≤ n) (h2 : n ≤ 1048576) : 16 ≤ cls n ∧ cls n ≤ 1048576 ∧ cls n % 16 = 0 ∧ cls (cls n) = cls n := by
  obtain ⟨c, b, o, j, H⟩ := cls_at h1 h2; rw [H.cls]; exact ⟨H.c16, H.top, by have := H.mul; omega, H.self⟩
end Go.Proofs.Ytpbalilnemjeeaa.Pl
