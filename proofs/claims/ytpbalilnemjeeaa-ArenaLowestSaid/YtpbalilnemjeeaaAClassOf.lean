/- What is proved here: the law's own classOf answers the class. Conditions: a size in range. -/
import Derived.Test.YtpbalilnemjeeaaAClass
namespace Go.Proofs.Ytpbalilnemjeeaa
set_option linter.unusedVariables false
set_option linter.unusedSimpArgs false
open Go.RowKit Go.Proofs.Ytpbalilnemjeeaa.Pl
def InSeq (n C : Int) : Prop := (C = 16 ∧ 0 < n) ∨ (C = 32 ∧ 16 < n) ∨ (C = 48 ∧ 32 < n) ∨ (C = 64 ∧ 48 < n) ∨ (C = 96 ∧ 64 < n) ∨ (C = 128 ∧ 96 < n) ∨ (C = 192 ∧ 128 < n) ∨ (C = 256 ∧ 192 < n) ∨ (C = 384 ∧ 256 < n) ∨ (C = 512 ∧ 384 < n) ∨ (C = 768 ∧ 512 < n) ∨ (C = 1024 ∧ 768 < n) ∨ (C = 1536 ∧ 1024 < n) ∨ (C = 2048 ∧ 1536 < n) ∨ (C = 3072 ∧ 2048 < n) ∨ (C = 4096 ∧ 3072 < n) ∨ (C = 6144 ∧ 4096 < n) ∨ (C = 8192 ∧ 6144 < n) ∨ (C = 12288 ∧ 8192 < n) ∨ (C = 16384 ∧ 12288 < n) ∨ (C = 24576 ∧ 16384 < n) ∨ (C = 32768 ∧ 24576 < n) ∨ (C = 49152 ∧ 32768 < n) ∨ (C = 65536 ∧ 49152 < n) ∨ (C = 98304 ∧ 65536 < n) ∨ (C = 131072 ∧ 98304 < n) ∨ (C = 196608 ∧ 131072 < n) ∨ (C = 262144 ∧ 196608 < n) ∨ (C = 393216 ∧ 262144 < n) ∨ (C = 524288 ∧ 393216 < n) ∨ (C = 786432 ∧ 524288 < n) ∨ (C = 1048576 ∧ 786432 < n)
theorem inSeq16 {n : Int} (h : 0 < n) : InSeq n 16 := by unfold InSeq; simp; omega
theorem inSeq32 {n : Int} (h : 16 < n) : InSeq n 32 := by unfold InSeq; simp; omega
theorem inSeq48 {n : Int} (h : 32 < n) : InSeq n 48 := by unfold InSeq; simp; omega
theorem inSeq64 {n : Int} (h : 48 < n) : InSeq n 64 := by unfold InSeq; simp; omega
theorem inSeq96 {n : Int} (h : 64 < n) : InSeq n 96 := by unfold InSeq; simp; omega
theorem inSeq128 {n : Int} (h : 96 < n) : InSeq n 128 := by unfold InSeq; simp; omega
theorem inSeq192 {n : Int} (h : 128 < n) : InSeq n 192 := by unfold InSeq; simp; omega
theorem inSeq256 {n : Int} (h : 192 < n) : InSeq n 256 := by unfold InSeq; simp; omega
theorem inSeq384 {n : Int} (h : 256 < n) : InSeq n 384 := by unfold InSeq; simp; omega
theorem inSeq512 {n : Int} (h : 384 < n) : InSeq n 512 := by unfold InSeq; simp; omega
theorem inSeq768 {n : Int} (h : 512 < n) : InSeq n 768 := by unfold InSeq; simp; omega
theorem inSeq1024 {n : Int} (h : 768 < n) : InSeq n 1024 := by unfold InSeq; simp; omega
theorem inSeq1536 {n : Int} (h : 1024 < n) : InSeq n 1536 := by unfold InSeq; simp; omega
theorem inSeq2048 {n : Int} (h : 1536 < n) : InSeq n 2048 := by unfold InSeq; simp; omega
theorem inSeq3072 {n : Int} (h : 2048 < n) : InSeq n 3072 := by unfold InSeq; simp; omega
theorem inSeq4096 {n : Int} (h : 3072 < n) : InSeq n 4096 := by unfold InSeq; simp; omega
theorem inSeq6144 {n : Int} (h : 4096 < n) : InSeq n 6144 := by unfold InSeq; simp; omega
theorem inSeq8192 {n : Int} (h : 6144 < n) : InSeq n 8192 := by unfold InSeq; simp; omega
theorem inSeq12288 {n : Int} (h : 8192 < n) : InSeq n 12288 := by unfold InSeq; simp; omega
theorem inSeq16384 {n : Int} (h : 12288 < n) : InSeq n 16384 := by unfold InSeq; simp; omega
theorem inSeq24576 {n : Int} (h : 16384 < n) : InSeq n 24576 := by unfold InSeq; simp; omega
theorem inSeq32768 {n : Int} (h : 24576 < n) : InSeq n 32768 := by unfold InSeq; simp; omega
theorem inSeq49152 {n : Int} (h : 32768 < n) : InSeq n 49152 := by unfold InSeq; simp; omega
theorem inSeq65536 {n : Int} (h : 49152 < n) : InSeq n 65536 := by unfold InSeq; simp; omega
theorem inSeq98304 {n : Int} (h : 65536 < n) : InSeq n 98304 := by unfold InSeq; simp; omega
theorem inSeq131072 {n : Int} (h : 98304 < n) : InSeq n 131072 := by unfold InSeq; simp; omega
theorem inSeq196608 {n : Int} (h : 131072 < n) : InSeq n 196608 := by unfold InSeq; simp; omega
theorem inSeq262144 {n : Int} (h : 196608 < n) : InSeq n 262144 := by unfold InSeq; simp; omega
theorem inSeq393216 {n : Int} (h : 262144 < n) : InSeq n 393216 := by unfold InSeq; simp; omega
theorem inSeq524288 {n : Int} (h : 393216 < n) : InSeq n 524288 := by unfold InSeq; simp; omega
theorem inSeq786432 {n : Int} (h : 524288 < n) : InSeq n 786432 := by unfold InSeq; simp; omega
theorem inSeq1048576 {n : Int} (h : 786432 < n) : InSeq n 1048576 := by unfold InSeq; simp; omega
set_option maxHeartbeats 8000000 in
set_option maxRecDepth 100000 in
theorem classOf_cls (n : Int) (w : World) (h : 1 ≤ n ∧ n ≤ 1048576) : Calls Try.prog 31 #[.int .i64 n] w fun e w' => e = .returned (.int .i64 (cls n)) ∧ w = w' := by
  go_enter Try.func31, Try.ntmps31
  go_upto_region 2 with (fail)
  go_loopw [3] (fun a3 wr => ∃ C : Int, a3 = .int .i64 C ∧ Hid (InSeq n C) ∧ Hid (wr = w)) (fun i _ => (2000000 - (intOf i)).toNat)
  case atStart => exact ⟨16, rfl, inSeq16 (by omega), rfl⟩
  case round =>
    obtain ⟨C, rfl, hC, hw⟩ := hrel
    obtain rfl := hw.out.symm
    clear hw
    rcases hC.out with ⟨rfl, hp⟩ | ⟨rfl, hp⟩ | ⟨rfl, hp⟩ | ⟨rfl, hp⟩ | ⟨rfl, hp⟩ | ⟨rfl, hp⟩ | ⟨rfl, hp⟩ | ⟨rfl, hp⟩ | ⟨rfl, hp⟩ | ⟨rfl, hp⟩ | ⟨rfl, hp⟩ | ⟨rfl, hp⟩ | ⟨rfl, hp⟩ | ⟨rfl, hp⟩ | ⟨rfl, hp⟩ | ⟨rfl, hp⟩ | ⟨rfl, hp⟩ | ⟨rfl, hp⟩ | ⟨rfl, hp⟩ | ⟨rfl, hp⟩ | ⟨rfl, hp⟩ | ⟨rfl, hp⟩ | ⟨rfl, hp⟩ | ⟨rfl, hp⟩ | ⟨rfl, hp⟩ | ⟨rfl, hp⟩ | ⟨rfl, hp⟩ | ⟨rfl, hp⟩ | ⟨rfl, hp⟩ | ⟨rfl, hp⟩ | ⟨rfl, hp⟩ | ⟨rfl, hp⟩
    · by_cases hlt : (16 : Int) < n
      · go_wp2_with fail
        exact ⟨⟨32, rfl, inSeq32 hlt, by first | rfl | trivial⟩, by simp [intOf]⟩
      · have hc := cls16 hp (by omega)
        replace hc := Lib.hid hc
        go_wp2_with fail
        go_ret
        exact ⟨by rw [hc.out]; rfl, rfl⟩
    · by_cases hlt : (32 : Int) < n
      · go_wp2_with fail
        exact ⟨⟨48, rfl, inSeq48 hlt, by first | rfl | trivial⟩, by simp [intOf]⟩
      · have hc := cls32 hp (by omega)
        replace hc := Lib.hid hc
        go_wp2_with fail
        go_ret
        exact ⟨by rw [hc.out]; rfl, rfl⟩
    · by_cases hlt : (48 : Int) < n
      · go_wp2_with fail
        exact ⟨⟨64, rfl, inSeq64 hlt, by first | rfl | trivial⟩, by simp [intOf]⟩
      · have hc := cls48 hp (by omega)
        replace hc := Lib.hid hc
        go_wp2_with fail
        go_ret
        exact ⟨by rw [hc.out]; rfl, rfl⟩
    · by_cases hlt : (64 : Int) < n
      · go_wp2_with fail
        exact ⟨⟨96, rfl, inSeq96 hlt, by first | rfl | trivial⟩, by simp [intOf]⟩
      · have hc := cls64 hp (by omega)
        replace hc := Lib.hid hc
        go_wp2_with fail
        go_ret
        exact ⟨by rw [hc.out]; rfl, rfl⟩
    · by_cases hlt : (96 : Int) < n
      · go_wp2_with fail
        exact ⟨⟨128, rfl, inSeq128 hlt, by first | rfl | trivial⟩, by simp [intOf]⟩
      · have hc := cls96 hp (by omega)
        replace hc := Lib.hid hc
        go_wp2_with fail
        go_ret
        exact ⟨by rw [hc.out]; rfl, rfl⟩
    · by_cases hlt : (128 : Int) < n
      · go_wp2_with fail
        exact ⟨⟨192, rfl, inSeq192 hlt, by first | rfl | trivial⟩, by simp [intOf]⟩
      · have hc := cls128 hp (by omega)
        replace hc := Lib.hid hc
        go_wp2_with fail
        go_ret
        exact ⟨by rw [hc.out]; rfl, rfl⟩
    · by_cases hlt : (192 : Int) < n
      · go_wp2_with fail
        exact ⟨⟨256, rfl, inSeq256 hlt, by first | rfl | trivial⟩, by simp [intOf]⟩
      · have hc := cls192 hp (by omega)
        replace hc := Lib.hid hc
        go_wp2_with fail
        go_ret
        exact ⟨by rw [hc.out]; rfl, rfl⟩
    · by_cases hlt : (256 : Int) < n
      · go_wp2_with fail
        exact ⟨⟨384, rfl, inSeq384 hlt, by first | rfl | trivial⟩, by simp [intOf]⟩
      · have hc := cls256 hp (by omega)
        replace hc := Lib.hid hc
        go_wp2_with fail
        go_ret
        exact ⟨by rw [hc.out]; rfl, rfl⟩
    · by_cases hlt : (384 : Int) < n
      · go_wp2_with fail
        exact ⟨⟨512, rfl, inSeq512 hlt, by first | rfl | trivial⟩, by simp [intOf]⟩
      · have hc := cls384 hp (by omega)
        replace hc := Lib.hid hc
        go_wp2_with fail
        go_ret
        exact ⟨by rw [hc.out]; rfl, rfl⟩
    · by_cases hlt : (512 : Int) < n
      · go_wp2_with fail
        exact ⟨⟨768, rfl, inSeq768 hlt, by first | rfl | trivial⟩, by simp [intOf]⟩
      · have hc := cls512 hp (by omega)
        replace hc := Lib.hid hc
        go_wp2_with fail
        go_ret
        exact ⟨by rw [hc.out]; rfl, rfl⟩
    · by_cases hlt : (768 : Int) < n
      · go_wp2_with fail
        exact ⟨⟨1024, rfl, inSeq1024 hlt, by first | rfl | trivial⟩, by simp [intOf]⟩
      · have hc := cls768 hp (by omega)
        replace hc := Lib.hid hc
        go_wp2_with fail
        go_ret
        exact ⟨by rw [hc.out]; rfl, rfl⟩
    · by_cases hlt : (1024 : Int) < n
      · go_wp2_with fail
        exact ⟨⟨1536, rfl, inSeq1536 hlt, by first | rfl | trivial⟩, by simp [intOf]⟩
      · have hc := cls1024 hp (by omega)
        replace hc := Lib.hid hc
        go_wp2_with fail
        go_ret
        exact ⟨by rw [hc.out]; rfl, rfl⟩
    · by_cases hlt : (1536 : Int) < n
      · go_wp2_with fail
        exact ⟨⟨2048, rfl, inSeq2048 hlt, by first | rfl | trivial⟩, by simp [intOf]⟩
      · have hc := cls1536 hp (by omega)
        replace hc := Lib.hid hc
        go_wp2_with fail
        go_ret
        exact ⟨by rw [hc.out]; rfl, rfl⟩
    · by_cases hlt : (2048 : Int) < n
      · go_wp2_with fail
        exact ⟨⟨3072, rfl, inSeq3072 hlt, by first | rfl | trivial⟩, by simp [intOf]⟩
      · have hc := cls2048 hp (by omega)
        replace hc := Lib.hid hc
        go_wp2_with fail
        go_ret
        exact ⟨by rw [hc.out]; rfl, rfl⟩
    · by_cases hlt : (3072 : Int) < n
      · go_wp2_with fail
        exact ⟨⟨4096, rfl, inSeq4096 hlt, by first | rfl | trivial⟩, by simp [intOf]⟩
      · have hc := cls3072 hp (by omega)
        replace hc := Lib.hid hc
        go_wp2_with fail
        go_ret
        exact ⟨by rw [hc.out]; rfl, rfl⟩
    · by_cases hlt : (4096 : Int) < n
      · go_wp2_with fail
        exact ⟨⟨6144, rfl, inSeq6144 hlt, by first | rfl | trivial⟩, by simp [intOf]⟩
      · have hc := cls4096 hp (by omega)
        replace hc := Lib.hid hc
        go_wp2_with fail
        go_ret
        exact ⟨by rw [hc.out]; rfl, rfl⟩
    · by_cases hlt : (6144 : Int) < n
      · go_wp2_with fail
        exact ⟨⟨8192, rfl, inSeq8192 hlt, by first | rfl | trivial⟩, by simp [intOf]⟩
      · have hc := cls6144 hp (by omega)
        replace hc := Lib.hid hc
        go_wp2_with fail
        go_ret
        exact ⟨by rw [hc.out]; rfl, rfl⟩
    · by_cases hlt : (8192 : Int) < n
      · go_wp2_with fail
        exact ⟨⟨12288, rfl, inSeq12288 hlt, by first | rfl | trivial⟩, by simp [intOf]⟩
      · have hc := cls8192 hp (by omega)
        replace hc := Lib.hid hc
        go_wp2_with fail
        go_ret
        exact ⟨by rw [hc.out]; rfl, rfl⟩
    · by_cases hlt : (12288 : Int) < n
      · go_wp2_with fail
        exact ⟨⟨16384, rfl, inSeq16384 hlt, by first | rfl | trivial⟩, by simp [intOf]⟩
      · have hc := cls12288 hp (by omega)
        replace hc := Lib.hid hc
        go_wp2_with fail
        go_ret
        exact ⟨by rw [hc.out]; rfl, rfl⟩
    · by_cases hlt : (16384 : Int) < n
      · go_wp2_with fail
        exact ⟨⟨24576, rfl, inSeq24576 hlt, by first | rfl | trivial⟩, by simp [intOf]⟩
      · have hc := cls16384 hp (by omega)
        replace hc := Lib.hid hc
        go_wp2_with fail
        go_ret
        exact ⟨by rw [hc.out]; rfl, rfl⟩
    · by_cases hlt : (24576 : Int) < n
      · go_wp2_with fail
        exact ⟨⟨32768, rfl, inSeq32768 hlt, by first | rfl | trivial⟩, by simp [intOf]⟩
      · have hc := cls24576 hp (by omega)
        replace hc := Lib.hid hc
        go_wp2_with fail
        go_ret
        exact ⟨by rw [hc.out]; rfl, rfl⟩
    · by_cases hlt : (32768 : Int) < n
      · go_wp2_with fail
        exact ⟨⟨49152, rfl, inSeq49152 hlt, by first | rfl | trivial⟩, by simp [intOf]⟩
      · have hc := cls32768 hp (by omega)
        replace hc := Lib.hid hc
        go_wp2_with fail
        go_ret
        exact ⟨by rw [hc.out]; rfl, rfl⟩
    · by_cases hlt : (49152 : Int) < n
      · go_wp2_with fail
        exact ⟨⟨65536, rfl, inSeq65536 hlt, by first | rfl | trivial⟩, by simp [intOf]⟩
      · have hc := cls49152 hp (by omega)
        replace hc := Lib.hid hc
        go_wp2_with fail
        go_ret
        exact ⟨by rw [hc.out]; rfl, rfl⟩
    · by_cases hlt : (65536 : Int) < n
      · go_wp2_with fail
        exact ⟨⟨98304, rfl, inSeq98304 hlt, by first | rfl | trivial⟩, by simp [intOf]⟩
      · have hc := cls65536 hp (by omega)
        replace hc := Lib.hid hc
        go_wp2_with fail
        go_ret
        exact ⟨by rw [hc.out]; rfl, rfl⟩
    · by_cases hlt : (98304 : Int) < n
      · go_wp2_with fail
        exact ⟨⟨131072, rfl, inSeq131072 hlt, by first | rfl | trivial⟩, by simp [intOf]⟩
      · have hc := cls98304 hp (by omega)
        replace hc := Lib.hid hc
        go_wp2_with fail
        go_ret
        exact ⟨by rw [hc.out]; rfl, rfl⟩
    · by_cases hlt : (131072 : Int) < n
      · go_wp2_with fail
        exact ⟨⟨196608, rfl, inSeq196608 hlt, by first | rfl | trivial⟩, by simp [intOf]⟩
      · have hc := cls131072 hp (by omega)
        replace hc := Lib.hid hc
        go_wp2_with fail
        go_ret
        exact ⟨by rw [hc.out]; rfl, rfl⟩
    · by_cases hlt : (196608 : Int) < n
      · go_wp2_with fail
        exact ⟨⟨262144, rfl, inSeq262144 hlt, by first | rfl | trivial⟩, by simp [intOf]⟩
      · have hc := cls196608 hp (by omega)
        replace hc := Lib.hid hc
        go_wp2_with fail
        go_ret
        exact ⟨by rw [hc.out]; rfl, rfl⟩
    · by_cases hlt : (262144 : Int) < n
      · go_wp2_with fail
        exact ⟨⟨393216, rfl, inSeq393216 hlt, by first | rfl | trivial⟩, by simp [intOf]⟩
      · have hc := cls262144 hp (by omega)
        replace hc := Lib.hid hc
        go_wp2_with fail
        go_ret
        exact ⟨by rw [hc.out]; rfl, rfl⟩
    · by_cases hlt : (393216 : Int) < n
      · go_wp2_with fail
        exact ⟨⟨524288, rfl, inSeq524288 hlt, by first | rfl | trivial⟩, by simp [intOf]⟩
      · have hc := cls393216 hp (by omega)
        replace hc := Lib.hid hc
        go_wp2_with fail
        go_ret
        exact ⟨by rw [hc.out]; rfl, rfl⟩
    · by_cases hlt : (524288 : Int) < n
      · go_wp2_with fail
        exact ⟨⟨786432, rfl, inSeq786432 hlt, by first | rfl | trivial⟩, by simp [intOf]⟩
      · have hc := cls524288 hp (by omega)
        replace hc := Lib.hid hc
        go_wp2_with fail
        go_ret
        exact ⟨by rw [hc.out]; rfl, rfl⟩
    · by_cases hlt : (786432 : Int) < n
      · go_wp2_with fail
        exact ⟨⟨1048576, rfl, inSeq1048576 hlt, by first | rfl | trivial⟩, by simp [intOf]⟩
      · have hc := cls786432 hp (by omega)
        replace hc := Lib.hid hc
        go_wp2_with fail
        go_ret
        exact ⟨by rw [hc.out]; rfl, rfl⟩
    · have hlt : ¬ (1048576 : Int) < n := by omega
      have hc := cls1048576 hp (by omega)
      replace hc := Lib.hid hc
      go_wp2_with fail
      go_ret
      exact ⟨by rw [hc.out]; rfl, rfl⟩
end Go.Proofs.Ytpbalilnemjeeaa
