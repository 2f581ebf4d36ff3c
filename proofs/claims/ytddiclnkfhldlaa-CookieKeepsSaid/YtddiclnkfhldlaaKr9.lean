/-
  The law CookieKeeps: runs 9.
  Conditions: none.
-/
import Derived.Test.YtddiclnkfhldlaaKe
namespace Go.Proofs.Ytddiclnkfhldlaa
namespace Ab
set_option maxRecDepth 100000
theorem rk_0_t_hd : runHd eK ckP true (⟨0, false, false⟩ : Hd) = true := by kernel_rfl
theorem rk_0_t_fin : runFin eK ckP ckRs true (⟨0, false, false⟩ : Hd) = true := by kernel_rfl
theorem rk_0_t_a : runA eN ckP true (⟨0, false, false⟩ : Hd) = true := by kernel_rfl
theorem rk_0_t_rm : runRm eK ckP true (⟨0, false, false⟩ : Hd) = true := by kernel_rfl
theorem rk_0_t_old : runOld eK ckP true (⟨0, false, false⟩ : Hd) = true := by kernel_rfl
theorem rk_0_t_ad2 : runAdd eK ckP true (⟨0, false, false⟩ : Hd) 2 = true := by kernel_rfl
theorem rk_0_t_ad3 : runAdd eK ckP true (⟨0, false, false⟩ : Hd) 3 = true := by kernel_rfl
theorem rk_0_t_ad4 : runAdd eK ckP true (⟨0, false, false⟩ : Hd) 4 = true := by kernel_rfl
theorem rk_0_t_ad5 : runAdd eK ckP true (⟨0, false, false⟩ : Hd) 5 = true := by kernel_rfl
theorem rk_0_t_at : runAt eK ckP true (⟨0, false, false⟩ : Hd) = true := by kernel_rfl
theorem rk_0_t_r30 : runR30 eK ckP true (⟨0, false, false⟩ : Hd) = true := by kernel_rfl
theorem rk_0_t_t0 : runTurn eK ckP true (⟨0, false, false⟩ : Hd) 0 = true := by kernel_rfl
theorem rk_0_t_t1 : runTurn eK ckP true (⟨0, false, false⟩ : Hd) 1 = true := by kernel_rfl
theorem rk_0_t_en : runEnd eK ckP true (⟨0, false, false⟩ : Hd) = true := by kernel_rfl
theorem rk_0_t_inc : runInc eK ckP true (⟨0, false, false⟩ : Hd) = true := by kernel_rfl
theorem rk_1_t_hd : runHd eK ckP true (⟨0, true, false⟩ : Hd) = true := by kernel_rfl
theorem rk_1_t_fin : runFin eK ckP ckRs true (⟨0, true, false⟩ : Hd) = true := by kernel_rfl
theorem rk_1_t_a : runA eN ckP true (⟨0, true, false⟩ : Hd) = true := by kernel_rfl
theorem rk_1_t_rm : runRm eK ckP true (⟨0, true, false⟩ : Hd) = true := by kernel_rfl
theorem rk_1_t_old : runOld eK ckP true (⟨0, true, false⟩ : Hd) = true := by kernel_rfl
theorem rk_1_t_ad2 : runAdd eK ckP true (⟨0, true, false⟩ : Hd) 2 = true := by kernel_rfl
theorem rk_1_t_ad3 : runAdd eK ckP true (⟨0, true, false⟩ : Hd) 3 = true := by kernel_rfl
theorem rk_1_t_ad4 : runAdd eK ckP true (⟨0, true, false⟩ : Hd) 4 = true := by kernel_rfl
theorem rk_1_t_ad5 : runAdd eK ckP true (⟨0, true, false⟩ : Hd) 5 = true := by kernel_rfl
theorem rk_1_t_at : runAt eK ckP true (⟨0, true, false⟩ : Hd) = true := by kernel_rfl
theorem rk_1_t_r30 : runR30 eK ckP true (⟨0, true, false⟩ : Hd) = true := by kernel_rfl
theorem rk_1_t_t0 : runTurn eK ckP true (⟨0, true, false⟩ : Hd) 0 = true := by kernel_rfl
theorem rk_1_t_t1 : runTurn eK ckP true (⟨0, true, false⟩ : Hd) 1 = true := by kernel_rfl
theorem rk_1_t_en : runEnd eK ckP true (⟨0, true, false⟩ : Hd) = true := by kernel_rfl
theorem rk_1_t_inc : runInc eK ckP true (⟨0, true, false⟩ : Hd) = true := by kernel_rfl
theorem rk_2_t_hd : runHd eK ckP true (⟨0, true, true⟩ : Hd) = true := by kernel_rfl
theorem rk_2_t_fin : runFin eK ckP ckRs true (⟨0, true, true⟩ : Hd) = true := by kernel_rfl
theorem rk_2_t_a : runA eN ckP true (⟨0, true, true⟩ : Hd) = true := by kernel_rfl
theorem rk_2_t_rm : runRm eK ckP true (⟨0, true, true⟩ : Hd) = true := by kernel_rfl
theorem rk_2_t_old : runOld eK ckP true (⟨0, true, true⟩ : Hd) = true := by kernel_rfl
theorem rk_2_t_ad2 : runAdd eK ckP true (⟨0, true, true⟩ : Hd) 2 = true := by kernel_rfl
theorem rk_2_t_ad3 : runAdd eK ckP true (⟨0, true, true⟩ : Hd) 3 = true := by kernel_rfl
theorem rk_2_t_ad4 : runAdd eK ckP true (⟨0, true, true⟩ : Hd) 4 = true := by kernel_rfl
theorem rk_2_t_ad5 : runAdd eK ckP true (⟨0, true, true⟩ : Hd) 5 = true := by kernel_rfl
theorem rk_2_t_at : runAt eK ckP true (⟨0, true, true⟩ : Hd) = true := by kernel_rfl
theorem rk_2_t_r30 : runR30 eK ckP true (⟨0, true, true⟩ : Hd) = true := by kernel_rfl
theorem rk_2_t_t0 : runTurn eK ckP true (⟨0, true, true⟩ : Hd) 0 = true := by kernel_rfl
theorem rk_2_t_t1 : runTurn eK ckP true (⟨0, true, true⟩ : Hd) 1 = true := by kernel_rfl
theorem rk_2_t_en : runEnd eK ckP true (⟨0, true, true⟩ : Hd) = true := by kernel_rfl
theorem rk_2_t_inc : runInc eK ckP true (⟨0, true, true⟩ : Hd) = true := by kernel_rfl
theorem rk_3_t_hd : runHd eK ckP true (⟨1, true, true⟩ : Hd) = true := by kernel_rfl
theorem rk_3_t_fin : runFin eK ckP ckRs true (⟨1, true, true⟩ : Hd) = true := by kernel_rfl
theorem rk_3_t_a : runA eN ckP true (⟨1, true, true⟩ : Hd) = true := by kernel_rfl
theorem rk_3_t_rm : runRm eK ckP true (⟨1, true, true⟩ : Hd) = true := by kernel_rfl
theorem rk_3_t_old : runOld eK ckP true (⟨1, true, true⟩ : Hd) = true := by kernel_rfl
theorem rk_3_t_ad2 : runAdd eK ckP true (⟨1, true, true⟩ : Hd) 2 = true := by kernel_rfl
theorem rk_3_t_ad3 : runAdd eK ckP true (⟨1, true, true⟩ : Hd) 3 = true := by kernel_rfl
theorem rk_3_t_ad4 : runAdd eK ckP true (⟨1, true, true⟩ : Hd) 4 = true := by kernel_rfl
theorem rk_3_t_ad5 : runAdd eK ckP true (⟨1, true, true⟩ : Hd) 5 = true := by kernel_rfl
theorem rk_3_t_at : runAt eK ckP true (⟨1, true, true⟩ : Hd) = true := by kernel_rfl
theorem rk_3_t_r30 : runR30 eK ckP true (⟨1, true, true⟩ : Hd) = true := by kernel_rfl
theorem rk_3_t_t0 : runTurn eK ckP true (⟨1, true, true⟩ : Hd) 0 = true := by kernel_rfl
theorem rk_3_t_t1 : runTurn eK ckP true (⟨1, true, true⟩ : Hd) 1 = true := by kernel_rfl
theorem rk_3_t_en : runEnd eK ckP true (⟨1, true, true⟩ : Hd) = true := by kernel_rfl
theorem rk_3_t_inc : runInc eK ckP true (⟨1, true, true⟩ : Hd) = true := by kernel_rfl
theorem rk_4_t_hd : runHd eK ckP true (⟨2, true, true⟩ : Hd) = true := by kernel_rfl
theorem rk_4_t_fin : runFin eK ckP ckRs true (⟨2, true, true⟩ : Hd) = true := by kernel_rfl
theorem rk_4_t_a : runA eN ckP true (⟨2, true, true⟩ : Hd) = true := by kernel_rfl
theorem rk_4_t_rm : runRm eK ckP true (⟨2, true, true⟩ : Hd) = true := by kernel_rfl
theorem rk_4_t_old : runOld eK ckP true (⟨2, true, true⟩ : Hd) = true := by kernel_rfl
theorem rk_4_t_ad2 : runAdd eK ckP true (⟨2, true, true⟩ : Hd) 2 = true := by kernel_rfl
theorem rk_4_t_ad3 : runAdd eK ckP true (⟨2, true, true⟩ : Hd) 3 = true := by kernel_rfl
theorem rk_4_t_ad4 : runAdd eK ckP true (⟨2, true, true⟩ : Hd) 4 = true := by kernel_rfl
theorem rk_4_t_ad5 : runAdd eK ckP true (⟨2, true, true⟩ : Hd) 5 = true := by kernel_rfl
theorem rk_4_t_at : runAt eK ckP true (⟨2, true, true⟩ : Hd) = true := by kernel_rfl
theorem rk_4_t_r30 : runR30 eK ckP true (⟨2, true, true⟩ : Hd) = true := by kernel_rfl
theorem rk_4_t_t0 : runTurn eK ckP true (⟨2, true, true⟩ : Hd) 0 = true := by kernel_rfl
theorem rk_4_t_t1 : runTurn eK ckP true (⟨2, true, true⟩ : Hd) 1 = true := by kernel_rfl
theorem rk_4_t_en : runEnd eK ckP true (⟨2, true, true⟩ : Hd) = true := by kernel_rfl
theorem rk_4_t_inc : runInc eK ckP true (⟨2, true, true⟩ : Hd) = true := by kernel_rfl
end Ab
end Go.Proofs.Ytddiclnkfhldlaa
