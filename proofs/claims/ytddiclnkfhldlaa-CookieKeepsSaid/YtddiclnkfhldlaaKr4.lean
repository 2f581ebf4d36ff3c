/-
  The law CookieKeeps: runs 4.
  Conditions: none.
-/
import Derived.Test.YtddiclnkfhldlaaKe
namespace Go.Proofs.Ytddiclnkfhldlaa
namespace Ab
set_option maxRecDepth 100000
theorem rk_0_f_hd : runHd eK ckP false (⟨0, false, false⟩ : Hd) = true := by kernel_rfl
theorem rk_0_f_fin : runFin eK ckP ckRs false (⟨0, false, false⟩ : Hd) = true := by kernel_rfl
theorem rk_0_f_a : runA eN ckP false (⟨0, false, false⟩ : Hd) = true := by kernel_rfl
theorem rk_0_f_rm : runRm eK ckP false (⟨0, false, false⟩ : Hd) = true := by kernel_rfl
theorem rk_0_f_old : runOld eK ckP false (⟨0, false, false⟩ : Hd) = true := by kernel_rfl
theorem rk_0_f_ad2 : runAdd eK ckP false (⟨0, false, false⟩ : Hd) 2 = true := by kernel_rfl
theorem rk_0_f_ad3 : runAdd eK ckP false (⟨0, false, false⟩ : Hd) 3 = true := by kernel_rfl
theorem rk_0_f_ad4 : runAdd eK ckP false (⟨0, false, false⟩ : Hd) 4 = true := by kernel_rfl
theorem rk_0_f_ad5 : runAdd eK ckP false (⟨0, false, false⟩ : Hd) 5 = true := by kernel_rfl
theorem rk_0_f_at : runAt eK ckP false (⟨0, false, false⟩ : Hd) = true := by kernel_rfl
theorem rk_0_f_r30 : runR30 eK ckP false (⟨0, false, false⟩ : Hd) = true := by kernel_rfl
theorem rk_0_f_t0 : runTurn eK ckP false (⟨0, false, false⟩ : Hd) 0 = true := by kernel_rfl
theorem rk_0_f_t1 : runTurn eK ckP false (⟨0, false, false⟩ : Hd) 1 = true := by kernel_rfl
theorem rk_0_f_en : runEnd eK ckP false (⟨0, false, false⟩ : Hd) = true := by kernel_rfl
theorem rk_0_f_inc : runInc eK ckP false (⟨0, false, false⟩ : Hd) = true := by kernel_rfl
theorem rk_1_f_hd : runHd eK ckP false (⟨0, true, false⟩ : Hd) = true := by kernel_rfl
theorem rk_1_f_fin : runFin eK ckP ckRs false (⟨0, true, false⟩ : Hd) = true := by kernel_rfl
theorem rk_1_f_a : runA eN ckP false (⟨0, true, false⟩ : Hd) = true := by kernel_rfl
theorem rk_1_f_rm : runRm eK ckP false (⟨0, true, false⟩ : Hd) = true := by kernel_rfl
theorem rk_1_f_old : runOld eK ckP false (⟨0, true, false⟩ : Hd) = true := by kernel_rfl
theorem rk_1_f_ad2 : runAdd eK ckP false (⟨0, true, false⟩ : Hd) 2 = true := by kernel_rfl
theorem rk_1_f_ad3 : runAdd eK ckP false (⟨0, true, false⟩ : Hd) 3 = true := by kernel_rfl
theorem rk_1_f_ad4 : runAdd eK ckP false (⟨0, true, false⟩ : Hd) 4 = true := by kernel_rfl
theorem rk_1_f_ad5 : runAdd eK ckP false (⟨0, true, false⟩ : Hd) 5 = true := by kernel_rfl
theorem rk_1_f_at : runAt eK ckP false (⟨0, true, false⟩ : Hd) = true := by kernel_rfl
theorem rk_1_f_r30 : runR30 eK ckP false (⟨0, true, false⟩ : Hd) = true := by kernel_rfl
theorem rk_1_f_t0 : runTurn eK ckP false (⟨0, true, false⟩ : Hd) 0 = true := by kernel_rfl
theorem rk_1_f_t1 : runTurn eK ckP false (⟨0, true, false⟩ : Hd) 1 = true := by kernel_rfl
theorem rk_1_f_en : runEnd eK ckP false (⟨0, true, false⟩ : Hd) = true := by kernel_rfl
theorem rk_1_f_inc : runInc eK ckP false (⟨0, true, false⟩ : Hd) = true := by kernel_rfl
theorem rk_2_f_hd : runHd eK ckP false (⟨0, true, true⟩ : Hd) = true := by kernel_rfl
theorem rk_2_f_fin : runFin eK ckP ckRs false (⟨0, true, true⟩ : Hd) = true := by kernel_rfl
theorem rk_2_f_a : runA eN ckP false (⟨0, true, true⟩ : Hd) = true := by kernel_rfl
theorem rk_2_f_rm : runRm eK ckP false (⟨0, true, true⟩ : Hd) = true := by kernel_rfl
theorem rk_2_f_old : runOld eK ckP false (⟨0, true, true⟩ : Hd) = true := by kernel_rfl
theorem rk_2_f_ad2 : runAdd eK ckP false (⟨0, true, true⟩ : Hd) 2 = true := by kernel_rfl
theorem rk_2_f_ad3 : runAdd eK ckP false (⟨0, true, true⟩ : Hd) 3 = true := by kernel_rfl
theorem rk_2_f_ad4 : runAdd eK ckP false (⟨0, true, true⟩ : Hd) 4 = true := by kernel_rfl
theorem rk_2_f_ad5 : runAdd eK ckP false (⟨0, true, true⟩ : Hd) 5 = true := by kernel_rfl
theorem rk_2_f_at : runAt eK ckP false (⟨0, true, true⟩ : Hd) = true := by kernel_rfl
theorem rk_2_f_r30 : runR30 eK ckP false (⟨0, true, true⟩ : Hd) = true := by kernel_rfl
theorem rk_2_f_t0 : runTurn eK ckP false (⟨0, true, true⟩ : Hd) 0 = true := by kernel_rfl
theorem rk_2_f_t1 : runTurn eK ckP false (⟨0, true, true⟩ : Hd) 1 = true := by kernel_rfl
theorem rk_2_f_en : runEnd eK ckP false (⟨0, true, true⟩ : Hd) = true := by kernel_rfl
theorem rk_2_f_inc : runInc eK ckP false (⟨0, true, true⟩ : Hd) = true := by kernel_rfl
theorem rk_3_f_hd : runHd eK ckP false (⟨1, true, true⟩ : Hd) = true := by kernel_rfl
theorem rk_3_f_fin : runFin eK ckP ckRs false (⟨1, true, true⟩ : Hd) = true := by kernel_rfl
theorem rk_3_f_a : runA eN ckP false (⟨1, true, true⟩ : Hd) = true := by kernel_rfl
theorem rk_3_f_rm : runRm eK ckP false (⟨1, true, true⟩ : Hd) = true := by kernel_rfl
theorem rk_3_f_old : runOld eK ckP false (⟨1, true, true⟩ : Hd) = true := by kernel_rfl
theorem rk_3_f_ad2 : runAdd eK ckP false (⟨1, true, true⟩ : Hd) 2 = true := by kernel_rfl
theorem rk_3_f_ad3 : runAdd eK ckP false (⟨1, true, true⟩ : Hd) 3 = true := by kernel_rfl
theorem rk_3_f_ad4 : runAdd eK ckP false (⟨1, true, true⟩ : Hd) 4 = true := by kernel_rfl
theorem rk_3_f_ad5 : runAdd eK ckP false (⟨1, true, true⟩ : Hd) 5 = true := by kernel_rfl
theorem rk_3_f_at : runAt eK ckP false (⟨1, true, true⟩ : Hd) = true := by kernel_rfl
theorem rk_3_f_r30 : runR30 eK ckP false (⟨1, true, true⟩ : Hd) = true := by kernel_rfl
theorem rk_3_f_t0 : runTurn eK ckP false (⟨1, true, true⟩ : Hd) 0 = true := by kernel_rfl
theorem rk_3_f_t1 : runTurn eK ckP false (⟨1, true, true⟩ : Hd) 1 = true := by kernel_rfl
theorem rk_3_f_en : runEnd eK ckP false (⟨1, true, true⟩ : Hd) = true := by kernel_rfl
theorem rk_3_f_inc : runInc eK ckP false (⟨1, true, true⟩ : Hd) = true := by kernel_rfl
theorem rk_4_f_hd : runHd eK ckP false (⟨2, true, true⟩ : Hd) = true := by kernel_rfl
theorem rk_4_f_fin : runFin eK ckP ckRs false (⟨2, true, true⟩ : Hd) = true := by kernel_rfl
theorem rk_4_f_a : runA eN ckP false (⟨2, true, true⟩ : Hd) = true := by kernel_rfl
theorem rk_4_f_rm : runRm eK ckP false (⟨2, true, true⟩ : Hd) = true := by kernel_rfl
theorem rk_4_f_old : runOld eK ckP false (⟨2, true, true⟩ : Hd) = true := by kernel_rfl
theorem rk_4_f_ad2 : runAdd eK ckP false (⟨2, true, true⟩ : Hd) 2 = true := by kernel_rfl
theorem rk_4_f_ad3 : runAdd eK ckP false (⟨2, true, true⟩ : Hd) 3 = true := by kernel_rfl
theorem rk_4_f_ad4 : runAdd eK ckP false (⟨2, true, true⟩ : Hd) 4 = true := by kernel_rfl
theorem rk_4_f_ad5 : runAdd eK ckP false (⟨2, true, true⟩ : Hd) 5 = true := by kernel_rfl
theorem rk_4_f_at : runAt eK ckP false (⟨2, true, true⟩ : Hd) = true := by kernel_rfl
theorem rk_4_f_r30 : runR30 eK ckP false (⟨2, true, true⟩ : Hd) = true := by kernel_rfl
theorem rk_4_f_t0 : runTurn eK ckP false (⟨2, true, true⟩ : Hd) 0 = true := by kernel_rfl
theorem rk_4_f_t1 : runTurn eK ckP false (⟨2, true, true⟩ : Hd) 1 = true := by kernel_rfl
theorem rk_4_f_en : runEnd eK ckP false (⟨2, true, true⟩ : Hd) = true := by kernel_rfl
theorem rk_4_f_inc : runInc eK ckP false (⟨2, true, true⟩ : Hd) = true := by kernel_rfl
end Ab
end Go.Proofs.Ytddiclnkfhldlaa
