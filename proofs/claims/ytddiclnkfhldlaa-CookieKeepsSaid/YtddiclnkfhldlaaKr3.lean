/-
  The law CookieKeeps: runs 3.
  Conditions: none.
-/
import Derived.Test.YtddiclnkfhldlaaKe
namespace Go.Proofs.Ytddiclnkfhldlaa
namespace Ab
set_option maxRecDepth 100000
theorem rk_5_f_hd : runHd eK ckP false (⟨3, true, true⟩ : Hd) = true := by kernel_rfl
theorem rk_5_f_fin : runFin eK ckP ckRs false (⟨3, true, true⟩ : Hd) = true := by kernel_rfl
theorem rk_5_f_a : runA eN ckP false (⟨3, true, true⟩ : Hd) = true := by kernel_rfl
theorem rk_5_f_rm : runRm eK ckP false (⟨3, true, true⟩ : Hd) = true := by kernel_rfl
theorem rk_5_f_old : runOld eK ckP false (⟨3, true, true⟩ : Hd) = true := by kernel_rfl
theorem rk_5_f_ad2 : runAdd eK ckP false (⟨3, true, true⟩ : Hd) 2 = true := by kernel_rfl
theorem rk_5_f_ad3 : runAdd eK ckP false (⟨3, true, true⟩ : Hd) 3 = true := by kernel_rfl
theorem rk_5_f_ad4 : runAdd eK ckP false (⟨3, true, true⟩ : Hd) 4 = true := by kernel_rfl
theorem rk_5_f_ad5 : runAdd eK ckP false (⟨3, true, true⟩ : Hd) 5 = true := by kernel_rfl
theorem rk_5_f_at : runAt eK ckP false (⟨3, true, true⟩ : Hd) = true := by kernel_rfl
theorem rk_5_f_r30 : runR30 eK ckP false (⟨3, true, true⟩ : Hd) = true := by kernel_rfl
theorem rk_5_f_t0 : runTurn eK ckP false (⟨3, true, true⟩ : Hd) 0 = true := by kernel_rfl
theorem rk_5_f_t1 : runTurn eK ckP false (⟨3, true, true⟩ : Hd) 1 = true := by kernel_rfl
theorem rk_5_f_en : runEnd eK ckP false (⟨3, true, true⟩ : Hd) = true := by kernel_rfl
theorem rk_5_f_inc : runInc eK ckP false (⟨3, true, true⟩ : Hd) = true := by kernel_rfl
end Ab
end Go.Proofs.Ytddiclnkfhldlaa
