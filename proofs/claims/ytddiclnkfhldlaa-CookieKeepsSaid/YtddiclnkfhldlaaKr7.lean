/-
  The law CookieKeeps: runs 5.
  Conditions: none.
-/
import Derived.Test.YtddiclnkfhldlaaKe
namespace Go.Proofs.Ytddiclnkfhldlaa
namespace Ab
set_option maxRecDepth 100000
theorem rk_6_t_rm : runRm eK ckP true (⟨4, true, true⟩ : Hd) = true := by kernel_rfl
theorem rk_6_t_ad2 : runAdd eK ckP true (⟨4, true, true⟩ : Hd) 2 = true := by kernel_rfl
theorem rk_6_t_ad3 : runAdd eK ckP true (⟨4, true, true⟩ : Hd) 3 = true := by kernel_rfl
theorem rk_6_t_ad4 : runAdd eK ckP true (⟨4, true, true⟩ : Hd) 4 = true := by kernel_rfl
theorem rk_6_t_ad5 : runAdd eK ckP true (⟨4, true, true⟩ : Hd) 5 = true := by kernel_rfl
end Ab
end Go.Proofs.Ytddiclnkfhldlaa
namespace Go.Proofs.Ytddiclnkfhldlaa
namespace Ab
set_option maxRecDepth 100000
theorem rk_6_t_old : runOld eK ckP true (⟨4, true, true⟩ : Hd) = true := by kernel_rfl
end Ab
end Go.Proofs.Ytddiclnkfhldlaa
namespace Go.Proofs.Ytddiclnkfhldlaa
namespace Ab
set_option maxRecDepth 100000
theorem rk_6_t_hd : runHd eK ckP true (⟨4, true, true⟩ : Hd) = true := by kernel_rfl
theorem rk_6_t_fin : runFin eK ckP ckRs true (⟨4, true, true⟩ : Hd) = true := by kernel_rfl
theorem rk_6_t_a : runA eN ckP true (⟨4, true, true⟩ : Hd) = true := by kernel_rfl
theorem rk_6_t_at : runAt eK ckP true (⟨4, true, true⟩ : Hd) = true := by kernel_rfl
theorem rk_6_t_r30 : runR30 eK ckP true (⟨4, true, true⟩ : Hd) = true := by kernel_rfl
theorem rk_6_t_t0 : runTurn eK ckP true (⟨4, true, true⟩ : Hd) 0 = true := by kernel_rfl
theorem rk_6_t_t1 : runTurn eK ckP true (⟨4, true, true⟩ : Hd) 1 = true := by kernel_rfl
theorem rk_6_t_en : runEnd eK ckP true (⟨4, true, true⟩ : Hd) = true := by kernel_rfl
theorem rk_6_t_inc : runInc eK ckP true (⟨4, true, true⟩ : Hd) = true := by kernel_rfl
end Ab
end Go.Proofs.Ytddiclnkfhldlaa
