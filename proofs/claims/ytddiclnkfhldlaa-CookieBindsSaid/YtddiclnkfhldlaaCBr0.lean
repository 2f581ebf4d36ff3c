/-
  The law CookieBinds: runs 0.
  Conditions: none.
-/
import Derived.Test.YtddiclnkfhldlaaCBa
namespace Go.Proofs.Ytddiclnkfhldlaa
namespace Ab
open Go.RowKit
set_option linter.unusedVariables false
set_option linter.unusedSimpArgs false
set_option maxRecDepth 100000
theorem rCl_lll_11 : clRun ⟨true, false, true, false, true, false, true, true⟩ = true := by kernel_rfl
theorem rCl_lle_11 : clRun ⟨true, false, true, false, false, true, true, true⟩ = true := by kernel_rfl
theorem rCl_llg_11 : clRun ⟨true, false, true, false, false, false, true, true⟩ = true := by kernel_rfl
theorem rCl_leg_11 : clRun ⟨true, false, false, true, false, false, true, true⟩ = true := by kernel_rfl
theorem rCl_lgg_11 : clRun ⟨true, false, false, false, false, false, true, true⟩ = true := by kernel_rfl
theorem rCl_ell_11 : clRun ⟨false, true, true, false, true, false, true, true⟩ = true := by kernel_rfl
theorem rCl_eee_11 : clRun ⟨false, true, false, true, false, true, true, true⟩ = true := by kernel_rfl
theorem rCl_egg_11 : clRun ⟨false, true, false, false, false, false, true, true⟩ = true := by kernel_rfl
theorem rCl_gll_11 : clRun ⟨false, false, true, false, true, false, true, true⟩ = true := by kernel_rfl
theorem rCl_gel_11 : clRun ⟨false, false, false, true, true, false, true, true⟩ = true := by kernel_rfl
theorem rCl_ggl_11 : clRun ⟨false, false, false, false, true, false, true, true⟩ = true := by kernel_rfl
theorem rCl_gge_11 : clRun ⟨false, false, false, false, false, true, true, true⟩ = true := by kernel_rfl
theorem rCl_ggg_11 : clRun ⟨false, false, false, false, false, false, true, true⟩ = true := by kernel_rfl
end Ab
end Go.Proofs.Ytddiclnkfhldlaa
