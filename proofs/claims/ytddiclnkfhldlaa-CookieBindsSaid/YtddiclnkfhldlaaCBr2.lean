/-
  The law CookieBinds: runs 2.
  Conditions: none.
-/
import Derived.Test.YtddiclnkfhldlaaCBa
namespace Go.Proofs.Ytddiclnkfhldlaa
namespace Ab
open Go.RowKit
set_option linter.unusedVariables false
set_option linter.unusedSimpArgs false
set_option maxRecDepth 100000
theorem rCl_lll_01 : clRun ⟨true, false, true, false, true, false, false, true⟩ = true := by kernel_rfl
theorem rCl_lle_01 : clRun ⟨true, false, true, false, false, true, false, true⟩ = true := by kernel_rfl
theorem rCl_llg_01 : clRun ⟨true, false, true, false, false, false, false, true⟩ = true := by kernel_rfl
theorem rCl_leg_01 : clRun ⟨true, false, false, true, false, false, false, true⟩ = true := by kernel_rfl
theorem rCl_lgg_01 : clRun ⟨true, false, false, false, false, false, false, true⟩ = true := by kernel_rfl
theorem rCl_ell_01 : clRun ⟨false, true, true, false, true, false, false, true⟩ = true := by kernel_rfl
theorem rCl_eee_01 : clRun ⟨false, true, false, true, false, true, false, true⟩ = true := by kernel_rfl
theorem rCl_egg_01 : clRun ⟨false, true, false, false, false, false, false, true⟩ = true := by kernel_rfl
theorem rCl_gll_01 : clRun ⟨false, false, true, false, true, false, false, true⟩ = true := by kernel_rfl
theorem rCl_gel_01 : clRun ⟨false, false, false, true, true, false, false, true⟩ = true := by kernel_rfl
theorem rCl_ggl_01 : clRun ⟨false, false, false, false, true, false, false, true⟩ = true := by kernel_rfl
theorem rCl_gge_01 : clRun ⟨false, false, false, false, false, true, false, true⟩ = true := by kernel_rfl
theorem rCl_ggg_01 : clRun ⟨false, false, false, false, false, false, false, true⟩ = true := by kernel_rfl
end Ab
end Go.Proofs.Ytddiclnkfhldlaa
