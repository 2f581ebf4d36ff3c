/-
  The law CookieBinds: runs 3.
  Conditions: none.
-/
import Derived.Test.YtddiclnkfhldlaaCBa
namespace Go.Proofs.Ytddiclnkfhldlaa
namespace Ab
open Go.RowKit
set_option linter.unusedVariables false
set_option linter.unusedSimpArgs false
set_option maxRecDepth 100000
theorem rCl_lll_00 : clRun ⟨true, false, true, false, true, false, false, false⟩ = true := by kernel_rfl
theorem rCl_lle_00 : clRun ⟨true, false, true, false, false, true, false, false⟩ = true := by kernel_rfl
theorem rCl_llg_00 : clRun ⟨true, false, true, false, false, false, false, false⟩ = true := by kernel_rfl
theorem rCl_leg_00 : clRun ⟨true, false, false, true, false, false, false, false⟩ = true := by kernel_rfl
theorem rCl_lgg_00 : clRun ⟨true, false, false, false, false, false, false, false⟩ = true := by kernel_rfl
theorem rCl_ell_00 : clRun ⟨false, true, true, false, true, false, false, false⟩ = true := by kernel_rfl
theorem rCl_eee_00 : clRun ⟨false, true, false, true, false, true, false, false⟩ = true := by kernel_rfl
theorem rCl_egg_00 : clRun ⟨false, true, false, false, false, false, false, false⟩ = true := by kernel_rfl
theorem rCl_gll_00 : clRun ⟨false, false, true, false, true, false, false, false⟩ = true := by kernel_rfl
theorem rCl_gel_00 : clRun ⟨false, false, false, true, true, false, false, false⟩ = true := by kernel_rfl
theorem rCl_ggl_00 : clRun ⟨false, false, false, false, true, false, false, false⟩ = true := by kernel_rfl
theorem rCl_gge_00 : clRun ⟨false, false, false, false, false, true, false, false⟩ = true := by kernel_rfl
theorem rCl_ggg_00 : clRun ⟨false, false, false, false, false, false, false, false⟩ = true := by kernel_rfl
end Ab
end Go.Proofs.Ytddiclnkfhldlaa
