/-
  The law CookieBinds: runs 1.
  Conditions: none.
-/
import Derived.Test.YtddiclnkfhldlaaCBa
namespace Go.Proofs.Ytddiclnkfhldlaa
namespace Ab
open Go.RowKit
set_option linter.unusedVariables false
set_option linter.unusedSimpArgs false
set_option maxRecDepth 100000
theorem rCl_lll_10 : clRun ⟨true, false, true, false, true, false, true, false⟩ = true := by kernel_rfl
theorem rCl_lle_10 : clRun ⟨true, false, true, false, false, true, true, false⟩ = true := by kernel_rfl
theorem rCl_llg_10 : clRun ⟨true, false, true, false, false, false, true, false⟩ = true := by kernel_rfl
theorem rCl_leg_10 : clRun ⟨true, false, false, true, false, false, true, false⟩ = true := by kernel_rfl
theorem rCl_lgg_10 : clRun ⟨true, false, false, false, false, false, true, false⟩ = true := by kernel_rfl
theorem rCl_ell_10 : clRun ⟨false, true, true, false, true, false, true, false⟩ = true := by kernel_rfl
theorem rCl_eee_10 : clRun ⟨false, true, false, true, false, true, true, false⟩ = true := by kernel_rfl
theorem rCl_egg_10 : clRun ⟨false, true, false, false, false, false, true, false⟩ = true := by kernel_rfl
theorem rCl_gll_10 : clRun ⟨false, false, true, false, true, false, true, false⟩ = true := by kernel_rfl
theorem rCl_gel_10 : clRun ⟨false, false, false, true, true, false, true, false⟩ = true := by kernel_rfl
theorem rCl_ggl_10 : clRun ⟨false, false, false, false, true, false, true, false⟩ = true := by kernel_rfl
theorem rCl_gge_10 : clRun ⟨false, false, false, false, false, true, true, false⟩ = true := by kernel_rfl
theorem rCl_ggg_10 : clRun ⟨false, false, false, false, false, false, true, false⟩ = true := by kernel_rfl
end Ab
end Go.Proofs.Ytddiclnkfhldlaa
