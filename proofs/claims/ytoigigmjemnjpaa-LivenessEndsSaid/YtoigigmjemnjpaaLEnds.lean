/-
  The walk of the law LivenessEnds: eight cases by the remainder of the argument by 40.
  Conditions: none.
-/
import Derived.Test.YtoigigmjemnjpaaLEndsA
import Derived.Test.YtoigigmjemnjpaaLEndsB
namespace Go.Proofs.Ytoigigmjemnjpaa
namespace livenessEnds
open Ab RowKit
set_option linter.unusedVariables false
theorem livenessEnds_walk (w : World) (a0 : Int) (h0 : 0 ≤ a0 ∧ a0 ≤ 255) :
    Calls Try.prog 8 #[.int .u8 a0] w fun e w' => e = .returned (.bool true) ∧ Below w.heap.size w w' := by
  have args : F2 (VR (vE a0) ρ0) argsE #[.int .u8 a0].toList := ⟨rfl, trivial⟩
  have h1 := Int.tmod_lt_of_pos a0 (show (0 : Int) < 40 by decide)
  have h2 := Int.tmod_nonneg 40 h0.1
  have key : ∀ j : Int, 5 * j ≤ a0.tmod 40 ∧ a0.tmod 40 ≤ 5 * j + 4 → isTrue (fnA (envE j) 60 8 argsE st0) = true → Calls Try.prog 8 #[.int .u8 a0] w fun e w' => e = .returned (.bool true) ∧ Below w.heap.size w w' :=
    fun j hj hr => run_true (env_ok (tabE_ok a0 j h0 hj) (cvE_ok a0 h0) (vE_one a0)) (noExt_ok rfl) hr args w
  have hc : ∃ j : Int, (j = 0 ∨ j = 1 ∨ j = 2 ∨ j = 3 ∨ j = 4 ∨ j = 5 ∨ j = 6 ∨ j = 7) ∧ 5 * j ≤ a0.tmod 40 ∧ a0.tmod 40 ≤ 5 * j + 4 := ⟨a0.tmod 40 / 5, by omega, by omega, by omega⟩
  obtain ⟨j, hj, hb⟩ := hc
  rcases hj with rfl | rfl | rfl | rfl | rfl | rfl | rfl | rfl
  · exact key _ hb runE0
  · exact key _ hb runE1
  · exact key _ hb runE2
  · exact key _ hb runE3
  · exact key _ hb runE4
  · exact key _ hb runE5
  · exact key _ hb runE6
  · exact key _ hb runE7
end livenessEnds
end Go.Proofs.Ytoigigmjemnjpaa
