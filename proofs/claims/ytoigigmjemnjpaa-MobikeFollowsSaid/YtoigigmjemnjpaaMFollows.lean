/-
  The walk of the law MobikeFollows, by the interpreter: the two addresses are symbols.
  Conditions: none.
-/
import Derived.Test.YtoigigmjemnjpaaMod
namespace Go.Proofs.Ytoigigmjemnjpaa
namespace Ab
open Go.RowKit
set_option linter.unusedVariables false
set_option maxRecDepth 100000
/-- The symbols of the law: the two arguments, what is left of them, the two addresses. -/
def gF (a b : Int) : Nat → Int
  | 0 => a
  | 1 => b
  | 10 => modv a 50
  | 11 => modv b 9
  | 12 => 10 + modv a 50
  | _ => 1 + modv b 9
def argsF : List AV := [.one (.c (.sym 0)), .one (.c (.sym 1))]
def mF : List (Nat × Int × AC) := [(0, 50, .sym 10), (1, 9, .sym 11)]
def tF : List Entry := [(.add, .int .i64 10, .sym 10, .sym 12), (.add, .int .i64 1, .sym 11, .sym 13), (.leq, .sym 12, .int .i64 0, .bool false), (.neq, .sym 12, .sym 12, .bool false), (.neq, .sym 13, .sym 12, .bool true), (.neq, .sym 13, .sym 13, .bool false), (.neq, .sym 12, .int .i64 0, .bool true), (.eql, .sym 12, .int .i64 0, .bool false), (.eql, .sym 12, .sym 12, .bool true), (.eql, .sym 13, .sym 13, .bool true)]
theorem runF : isTrue (fnA (env (tabL tF) noCvt (modE mF)) 60 9 argsF st0) = true := by kernel_rfl
theorem wrap64F (x : Int) (h : -9223372036854775808 ≤ x ∧ x ≤ 9223372036854775807) : IntKind.i64.wrap x = x := IntWalk.i64_in _ h
end Ab
namespace mobikeFollows
open Ab RowKit
theorem mobikeFollows_walk (w : World) (a0 : Int) (h0 : -9223372036854775808 ≤ a0 ∧ a0 ≤ 9223372036854775807) (a1 : Int) (h1 : -9223372036854775808 ≤ a1 ∧ a1 ≤ 9223372036854775807) :
    Calls Try.prog 9 #[.int .i64 a0, .int .i64 a1] w fun e w' => e = .returned (.bool true) ∧ Below w.heap.size w w' := by
  have args : F2 (VR (vInt (gF a0 a1)) ρ0) argsF #[.int .i64 a0, .int .i64 a1].toList := ⟨rfl, rfl, trivial⟩
  have r0 := modv_range a0 50 (by decide)
  have r1 := modv_range a1 9 (by decide)
  refine run_true (sym_env (l := tF) ⟨ent_ar rfl rfl rfl (by simp only [arI, gF]; rw [wrap64F _ (by omega)]), ent_ar rfl rfl rfl (by simp only [arI, gF]; rw [wrap64F _ (by omega)]), ent_cmp rfl rfl (by simp [cmpB, gF]; omega), ent_cmp rfl rfl (by simp [cmpB]), ent_cmp rfl rfl (by simp [cmpB, gF]; omega), ent_cmp rfl rfl (by simp [cmpB]), ent_cmp rfl rfl (by simp [cmpB, gF]; omega), ent_cmp rfl rfl (by simp [cmpB, gF]; omega), ent_cmp rfl rfl (by simp [cmpB]), ent_cmp rfl rfl (by simp [cmpB]), trivial⟩) (sym_ext (tb := mF) ⟨⟨h0, by decide, by decide, rfl⟩, ⟨h1, by decide, by decide, rfl⟩, trivial⟩) runF args w
end mobikeFollows
end Go.Proofs.Ytoigigmjemnjpaa
