/-
  The walk of the law RemoveBoth, by the interpreter: the two numbers are symbols.
  Conditions: none.
-/
import Derived.Test.YtoigigmjemnjpaaMod
namespace Go.Proofs.Ytoigigmjemnjpaa
namespace Ab
open Go.RowKit
set_option linter.unusedVariables false
set_option maxRecDepth 100000
/-- The symbols of the law: the two arguments, what is left of them, the two numbers. -/
def gB (a b : Int) : Nat → Int
  | 0 => a
  | 1 => b
  | 10 => modv a 50
  | 11 => modv b 50
  | 12 => 100 + modv a 50
  | _ => 200 + modv b 50
def argsB : List AV := [.one (.c (.sym 0)), .one (.c (.sym 1))]
def mB : List (Nat × Int × AC) := [(0, 50, .sym 10), (1, 50, .sym 11)]
def tB : List Entry := [(.add, .int .i64 100, .sym 10, .sym 12), (.add, .int .i64 200, .sym 11, .sym 13), (.eql, .sym 12, .sym 12, .bool true), (.eql, .sym 13, .sym 13, .bool true), (.eql, .sym 13, .int .i64 0, .bool false), (.eql, .sym 12, .int .i64 0, .bool false)]
theorem runB : isTrue (fnA (env (tabL tB) noCvt (modE mB)) 60 6 argsB st0) = true := by kernel_rfl
theorem wrap64B (x : Int) (h : -9223372036854775808 ≤ x ∧ x ≤ 9223372036854775807) : IntKind.i64.wrap x = x := IntWalk.i64_in _ h
end Ab
namespace removeBoth
open Ab RowKit
theorem removeBoth_walk (w : World) (a0 : Int) (h0 : -9223372036854775808 ≤ a0 ∧ a0 ≤ 9223372036854775807) (a1 : Int) (h1 : -9223372036854775808 ≤ a1 ∧ a1 ≤ 9223372036854775807) :
    Calls Try.prog 6 #[.int .i64 a0, .int .i64 a1] w fun e w' => e = .returned (.bool true) ∧ Below w.heap.size w w' := by
  have args : F2 (VR (vInt (gB a0 a1)) ρ0) argsB #[.int .i64 a0, .int .i64 a1].toList := ⟨rfl, rfl, trivial⟩
  have r0 := modv_range a0 50 (by decide)
  have r1 := modv_range a1 50 (by decide)
  refine run_true (sym_env (l := tB) ⟨ent_ar rfl rfl rfl (by simp only [arI, gB]; rw [wrap64B _ (by omega)]), ent_ar rfl rfl rfl (by simp only [arI, gB]; rw [wrap64B _ (by omega)]), ent_cmp rfl rfl (by simp [cmpB]), ent_cmp rfl rfl (by simp [cmpB]), ent_cmp rfl rfl (by simp [cmpB, gB]; omega), ent_cmp rfl rfl (by simp [cmpB, gB]; omega), trivial⟩) (sym_ext (tb := mB) ⟨⟨h0, by decide, by decide, rfl⟩, ⟨h1, by decide, by decide, rfl⟩, trivial⟩) runB args w
end removeBoth
end Go.Proofs.Ytoigigmjemnjpaa
