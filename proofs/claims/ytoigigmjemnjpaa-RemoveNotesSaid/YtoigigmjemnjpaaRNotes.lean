/-
  The walk of the law RemoveNotes, by the interpreter: the purpose is 3, 4 or another one; the number is a symbol.
  Conditions: none.
-/
import Derived.Test.YtoigigmjemnjpaaMod
namespace Go.Proofs.Ytoigigmjemnjpaa
namespace Ab
open Go.RowKit
set_option linter.unusedVariables false
set_option maxRecDepth 100000
/-- The symbols of the law: the two arguments, the purpose, the number. -/
def gN (a b : Int) : Nat → Int
  | 0 => a
  | 1 => b
  | 10 => modv a 11
  | _ => modv b 1000
def tN : List Entry := [(.neq, .sym 10, .int .i64 3, .bool true), (.neq, .sym 10, .int .i64 4, .bool true), (.eql, .sym 11, .sym 11, .bool true)]
def tM : List Entry := [(.eql, .sym 11, .sym 11, .bool true)]
def args2 : List AV := [.one (.c (.sym 0)), .one (.c (.sym 1))]
def mN (z : AC) : List (Nat × Int × AC) := [(0, 11, z), (1, 1000, .sym 11)]
theorem runS : isTrue (fnA (env (tabL tN) noCvt (modE (mN (.sym 10)))) 60 5 args2 st0) = true := by kernel_rfl
theorem run3 : isTrue (fnA (env (tabL tM) noCvt (modE (mN (.int .i64 3)))) 60 5 args2 st0) = true := by kernel_rfl
theorem run4 : isTrue (fnA (env (tabL tM) noCvt (modE (mN (.int .i64 4)))) 60 5 args2 st0) = true := by kernel_rfl
end Ab
namespace removeNotes
open Ab RowKit
theorem removeNotes_walk (w : World) (a0 : Int) (h0 : -9223372036854775808 ≤ a0 ∧ a0 ≤ 9223372036854775807) (a1 : Int) (h1 : -9223372036854775808 ≤ a1 ∧ a1 ≤ 9223372036854775807) :
    Calls Try.prog 5 #[.int .i64 a0, .int .i64 a1] w fun e w' => e = .returned (.bool true) ∧ Below w.heap.size w w' := by
  have args : F2 (VR (vInt (gN a0 a1)) ρ0) args2 #[.int .i64 a0, .int .i64 a1].toList := ⟨rfl, rfl, trivial⟩
  have hs : EntryOK (gN a0 a1) (.eql, .sym 11, .sym 11, .bool true) := ent_cmp rfl rfl (by simp [cmpB])
  by_cases e3 : modv a0 11 = 3
  · exact run_true (sym_env (l := tM) ⟨hs, trivial⟩) (sym_ext (tb := mN (.int .i64 3)) ⟨⟨h0, by decide, by decide, by show some (3 : Int) = some (modv a0 11); rw [e3]⟩, ⟨h1, by decide, by decide, rfl⟩, trivial⟩) run3 args w
  · by_cases e4 : modv a0 11 = 4
    · exact run_true (sym_env (l := tM) ⟨hs, trivial⟩) (sym_ext (tb := mN (.int .i64 4)) ⟨⟨h0, by decide, by decide, by show some (4 : Int) = some (modv a0 11); rw [e4]⟩, ⟨h1, by decide, by decide, rfl⟩, trivial⟩) run4 args w
    · exact run_true (sym_env (l := tN) ⟨ent_cmp rfl rfl (by simp [cmpB, e3, gN]), ent_cmp rfl rfl (by simp [cmpB, e4, gN]), hs, trivial⟩) (sym_ext (tb := mN (.sym 10)) ⟨⟨h0, by decide, by decide, rfl⟩, ⟨h1, by decide, by decide, rfl⟩, trivial⟩) runS args w
end removeNotes
end Go.Proofs.Ytoigigmjemnjpaa
