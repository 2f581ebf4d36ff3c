/-
  The walk of the law LivenessWaits, by the interpreter: the state is 3 or another one, the purpose 0 or another one, the silence at least 8 ticks or less.
  Conditions: none.
-/
import Derived.Test.YtoigigmjemnjpaaMod
namespace Go.Proofs.Ytoigigmjemnjpaa
namespace Ab
open Go.RowKit
set_option linter.unusedVariables false
set_option maxRecDepth 100000
/-- The symbols of the law: the three arguments; the state less one, the purpose, the silence; the state; when it was heard. -/
def gW (a b c : Int) : Nat → Int
  | 0 => a
  | 1 => b
  | 2 => c
  | 10 => modv a 4
  | 11 => modv b 11
  | 12 => modv c 20
  | 13 => 1 + modv a 4
  | _ => 100 - modv c 20
def args3 : List AV := [.one (.c (.sym 0)), .one (.c (.sym 1)), .one (.c (.sym 2))]
def mW (p : AC) : List (Nat × Int × AC) := [(0, 4, .sym 10), (1, 11, p), (2, 20, .sym 12)]
def tW1 (b : Bool) : List Entry := [(.add, .int .i64 1, .sym 10, .int .i64 3), (.sub, .int .i64 100, .sym 12, .sym 14), (.sub, .int .i64 100, .sym 14, .sym 12), (.lss, .sym 12, .int .i64 8, .bool (!b)), (.geq, .sym 12, .int .i64 8, .bool b), (.eql, .sym 14, .sym 14, .bool true)]
def tW2 : List Entry := [(.add, .int .i64 1, .sym 10, .int .i64 3), (.sub, .int .i64 100, .sym 12, .sym 14), (.neq, .sym 11, .int .i64 0, .bool true), (.eql, .sym 11, .int .i64 0, .bool false), (.eql, .sym 11, .sym 11, .bool true), (.eql, .sym 14, .sym 14, .bool true)]
def tW3 : List Entry := [(.add, .int .i64 1, .sym 10, .sym 13), (.sub, .int .i64 100, .sym 12, .sym 14), (.neq, .sym 13, .int .i64 3, .bool true), (.eql, .sym 13, .int .i64 3, .bool false), (.eql, .sym 13, .sym 13, .bool true), (.eql, .sym 11, .sym 11, .bool true), (.eql, .sym 14, .sym 14, .bool true)]
theorem runW1 : isTrue (fnA (env (tabL (tW1 true)) noCvt (modE (mW (.int .i64 0)))) 60 7 args3 st0) = true := by kernel_rfl
theorem runW2 : isTrue (fnA (env (tabL (tW1 false)) noCvt (modE (mW (.int .i64 0)))) 60 7 args3 st0) = true := by kernel_rfl
theorem runW3 : isTrue (fnA (env (tabL tW2) noCvt (modE (mW (.sym 11)))) 60 7 args3 st0) = true := by kernel_rfl
theorem runW4 : isTrue (fnA (env (tabL tW3) noCvt (modE (mW (.sym 11)))) 60 7 args3 st0) = true := by kernel_rfl
theorem wrap64 (x : Int) (h : -9223372036854775808 ≤ x ∧ x ≤ 9223372036854775807) : IntKind.i64.wrap x = x := IntWalk.i64_in _ h
end Ab
namespace livenessWaits
open Ab RowKit
theorem livenessWaits_walk (w : World) (a0 : Int) (h0 : -9223372036854775808 ≤ a0 ∧ a0 ≤ 9223372036854775807) (a1 : Int) (h1 : -9223372036854775808 ≤ a1 ∧ a1 ≤ 9223372036854775807) (a2 : Int) (h2 : -9223372036854775808 ≤ a2 ∧ a2 ≤ 9223372036854775807) :
    Calls Try.prog 7 #[.int .i64 a0, .int .i64 a1, .int .i64 a2] w fun e w' => e = .returned (.bool true) ∧ Below w.heap.size w w' := by
  have args : F2 (VR (vInt (gW a0 a1 a2)) ρ0) args3 #[.int .i64 a0, .int .i64 a1, .int .i64 a2].toList := ⟨rfl, rfl, rfl, trivial⟩
  have r0 := modv_range a0 4 (by decide)
  have r1 := modv_range a1 11 (by decide)
  have r2 := modv_range a2 20 (by decide)
  have s14 : EntryOK (gW a0 a1 a2) (.sub, .int .i64 100, .sym 12, .sym 14) := ent_ar rfl rfl rfl (by simp only [arI]; rw [wrap64 _ (by simp only [gW]; omega)]; rfl)
  have s12 : EntryOK (gW a0 a1 a2) (.sub, .int .i64 100, .sym 14, .sym 12) := ent_ar rfl rfl rfl (by simp only [arI]; rw [wrap64 _ (by simp only [gW]; omega)]; simp only [gW]; congr 1; omega)
  have q14 : EntryOK (gW a0 a1 a2) (.eql, .sym 14, .sym 14, .bool true) := ent_cmp rfl rfl (by simp [cmpB])
  have q13 : EntryOK (gW a0 a1 a2) (.eql, .sym 13, .sym 13, .bool true) := ent_cmp rfl rfl (by simp [cmpB])
  have q11 : EntryOK (gW a0 a1 a2) (.eql, .sym 11, .sym 11, .bool true) := ent_cmp rfl rfl (by simp [cmpB])
  have m0 : (-9223372036854775808 ≤ a0 ∧ a0 ≤ 9223372036854775807) ∧ (0 : Int) < 4 ∧ (4 : Int) ≤ 1000000 ∧ acInt (gW a0 a1 a2) (.sym 10) = some (modv a0 4) := ⟨h0, by decide, by decide, rfl⟩
  have m2 : (-9223372036854775808 ≤ a2 ∧ a2 ≤ 9223372036854775807) ∧ (0 : Int) < 20 ∧ (20 : Int) ≤ 1000000 ∧ acInt (gW a0 a1 a2) (.sym 12) = some (modv a2 20) := ⟨h2, by decide, by decide, rfl⟩
  have xS : ExtOK Try.prog (vInt (gW a0 a1 a2)) (env (tabL tW2) noCvt (modE (mW (.sym 11)))) := sym_ext (tb := mW (.sym 11)) ⟨m0, ⟨h1, by decide, by decide, rfl⟩, m2, trivial⟩
  have xS3 : ExtOK Try.prog (vInt (gW a0 a1 a2)) (env (tabL tW3) noCvt (modE (mW (.sym 11)))) := sym_ext (tb := mW (.sym 11)) ⟨m0, ⟨h1, by decide, by decide, rfl⟩, m2, trivial⟩
  by_cases e0 : modv a0 4 = 2
  · have add : EntryOK (gW a0 a1 a2) (.add, .int .i64 1, .sym 10, .int .i64 3) := ent_ar rfl rfl rfl (by simp only [arI, gW]; rw [wrap64 _ (by omega), e0]; rfl)
    by_cases e1 : modv a1 11 = 0
    · have x0 : ∀ l, ExtOK Try.prog (vInt (gW a0 a1 a2)) (env (tabL l) noCvt (modE (mW (.int .i64 0)))) := fun l => sym_ext (tb := mW (.int .i64 0)) ⟨m0, ⟨h1, by decide, by decide, by show some (0 : Int) = some (modv a1 11); rw [e1]⟩, m2, trivial⟩
      by_cases e2 : 8 ≤ modv a2 20
      · exact run_true (sym_env (l := tW1 true) ⟨add, s14, s12, ent_cmp rfl rfl (by simp [cmpB, gW]; omega), ent_cmp rfl rfl (by simp [cmpB, gW]; omega), q14, trivial⟩) (x0 _) runW1 args w
      · exact run_true (sym_env (l := tW1 false) ⟨add, s14, s12, ent_cmp rfl rfl (by simp [cmpB, gW]; omega), ent_cmp rfl rfl (by simp [cmpB, gW]; omega), q14, trivial⟩) (x0 _) runW2 args w
    · exact run_true (sym_env (l := tW2) ⟨add, s14, ent_cmp rfl rfl (by simp [cmpB, gW, e1]), ent_cmp rfl rfl (by simp [cmpB, gW, e1]), q11, q14, trivial⟩) xS runW3 args w
  · have add : EntryOK (gW a0 a1 a2) (.add, .int .i64 1, .sym 10, .sym 13) := ent_ar rfl rfl rfl (by simp only [arI, gW]; rw [wrap64 _ (by omega)])
    exact run_true (sym_env (l := tW3) ⟨add, s14, ent_cmp rfl rfl (by simp [cmpB, gW]; omega), ent_cmp rfl rfl (by simp [cmpB, gW]; omega), q13, q11, q14, trivial⟩) xS3 runW4 args w
end livenessWaits
end Go.Proofs.Ytoigigmjemnjpaa
