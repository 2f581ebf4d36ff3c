/-
  The walk of the law CookieEnds, by the interpreter.
  Conditions: none.
-/
import Derived.Test.YtddiclnkfhldlaaLaw2
namespace Go.Proofs.Ytddiclnkfhldlaa
namespace Ab
open Go.RowKit
set_option linter.unusedVariables false
set_option maxRecDepth 100000
noncomputable def ceC : Code := Try.f4.body.getD .skip
noncomputable def cePre : List Code := (lin ceC).take 3
noncomputable def ceRest : List Code := (lin ceC).drop 4
noncomputable def ceOps : Array Oper := opsOf ((lin ceC).drop 3)
theorem ceC_is : Try.f4.body = some ceC := by kernel_rfl
theorem ce_lin : lin ceC = cePre ++ (.region 3 ceOps false :: ceRest) := by kernel_rfl
def ceM (id : Nat) : Option (Nat × Bool) := match id with | 5 => some (6, false) | 11 => some (2, false) | _ => none
noncomputable def ceRun (hl : Bool) : Bool := lawRun E0n (eW noExt) (eWR noExt) ceM 100 120 Try.f4.ntmps Try.f4.results.toList [.one (.c (.sym 0))] cePre ceOps ceRest hl
theorem ceRunF : ceRun false = true := by kernel_rfl
theorem ceRunT : ceRun true = true := by kernel_rfl
end Ab
namespace cookieEnds
open Ab RowKit
theorem cookieEnds_walk (w : World) (A : Option Addr) (len cap : Nat) (hB : Byts w A len) (hl : len ≤ cap ∧ cap ≤ maxLen) :
    Calls Try.prog 4 #[.slice A len cap] w fun e w' => e = .returned (.bool true) ∧ RowKit.Below w.heap.size w w' := by
  have args : F2 (VR (fun _ => .slice A len cap) ρ0) [.one (.c (.sym 0))] #[.slice A len cap].toList := ⟨rfl, trivial⟩
  have hone : ∀ i : Nat, (Value.slice A len cap).oneCell' = true := fun _ => rfl
  have ho : ∀ q ga row b p, CallOK Try.prog (vL (fun _ => .slice A len cap) q ga row b p) noExt := fun q ga row b p f args s v s' h => by cases h
  refine law2_ok (V0 := fun _ => .slice A len cap) (E0 := E0n) (E := eW noExt) (eR := eWR noExt) (mOf := ceM) Try.func4 ceC_is args (by rw [Try.ntmps4]; show 1 ≤ _; omega) w rfl hB hl.1 hl.2 (most := 120) (by omega)
    (env_ok (fun op a b z h => (by cases h)) (fun k i z h => (by cases h)) hone) (noExt_ok rfl) (by kernel_rfl) ce_lin (fun hl q ga row hL => drawsW (oth := noExt) (ho q ga row) hone hL) (fun id m mg h => ?_) 100 (fun hl => ?_)
  · unfold ceM at h
    split at h
    · simp only [Option.some.injEq, Prod.mk.injEq] at h
      omega
    · simp only [Option.some.injEq, Prod.mk.injEq] at h
      omega
    · cases h
  · cases hl
    · exact ceRunF
    · exact ceRunT
end cookieEnds
end Go.Proofs.Ytddiclnkfhldlaa
