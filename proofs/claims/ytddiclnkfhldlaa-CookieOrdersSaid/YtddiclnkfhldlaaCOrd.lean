/-
  The walk of the law CookieOrders, by the interpreter.
  Conditions: none.
-/
import Derived.Test.YtddiclnkfhldlaaLaw2
namespace Go.Proofs.Ytddiclnkfhldlaa
namespace Ab
open Go.RowKit
set_option linter.unusedVariables false
set_option maxRecDepth 100000
noncomputable def coC : Code := Try.f5.body.getD .skip
noncomputable def coPre : List Code := (lin coC).take 3
noncomputable def coRest : List Code := (lin coC).drop 4
noncomputable def coOps : Array Oper := opsOf ((lin coC).drop 3)
theorem coC_is : Try.f5.body = some coC := by kernel_rfl
theorem co_lin : lin coC = coPre ++ (.region 3 coOps false :: coRest) := by kernel_rfl
def moC (r : Int) : Nat → List AV → St → Option (AV × St) := modE [(1, 4, .int .i64 r)]
noncomputable def coRun (r : Int) (hl : Bool) : Bool := lawRun E0n (eW (moC r)) (fun hl _ _ => eW (moC r) hl) (fun _ => none) 100 80 Try.f5.ntmps Try.f5.results.toList [.one (.c (.sym 0)), .one (.c (.sym 1))] coPre coOps coRest hl
theorem coRun0 : coRun 0 true = true ∧ coRun 0 false = true := by constructor <;> kernel_rfl
theorem coRun1 : coRun 1 true = true ∧ coRun 1 false = true := by constructor <;> kernel_rfl
theorem coRun2 : coRun 2 true = true ∧ coRun 2 false = true := by constructor <;> kernel_rfl
theorem coRun3 : coRun 3 true = true ∧ coRun 3 false = true := by constructor <;> kernel_rfl
def vO (sl : Value) (a : Int) : Nat → Value
  | 0 => sl
  | _ => .int .i64 a
theorem vO_one {A : Option Addr} {n c : Nat} {a : Int} (i : Nat) : (vO (.slice A n c) a i).oneCell' = true := by
  unfold vO
  split <;> rfl
end Ab
namespace cookieOrders
open Ab RowKit
theorem walkR (w : World) (A : Option Addr) (len cap : Nat) (hB : Byts w A len) (hl1 : len ≤ cap) (hl2 : cap ≤ maxLen) (a r : Int) (ha : -9223372036854775808 ≤ a ∧ a ≤ 9223372036854775807) (hk : modv a 4 = r) (hr : coRun r true = true ∧ coRun r false = true) :
    Calls Try.prog 5 #[.slice A len cap, .int .i64 a] w fun e w' => e = .returned (.bool true) ∧ RowKit.Below w.heap.size w w' := by
  have args : F2 (VR (vO (.slice A len cap) a) ρ0) [.one (.c (.sym 0)), .one (.c (.sym 1))] #[.slice A len cap, .int .i64 a].toList := ⟨rfl, rfl, trivial⟩
  have ho : ∀ q ga row b p, CallOK Try.prog (vL (vO (.slice A len cap) a) q ga row b p) (moC r) := by
    intro q ga row b p
    refine (modE_ok (V := vL (vO (.slice A len cap) a) q ga row b p) (tab := noTab) (cvt := noCvt) (tb := [(1, 4, .int .i64 r)]) ?_).ok
    intro x hx
    rw [List.mem_singleton.1 hx]
    exact ⟨a, rfl, ha, (by show (0 : Int) < 4; decide), (by show (4 : Int) ≤ 1000000; decide), fun ρ => by rw [hk]; rfl⟩
  refine law2_ok (V0 := vO (.slice A len cap) a) (E0 := E0n) (E := eW (moC r)) (eR := fun hl _ _ => eW (moC r) hl) (mOf := fun _ => none) Try.func5 coC_is args (by rw [Try.ntmps5]; show 2 ≤ _; omega) w rfl hB hl1 hl2 (most := 80) (by omega)
    (env_ok (fun op a b z h => (by cases h)) (fun k i z h => (by cases h)) vO_one) (noExt_ok rfl) (by kernel_rfl) co_lin (fun hl q ga row hL => ?_) (fun _ _ _ h => (by cases h)) 100 (fun hl => ?_)
  · have h := drawsW (oth := moC r) (ho q ga row) vO_one hL
    exact ⟨h.one, h.e, fun b p m hp _ _ => h.e b p hp, hL⟩
  · cases hl
    · exact hr.2
    · exact hr.1
theorem cookieOrders_walk (w : World) (A : Option Addr) (len cap : Nat) (hB : Byts w A len) (hl : len ≤ cap ∧ cap ≤ maxLen) (a1 : Int) (h1 : -9223372036854775808 ≤ a1 ∧ a1 ≤ 9223372036854775807) :
    Calls Try.prog 5 #[.slice A len cap, .int .i64 a1] w fun e w' => e = .returned (.bool true) ∧ RowKit.Below w.heap.size w w' := by
  have hm := modv_range a1 4 (by omega)
  rcases (by omega : modv a1 4 = 0 ∨ modv a1 4 = 1 ∨ modv a1 4 = 2 ∨ modv a1 4 = 3) with h | h | h | h
  · exact walkR w A len cap hB hl.1 hl.2 a1 0 h1 h coRun0
  · exact walkR w A len cap hB hl.1 hl.2 a1 1 h1 h coRun1
  · exact walkR w A len cap hB hl.1 hl.2 a1 2 h1 h coRun2
  · exact walkR w A len cap hB hl.1 hl.2 a1 3 h1 h coRun3
end cookieOrders
end Go.Proofs.Ytddiclnkfhldlaa
