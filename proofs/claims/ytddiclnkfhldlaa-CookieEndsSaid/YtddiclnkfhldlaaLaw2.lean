/-
  A law that draws its input, by one run for each case.
  Conditions: none.
-/
import Derived.Test.YtddiclnkfhldlaaCt
namespace Go.Proofs.Ytddiclnkfhldlaa
namespace Ab
open Go.RowKit
set_option linter.unusedVariables false
set_option linter.unusedSimpArgs false
set_option maxRecDepth 100000
noncomputable def lawRun (E0 : Env) (E : Bool → Env) (eR : Bool → Int → Int → Env) (mOf : Nat → Option (Nat × Bool)) (n most : Nat) (nt : Nat) (rs : List ResultVar) (args : List AV) (pre : List Code) (ops : Array Oper) (rest : List Code) (hl : Bool) : Bool :=
  match codeAL E0 pre (pad nt args) st0 with
  | some (t1, s1) => (match newR E0 most ops t1 s1 with
    | some t2 => allTrue (E hl) rs (codeNL hl s1.next (s1.next + 1) (E hl) (eR hl) mOf noHk n rest t2 (newS hl { s1 with heap := [] }))
    | none => false)
  | none => false
theorem law2_ok {V0 : Nat → Value} {E0 : Env} {E : Bool → Env} {eR : Bool → Int → Int → Env} {mOf : Nat → Option (Nat × Bool)} {f : Nat} {fn : Func} {c : Code} (hf : Try.prog.funcs[f]? = some fn) (hc : fn.body = some c) {args : List AV} {vals : Array Value} (hargs : F2 (VR V0 ρ0) args vals.toList) (hle : args.length ≤ fn.ntmps) (w : World)
    {A : Option Addr} {len cap : Nat} (hV : V0 0 = .slice A len cap) (hB : Byts w A len) (hl1 : len ≤ cap) (hl2 : cap ≤ maxLen) {most : Nat} (hmost : most ≤ 250)
    (hE : EnvOK Try.prog V0 E0) (hx : ExtOK Try.prog V0 E0) (hnewf : E0.fn 9 = some Try.f9)
    {pre rest : List Code} {id : Nat} {ops : Array Oper} (hlin : lin c = pre ++ (.region id ops false :: rest))
    (hD : ∀ hl q ga row, LsOK hl q ga row → DrawsOK Try.prog V0 hl q ga row (E hl) (eR hl)) (hm : ∀ id m mg, mOf id = some (m, mg) → 1 ≤ m ∧ m ≤ 1000) (n : Nat)
    (hrun : ∀ hl, lawRun E0 E eR mOf n most fn.ntmps fn.results.toList args pre ops rest hl = true) :
    Calls Try.prog f vals w fun e w' => e = .returned (.bool true) ∧ RowKit.Below w.heap.size w w' := by
  have h0 := hrun true
  unfold lawRun at h0 hrun
  split at h0
  · rename_i t1 s1 hpre
    split at h0
    · rename_i t2 hnew
      refine law_ok hf hc hargs hle w hV hB hl1 hl2 hmost hE hx hnewf hlin hpre hnew hD hm (hk := fun _ => noHk) (fun hl q ga row hL c hc => noHk_ok) n (fun hl => ?_)
      have := hrun hl
      rw [hpre] at this
      simp only [hnew] at this
      exact this
    · cases h0
  · cases h0
noncomputable def opsOf : List Code → Array Oper
  | .region _ ops _ :: _ => ops
  | _ => #[]
noncomputable def E0n : Env := env noTab noCvt noExt
/-- The tables of a law with draws at the numbers 4, 5. -/
noncomputable def eW (oth : Nat → List AV → St → Option (AV × St)) (hl : Bool) : Env := env noTab noCvt (onlyE envZ (orE (extD hl 4 5) oth))
noncomputable def eWR (oth : Nat → List AV → St → Option (AV × St)) (hl : Bool) : Int → Int → Env := envR noTab noCvt (onlyE envZ (orE (extD hl 4 5) oth)) hl 4 5
section
variable {V0 : Nat → Value} {q : Ls} {ga : Nat} {row : Array Value} {hl : Bool}
theorem drawsW {oth : Nat → List AV → St → Option (AV × St)} (ho : ∀ b p, CallOK Try.prog (vL V0 q ga row b p) oth) (h1 : ∀ i, (V0 i).oneCell' = true) (hL : LsOK hl q ga row) : DrawsOK Try.prog V0 hl q ga row (eW oth hl) (eWR oth hl) where
  one := h1
  e := fun b p hp => envX_ok (vL_one h1 b p) (orE_ok (extD_ok hL h1) (ho b p))
  r := fun b p k hp k1 k2 => ⟨env_ok (fun op a b z h => (by cases h)) (fun k i z h => (by cases h)) (vL_one h1 b p), envR_ext hL hp (by omega) (by omega) (envX_ok (vL_one h1 b p) (orE_ok (extD_ok hL h1) (ho b p))).2⟩
  ls := hL
end
end Ab
end Go.Proofs.Ytddiclnkfhldlaa
