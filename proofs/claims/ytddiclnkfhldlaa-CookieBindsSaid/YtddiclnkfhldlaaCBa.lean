/-
  The law CookieBinds: its parts, its table of comparisons.
  Conditions: none.
-/
import Derived.Test.YtddiclnkfhldlaaLaw3
namespace Go.Proofs.Ytddiclnkfhldlaa
namespace Ab
open Go.RowKit
set_option linter.unusedVariables false
set_option linter.unusedSimpArgs false
set_option maxRecDepth 100000
noncomputable def cbC : Code := Try.f3.body.getD .skip
noncomputable def cbPre : List Code := (lin cbC).take 3
noncomputable def cbMid : List Code := ((lin cbC).drop 4).take 2
noncomputable def cbRest : List Code := ((lin cbC).drop 4).drop 2
noncomputable def cbOps : Array Oper := opsOf ((lin cbC).drop 3)
theorem cbC_is : Try.f3.body = some cbC := by kernel_rfl
theorem cb_lin : lin cbC = cbPre ++ (.region 3 cbOps false :: (cbMid ++ cbRest)) := by kernel_rfl
def nameI : List AC := [.int .i64 2, .ivl .i64 100 2097254, .slice none 0 (.lit 0)]
/-- What is told behind the draws. -/
def cbS : St := ⟨[(11, ⟨30, nameI, none⟩), (10, ⟨30, nameI, none⟩), (7, ⟨36, gwI 1, none⟩), (6, ⟨36, gwI 0, none⟩)], 12, 0, []⟩
def anyS : Nat → Sl → Sl
  | 0, t => t
  | d + 1, t => anyS d (lset t d .any)
def pB (i : Nat) : AV := .one (.c (.ptr (some (i, 0))))
def sB (i : Nat) : AV := .one (.c (.sym i))
def cbT : Sl := lset (lset (lset (lset (lset (lset (lset (lset (anyS 112 ⟨112, .leaf⟩) 1 (sB 1)) 2 (sB 2)) 3 (sB 3)) 8 (.one (.c (.bool false)))) 10 (pB 6)) 11 (pB 7)) 12 (pB 10)) 13 (pB 11)
def cbF : List (Nat × Nat) := [(11, 11), (10, 10), (7, 7), (6, 6)]
noncomputable def cbM (hl : Bool) : Bool :=
  match codeAL E0n cbPre (pad Try.f3.ntmps [sB 0, sB 1, sB 2, sB 3]) st0 with
  | some (t1, s1) => (match newR E0n 120 cbOps t1 s1 with
    | some t2 => (match codeAL (eW noExt hl) cbMid t2 (newS hl { s1 with heap := [] }) with
      | some (t, s) => subOK cbF [] t s cbT cbS
      | none => false)
    | none => false)
  | none => false
theorem cbMT : cbM true = true := by kernel_rfl
theorem cbMF : cbM false = true := by kernel_rfl
/-- The two nonces as symbols. -/
def cbS2 : St := symAt 6 11 1 (symAt 5 10 1 cbS)
theorem cb_at5 : ivlAt cbS 10 1 = some (100, 2097254) := rfl
theorem cb_at6 : ivlAt (symAt 5 10 1 cbS) 11 1 = some (100, 2097254) := rfl
theorem cb_free : freeT 5 cbT cbT.length = true ∧ freeH 5 cbS.heap = true ∧ freeT 6 cbT cbT.length = true ∧ freeH 6 (symAt 5 10 1 cbS).heap = true := by decide
/-- How the numbers lie to one another. -/
structure Cls where
  l56 : Bool
  e56 : Bool
  l5 : Bool
  e5 : Bool
  l6 : Bool
  e6 : Bool
  r1 : Bool
  r2 : Bool
def cmpAns (op : BinOp) (lt eq : Bool) : Option AC :=
  match op with
  | .eql => some (.bool eq) | .neq => some (.bool !eq) | .lss => some (.bool lt) | .leq => some (.bool (lt || eq)) | .gtr => some (.bool !(lt || eq)) | .geq => some (.bool !lt)
  | _ => none
def eqAns (op : BinOp) (eq : Bool) : Option AC :=
  match op with
  | .eql => some (.bool eq) | .neq => some (.bool !eq)
  | _ => none
def ansN (op : BinOp) (lt eq : Bool) (n : Int) : Option AC := if n = 1048577 then cmpAns op lt eq else if n < 100 then cmpAns op false false else none
def ansM (op : BinOp) (lt eq : Bool) (n : Int) : Option AC := if n = 1048577 then cmpAns op lt eq else if n < 100 then cmpAns op true false else none
def tabB (c : Cls) (op : BinOp) (a b : AC) : Option AC :=
  match a, b with
  | .sym 5, .sym 6 => cmpAns op c.l56 c.e56
  | .sym 6, .sym 5 => cmpAns op (!(c.l56 || c.e56)) c.e56
  | .sym 5, .sym 5 => cmpAns op false true
  | .sym 6, .sym 6 => cmpAns op false true
  | .sym 1, .sym 1 => cmpAns op false true
  | .sym 2, .sym 2 => cmpAns op false true
  | .sym 5, .int .i64 n => ansN op c.l5 c.e5 n
  | .sym 6, .int .i64 n => ansN op c.l6 c.e6 n
  | .int .i64 n, .sym 5 => ansM op (!(c.l5 || c.e5)) c.e5 n
  | .int .i64 n, .sym 6 => ansM op (!(c.l6 || c.e6)) c.e6 n
  | .sym 3, .sym 1 => eqAns op c.r1
  | .sym 3, .sym 2 => eqAns op c.r2
  | .sym 4, .sym 1 => eqAns op false
  | .sym 1, .sym 4 => eqAns op false
  | .sym 1, .int .i64 1 => (match op with | .add => some (.sym 4) | _ => none)
  | _, _ => none
noncomputable def eCl (c : Cls) : Env := env (tabB c) noCvt noExt
noncomputable def clRun (c : Cls) : Bool := endTrue (eCl c) Try.f3.results.toList (codeAE (eCl c) cbRest cbT cbS2)
theorem cmpAns_ok {V : Nat → Value} {op : BinOp} {lt eq : Bool} {z : AC} {n m : Int} (h : cmpAns op lt eq = some z) (h1 : lt = decide (n < m)) (h2 : eq = decide (n = m)) (ρ : Rho) : ∃ c, CR V ρ z c ∧ ∀ xt, binOp op xt (.int .i64 n) (.int .i64 m) = .pure c := by
  have key : ∀ r, cmpB op n m = some r → z = .bool r → ∃ c, CR V ρ z c ∧ ∀ xt, binOp op xt (.int .i64 n) (.int .i64 m) = .pure c := by
    intro r hr hz
    subst hz
    exact ⟨.bool r, rfl, fun xt => cmpB_ok hr .i64 xt⟩
  subst h1
  subst h2
  have cases3 : (n < m ∧ ¬ n = m) ∨ (¬ n < m ∧ n = m) ∨ (¬ n < m ∧ ¬ n = m) := by omega
  cases op <;> simp only [cmpAns, Option.some.injEq, reduceCtorEq] at h
  case eql => exact key (n == m) rfl (by rw [← h]; congr 1)
  case neq => exact key (n != m) rfl (by rw [← h]; congr 1)
  case lss => exact key (decide (n < m)) rfl h.symm
  case leq => exact key (decide (n ≤ m)) rfl (by rw [← h]; congr 1; rw [Bool.eq_iff_iff]; simp; omega)
  case gtr => exact key (decide (n > m)) rfl (by rw [← h]; congr 1; rw [Bool.eq_iff_iff]; simp; omega)
  case geq => exact key (decide (n ≥ m)) rfl (by rw [← h]; congr 1; rw [Bool.eq_iff_iff]; simp)
theorem eqAns_ok {V : Nat → Value} {op : BinOp} {eq : Bool} {z : AC} {n m : Int} (h : eqAns op eq = some z) (h2 : eq = decide (n = m)) (ρ : Rho) : ∃ c, CR V ρ z c ∧ ∀ xt, binOp op xt (.int .i64 n) (.int .i64 m) = .pure c := by
  refine cmpAns_ok (lt := decide (n < m)) (eq := eq) ?_ rfl h2 ρ
  cases op <;> first | exact h | cases h
end Ab
end Go.Proofs.Ytddiclnkfhldlaa
