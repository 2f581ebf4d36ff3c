/-
  The law NatPeriods, by the interpreter: the states of its loop, told alike at every round.
  Conditions: none.
-/
import Derived.Test.YtoigigmjemnjpaaMod
import Derived.Test.YtoigigmjemnjpaaAbsI
namespace Go.Proofs.Ytoigigmjemnjpaa
namespace Ab
open Go.RowKit
set_option linter.unusedVariables false
set_option maxRecDepth 100000
noncomputable def pC : Code := Try.f3.body.getD .skip
def loopOf : Code → Code
  | .loop b => b
  | c => c
noncomputable def pL : Code := loopOf ((blocksOf 0 pC).headD .skip)
theorem pC_is : Try.f3.body = some pC := by kernel_rfl
theorem pL_is : blocksOf 0 pC = [.loop pL] := by kernel_rfl
def vP (n m : Nat) : Nat → Value
  | 0 => .int .u8 n
  | 1 => .int .i64 n
  | 6 => .int .i64 (n / 5 : Nat)
  | _ => .int .i64 m
theorem vP_one (n m i : Nat) : (vP n m i).oneCell' = true := by
  unfold vP
  split <;> rfl
def tabP (k : Nat) (e : Bool) : BinOp → AC → AC → Option AC
  | .lss, .int .i64 i, .sym 1 => if i = k then some (.bool e) else none
  | _, _, _ => none
def tabX (b : Bool) : BinOp → AC → AC → Option AC
  | .quo, .sym 1, .int .i64 i => if i = 5 then some (.sym 6) else none
  | .eql, .sym 7, .sym 6 => if b then some (.bool true) else none
  | .eql, .sym 7, .int .i64 i => if b = false ∧ i = 0 then some (.bool true) else none
  | _, _, _ => none
def cvP : IntKind → AC → Option AC
  | .i64, .sym 0 => some (.sym 1)
  | _, _ => none
theorem cvP_ok (n m : Nat) (hn : n ≤ 255) : ∀ k i z, cvP k (.sym i) = some z → ∀ ρ, ∃ k' q, vP n m i = .int k' q ∧ CR (vP n m) ρ z (.int k (k.wrap q)) := by
  intro k i z h ρ
  unfold cvP at h
  split at h
  · rename_i he
    injection he with he
    subst he
    injection h with h
    subst h
    refine ⟨.u8, n, rfl, ?_⟩
    have e : IntKind.i64.wrap (n : Int) = n := IntWalk.i64_in _ (by omega)
    rw [e]
    rfl
  · cases h
theorem tabP_ok (n m k : Nat) (e : Bool) (he : decide (k < n) = e) : ∀ op x y z, tabP k e op x y = some z → ∀ ρ u v, CR (vP n m) ρ x u → CR (vP n m) ρ y v → ∃ k n' k' n'' c, u = .int k n' ∧ v = .int k' n'' ∧ CR (vP n m) ρ z c ∧ ∀ xt, binOp op xt u v = .pure c := by
  intro op x y z h ρ u v hu hv
  unfold tabP at h
  split at h
  · split at h
    · rename_i i hi
      injection h with h
      subst h
      have hu : u = .int .i64 i := hu
      have hv : v = .int .i64 n := hv
      subst hu; subst hv
      refine ⟨_, _, _, _, .bool e, rfl, rfl, rfl, fun xt => bin_cmp ?_ xt⟩
      simp only [cmpB, Option.some.injEq]
      rw [← he, decide_eq_decide]
      omega
    · cases h
  · cases h
theorem tabX_ok (n m : Nat) (hn : n ≤ 255) (b : Bool) (hm : m = if b then n / 5 else 0) : ∀ op x y z, tabX b op x y = some z → ∀ ρ u v, CR (vP n m) ρ x u → CR (vP n m) ρ y v → ∃ k n' k' n'' c, u = .int k n' ∧ v = .int k' n'' ∧ CR (vP n m) ρ z c ∧ ∀ xt, binOp op xt u v = .pure c := by
  intro op x y z h ρ u v hu hv
  unfold tabX at h
  split at h
  · split at h
    · rename_i i hi
      injection h with h
      subst h
      subst hi
      have hu : u = .int .i64 n := hu
      have hv : v = .int .i64 5 := hv
      subst hu; subst hv
      refine ⟨_, _, _, _, .int .i64 (n / 5 : Nat), rfl, rfl, rfl, fun xt => ?_⟩
      have e1 : ((n : Int).tdiv 5) = (n / 5 : Nat) := by
        rw [Int.tdiv_eq_ediv_of_nonneg (by omega)]
        omega
      have e2 : IntKind.i64.wrap ((n / 5 : Nat) : Int) = (n / 5 : Nat) := IntWalk.i64_in _ (by omega)
      have h0 : binOp .quo xt (.int .i64 (n : Int)) (.int .i64 5) = .pure (.int .i64 (IntKind.i64.wrap ((n : Int).tdiv 5))) := rfl
      rw [h0, e1, e2]
    · cases h
  · split at h
    · rename_i hb
      injection h with h
      subst h
      have hu : u = .int .i64 m := hu
      have hv : v = .int .i64 (n / 5 : Nat) := hv
      subst hu; subst hv
      rw [if_pos hb] at hm
      exact ⟨_, _, _, _, .bool true, rfl, rfl, rfl, fun xt => bin_cmp (by simp [cmpB, hm]) xt⟩
    · cases h
  · split at h
    · rename_i i hb
      injection h with h
      subst h
      have hu : u = .int .i64 m := hu
      have hv : v = .int .i64 i := hv
      subst hu; subst hv
      rw [hb.1] at hm
      exact ⟨_, _, _, _, .bool true, rfl, rfl, rfl, fun xt => bin_cmp (by simp [cmpB, hm, hb.2]) xt⟩
    · cases h
  · cases h
noncomputable def eP (k : Nat) (e : Bool) : Env := env (tabP k e) cvP noExt
noncomputable def eX (b : Bool) : Env := env (tabX b) cvP noExt
def setC : List AC → Nat → AC → List AC
  | [], _, _ => []
  | _ :: r, 0, v => v :: r
  | x :: r, n + 1, v => x :: setC r n v
def anyT : Nat → Sl → Sl
  | 0, t => t
  | d + 1, t => anyT d (lset t d .any)
def iC (n : Nat) : AC := .int .i64 n
noncomputable def zSa : List AC := match bget tyTab 36 with | some ti => ti.zero | none => []
noncomputable def zGw : List AC := match bget tyTab 43 with | some ti => ti.zero | none => []
noncomputable def saC (b u : Bool) (kept : Nat) : List AC := setC (setC (setC (setC (setC (setC zSa 0 (iC 5)) 3 (iC (bif u then 3 else 2))) 4 (iC 1)) 5 (iC 2)) 77 (.bool b)) 78 (iC kept)
noncomputable def gwC (k : Nat) (c : Cap) : List AC := setC (setC zGw 6 (iC k)) 16 (.slice (some (1, 0)) 1 c)
def keptN (b u : Bool) (k : Nat) : Nat := bif b && u then 5 * (k / 5) else 0
def sentN (b u : Bool) (k : Nat) : Nat := bif b && u then k / 5 else 0
def slC (b u : Bool) (k : Nat) : Sl := lset (lset (lset (lset (lset (lset (anyT 55 ⟨55, .leaf⟩) 0 (.one (.c (.sym 0)))) 1 (.one (.c (.bool b)))) 2 (.one (.c (.bool u)))) 8 (.one (.c (.ptr (some (0, 0)))))) 10 (.one (.c (iC k)))) 9 (.one (.c (iC (sentN b u k))))
/-- At the loop's head, from the second round on. -/
noncomputable def stC (b u : Bool) (k : Nat) : St := ⟨[(1, ⟨36, saC b u (keptN b u k), some (0, 81)⟩), (0, ⟨43, gwC k (.sym 0), none⟩)], 2, 1, []⟩
/-- At the loop's first head. -/
noncomputable def stI (b u : Bool) : St := ⟨[(1, ⟨36, saC b u 0, none⟩), (0, ⟨43, gwC 0 (.lit 1), none⟩)], 2, 0, []⟩
/-- Behind the loop. -/
def slX (b u : Bool) (v : AC) : Sl := lset (lset (lset (lset (anyT 55 ⟨55, .leaf⟩) 0 (.one (.c (.sym 0)))) 1 (.one (.c (.bool b)))) 2 (.one (.c (.bool u)))) 9 (.one (.c v))
def fOf (g : Nat) (s : St) : List (Nat × Nat) × List (Nat × Nat) :=
  match look s.heap g with
  | some B => match sub B.cells 16 1 with
    | some [.slice (some (i, _)) _ (.sym j)] => ([(0, g), (1, i)], [(0, j)])
    | some [.slice (some (i, _)) _ (.lit _)] => ([(0, g), (1, i)], [])
    | _ => ([], [])
  | none => ([], [])
/-- A round. -/
noncomputable def rdP (b u : Bool) (k : Nat) (s : St) : Bool :=
  match codeA (eP k true) (fnA (eP k true) 30) (drawA (eP k true) (fnA (eP k true) 30)) 1000 pL (slC b u k) s with
  | some (.normal, t', s') => subOK (fOf 0 s').1 (fOf 0 s').2 t' s' (slC b u (k + 1)) (stC b u (k + 1))
  | _ => false
/-- The end. -/
noncomputable def exP (b u : Bool) (k : Nat) (s : St) : Bool :=
  match codeA (eP k false) (fnA (eP k false) 30) (drawA (eP k false) (fnA (eP k false) 30)) 1000 pL (slC b u k) s with
  | some (.exit 0, t', s') => subOK [] [] t' s' (slX b u (iC (sentN b u k))) st0
  | _ => false
noncomputable def rdAll (b u : Bool) : Nat → Nat → Bool
  | 0, _ => true
  | m + 1, k => rdP b u k (stC b u k) && exP b u k (stC b u k) && rdAll b u m (k + 1)
theorem rdAll_ok {b u : Bool} : ∀ {m k : Nat}, rdAll b u m k = true → ∀ j, k ≤ j → j < k + m → rdP b u j (stC b u j) = true ∧ exP b u j (stC b u j) = true
  | 0, k, _, j, h1, h2 => absurd h2 (by omega)
  | m + 1, k, h, j, h1, h2 => by
    simp only [rdAll, Bool.and_eq_true] at h
    by_cases e : j = k
    · rw [e]
      exact h.1
    · exact rdAll_ok h.2 j (by omega) (by omega)
end Ab
end Go.Proofs.Ytoigigmjemnjpaa
