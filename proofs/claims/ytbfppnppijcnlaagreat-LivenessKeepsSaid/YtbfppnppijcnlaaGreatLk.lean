/-
  The law LivenessKeeps: its code, its environment, and what is run.
  Conditions: none.
-/
import Derived.Test.YtbfppnppijcnlaaGreatLkS
namespace Go.Proofs.YtbfppnppijcnlaaGreat
namespace Ab
open Go.RowKit
set_option linter.unusedVariables false
set_option linter.unusedSimpArgs false
set_option maxRecDepth 100000
noncomputable def tK (n : Nat) : Nat := 1 + n / 2 % 2
noncomputable def nK (n : Nat) : Bool := Nat.beq (n % 2) 1
noncomputable def tabLk (k : Nat) (b : Bool) : BinOp → AC → AC → Option AC := fun op x y =>
  match x, y with
  | .int .i64 c, .sym i => bif Nat.beq i 4 && decide (c = (k : Int)) then (match op with | .lss => some (.bool b) | _ => none) else none
  | .sym i, .int .i64 c => bif Nat.beq i 3 && decide (c = 60) then (match op with | .rem => some (.sym 4) | _ => none) else none
  | _, _ => none
noncomputable def cvtLk (k : IntKind) (x : AC) : Option AC := match k, x with | .i64, .sym 1 => some (.sym 3) | _, _ => none
noncomputable def tmK (f : Nat) (args : List AV) (s : St) : Option (AV × St) :=
  match envZ.fn f with
  | none => none
  | some _ => tmE (fun _ => false) f args s
noncomputable def eLk (k : Nat) (b : Bool) : Env := env (tabLk k b) cvtLk tmK
noncomputable def lwC : Code := Tryz.f8.body.getD .skip
theorem lwC_is : Tryz.f8.body = some lwC := by kernel_rfl
noncomputable def lwNew : Array Oper := opsOf ((lin lwC).drop 3)
noncomputable def lwOps : Array Oper := opsOf ((lin lwC).drop 4)
noncomputable def lwRest : List Code := (lin lwC).drop 5
noncomputable def lwL1 : List Code := lwRest.take 3
noncomputable def lwOps8 : Array Oper := opsOf (lwRest.drop 3)
noncomputable def lwL2 : List Code := lwRest.drop 4
theorem lw_lin : lin lwC = (lin lwC).take 3 ++ (.region 3 lwNew false :: ([] ++ (.region 4 lwOps false :: lwRest))) := by kernel_rfl
theorem lw_rest : lwRest = lwL1 ++ (.region 8 lwOps8 false :: lwL2) := by kernel_rfl
theorem lwOps8_size : lwOps8.size = 7 := by kernel_rfl
theorem ops4_len : (lwOps8.toList.take 4).length = 4 := by kernel_rfl
theorem ops5_len : (lwOps8.toList.drop 5).length = 2 := by kernel_rfl
noncomputable def stC : Code := Tryz.f14.body.getD .skip
theorem stC_is : Tryz.f14.body = some stC := by kernel_rfl
theorem stF_fn : (eLk 100 false).fn 14 = some Tryz.f14 := by kernel_rfl
noncomputable def lsPre : List Code := (lin stC).take 2
noncomputable def lsB : Code := match (lin stC).drop 2 with | .block _ (.loop b) :: _ => b | _ => .skip
noncomputable def lsPost : List Code := (lin stC).drop 3
theorem ls_lin : lin stC = lsPre ++ (.block 0 (.loop lsB) :: lsPost) := by kernel_rfl
noncomputable def lwArgs : List AV := [.one (.c (.sym 0)), .one (.c (.sym 1))]
noncomputable def lwU : Sl := lset (lset (anyL Tryz.f8.ntmps ⟨Tryz.f8.ntmps, .leaf⟩) 1 (.one (.c (.sym 1)))) 4 (.one (.c (.bool false)))
noncomputable def lwM (hl : Bool) : Bool :=
  match codeAL E0n ((lin lwC).take 3) (pad Tryz.f8.ntmps lwArgs) st0 with
  | some (t1, s1) => (match newR E0n 120 lwNew t1 s1 with
    | some t2 => gwStart hl s1.next (s1.next + 1) 19 lwOps tLaw lwU ⟨[], 0, 0, []⟩ t2 (newS hl { s1 with heap := [] })
    | none => false)
  | none => false
theorem lwMF : lwM false = true := by kernel_rfl
theorem lwMT : lwM true = true := by kernel_rfl
noncomputable def rK0 : St := ⟨[], 0, 0, []⟩
/-- The slots of the law at the second Settle, and behind it. -/
noncomputable def lwV : Sl := lset (lset (anyL Tryz.f8.ntmps ⟨Tryz.f8.ntmps, .leaf⟩) 1 (.one (.c (.sym 1)))) 8 (.one (.c (.ptr (some (0, 0)))))
noncomputable def lwW : Sl := lset (anyL Tryz.f8.ntmps ⟨Tryz.f8.ntmps, .leaf⟩) 8 (.one (.c (.ptr (some (0, 0)))))
noncomputable def shOf (n : Nat) : Nat := shL.getD n 0
noncomputable def gT (n : Nat) : Tell := gTl.getD n (lkT [] [])
noncomputable def hS (g j : Nat) : St := (hSl g).getD j rK0
noncomputable def hTl (g j : Nat) : Tell := (hTll g).getD j (lkT [] [])
/-- The slots of Settle at the round k. -/
noncomputable def hU (k : Nat) : Sl := lset (lset (lset (lset (anyL Tryz.f14.ntmps ⟨Tryz.f14.ntmps, .leaf⟩) 1 (.one (.c (.sym 4)))) 2 (.one (.c (.ptr (some (4, 0)))))) 4 (.one (.c (.ptr (some (3, 0)))))) 5 (.one (.c (.int .i64 (Int.ofNat k))))
/-- Up to the second Settle. -/
noncomputable def preA (n : Nat) : Option (Sl × St) :=
  match opsA (eNet (tK n) (nK n)) (fnA (eNet (tK n) (nK n)) 30) lwOps (lwOps.toList.drop 2) (lset lwU 19 (gwV (n / 4) rK0)) (gwSt (n / 4) rK0) with
  | some (t, s) => codeAL (eNet (tK n) (nK n)) lwL1 t s
  | none => none
noncomputable def pOK (n : Nat) : Bool :=
  match preA n with
  | some (t, s) => retOK (gT n) t s lwV (gS (shOf n))
  | none => false
noncomputable def isZk (f : List (Nat × Nat)) : Bool := match lkN f 0 with | some i => Nat.beq i 0 | none => false
theorem tell0 {f : List (Nat × Nat)} (h : isZk f = true) : lkN f 0 = some 0 := by
  unfold isZk at h
  split at h
  · rename_i i hi
    rw [hi, Nat.eq_of_beq_eq_true h]
  · cases h
/-- The call of the second Settle. -/
noncomputable def sOK (g : Nat) : Bool :=
  match opsA (eLk 100 false) (fnA (eLk 100 false) 30) lwOps8 (lwOps8.toList.take 4) lwV (gS g) with
  | some (t1, s1) => (match lwOps8[4]? with
    | some o => (match calleeOf o, o.dst with
      | some (f, l), some d => Nat.beq f 14 && (Nat.beq d 38 && (Nat.ble (evals t1 l).length Tryz.f14.ntmps && (Nat.beq t1.length lwW.length && (lowTk t1 lwW lwW.length && (match codeAL (eLk 100 false) lsPre (pad Tryz.f14.ntmps (evals t1 l)) s1 with
        | some (t2, s2) => isZk (sT g).f && retOK (sT g) t2 s2 (hU 0) (hS g 0)
        | none => false)))))
      | _, _ => false)
    | none => false)
  | none => false
noncomputable def rA (k : Nat) (t : Sl) (s : St) : Option (AE × Sl × St) := codeA (eLk k true) (fnA (eLk k true) 30) (drawA (eLk k true) (fnA (eLk k true) 30)) 1000 lsB t s
noncomputable def xA (k : Nat) (t : Sl) (s : St) : Option (AE × Sl × St) := codeA (eLk k false) (fnA (eLk k false) 30) (drawA (eLk k false) (fnA (eLk k false) 30)) 1000 lsB t s
noncomputable def isEnd : AE → Bool
  | .normal => true
  | .ret => true
  | _ => false
theorem isEnd_ok {e : AE} (h : isEnd e = true) : e = .normal ∨ e = .ret := by
  cases e with
  | normal => exact .inl rfl
  | ret => exact .inr rfl
  | exit i => cases h
/-- The end of the law, where the second Settle ends at the round k. -/
noncomputable def xOK (k : Nat) (t : Sl) (s : St) : Bool :=
  match xA k t s with
  | some (.exit i, t1, s1) => Nat.beq i 0 && (match codeAE (eLk k false) lsPost t1 s1 with
    | some (e, t2, s2) => isEnd e && (match resultsA (eLk k false) t2 s2 Tryz.f14.results.toList with
      | some rs => (match opsA (eLk k false) (fnA (eLk k false) 30) lwOps8 (lwOps8.toList.drop 5) (lset lwW 38 (wrapA rs)) s2 with
        | some (t3, s3) => endTrue (eLk k false) Tryz.f8.results.toList (codeAE (eLk k false) lwL2 t3 s3)
        | none => false)
      | none => false)
    | none => false)
  | _ => false
/-- n rounds from the round k on, each of which may be the last one. -/
noncomputable def segOK (g : Nat) : Nat → Nat → Sl → St → Bool
  | 0, k, t, s => bif Nat.beq k 60 then true else isZk (hTl g (k / 5)).f && retOK (hTl g (k / 5)) t s (hU k) (hS g (k / 5))
  | n + 1, k, t, s => xOK k t s && (match rA k t s with
    | some (.normal, t', s') => segOK g n (k + 1) t' s'
    | _ => false)
noncomputable def qOK (g j : Nat) : Bool := segOK g 5 (5 * j) (hU (5 * j)) (hS g j)
end Ab
end Go.Proofs.YtbfppnppijcnlaaGreat
