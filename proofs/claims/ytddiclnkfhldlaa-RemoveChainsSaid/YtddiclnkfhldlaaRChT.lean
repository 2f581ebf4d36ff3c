/-
  The law RemoveChains, by the interpreter: the states of its loop, one for each set of associations that are gone.
  Conditions: none.
-/
import Derived.Test.YtddiclnkfhldlaaMemo
namespace Go.Proofs.Ytddiclnkfhldlaa
namespace Ab
open Go.RowKit
set_option linter.unusedVariables false
set_option maxRecDepth 100000
/-- The environment with a contract for Next. -/
noncomputable def envR (tab : BinOp → AC → AC → Option AC) (cvt : IntKind → AC → Option AC) (oth : Nat → List AV → St → Option (AV × St)) (hl : Bool) (i0 i1 : Nat) (m r : Int) : Env :=
  env tab cvt (fun f args s => bif Nat.beq f 12 then nextE hl i0 i1 m r args s else oth f args s)
theorem nextE_up {hl : Bool} {i0 i1 : Nat} {m r : Int} {args : List AV} {s s' : St} {v : AV} (h : nextE hl i0 i1 m r args s = some (v, s')) : s.next ≤ s'.next ∧ s.ncap ≤ s'.ncap := by
  unfold nextE at h
  split at h
  · rename_i i m'
    cases hk : (Nat.beq i i0 && decide (m' = m) && codesIn hl i0 i1 s 902)
    · simp [hk] at h
    · simp only [hk, cond_true, Option.some.injEq, Prod.mk.injEq] at h
      obtain ⟨_, rfl⟩ := h
      exact ⟨Nat.le_refl _, Nat.le_refl _⟩
  · cases h
theorem envR_ext {V0 : Nat → Value} {q : Ls} {ga b p : Nat} {row : Array Value} {hl : Bool} {i0 i1 : Nat} {m : Int} {tab : BinOp → AC → AC → Option AC} {cvt : IntKind → AC → Option AC} {oth : Nat → List AV → St → Option (AV × St)} (hL : LsOK hl q ga row) (hp : p ≤ q.n) (hm0 : 1 ≤ m) (hm1 : m ≤ 1099511627776)
    (ho : ExtOK Try.prog (vL V0 q ga row b p) (env tab cvt oth)) : ExtOK Try.prog (vL V0 q ga row b p) (envR tab cvt oth hl i0 i1 m (dig q row p m)) := by
  have key : ∀ f args s v s', (envR tab cvt oth hl i0 i1 m (dig q row p m)).ext f args s = some (v, s') → (f = 12 ∧ nextE hl i0 i1 m (dig q row p m) args s = some (v, s')) ∨ oth f args s = some (v, s') := by
    intro f args s v s' h
    have h : (bif Nat.beq f 12 then nextE hl i0 i1 m (dig q row p m) args s else oth f args s) = some (v, s') := h
    cases hb : Nat.beq f 12
    · rw [hb] at h
      exact .inr h
    · rw [hb] at h
      exact .inl ⟨Nat.eq_of_beq_eq_true hb, h⟩
  refine ⟨?_, ?_, ?_⟩
  · intro f args s v s' h ρ w vals hv hr hf
    rcases key _ _ _ _ _ h with ⟨rfl, h⟩ | h
    · exact nextE_ok hL hp hm0 hm1 h hv hr
    · exact ho.ok f args s v s' h ρ w vals hv hr hf
  · intro f args s v s' h
    rcases key _ _ _ _ _ h with ⟨rfl, h⟩ | h
    · exact nextE_up h
    · exact ho.up f args s v s' h
  · intro f args s r h
    rcases key f args s r.1 r.2 h with ⟨rfl, h⟩ | h
    · exact ⟨Try.f12, by kernel_rfl⟩
    · exact ho.fn f args s r h
def setC : List AC → Nat → AC → List AC
  | [], _, _ => []
  | _ :: r, 0, v => v :: r
  | x :: r, n + 1, v => x :: setC r n v
def anyT : Nat → Sl → Sl
  | 0, t => t
  | d + 1, t => anyT d (lset t d .any)
def iC (n : Nat) : AC := .int .i64 n
def loopOf : Code → Code
  | .loop b => b
  | c => c
noncomputable def rcC : Code := Try.f7.body.getD .skip
noncomputable def rcL : Code := loopOf ((blocksOf 4 rcC).headD .skip)
theorem rcC_is : Try.f7.body = some rcC := by kernel_rfl
theorem rcL_is : blocksOf 4 rcC = [.loop rcL] := by kernel_rfl
noncomputable def zSa : List AC := match bget tyTab 73 with | some ti => ti.zero | none => []
noncomputable def zCh : List AC := match bget tyTab 78 with | some ti => ti.zero | none => []
noncomputable def zGw : List AC := match bget tyTab 36 with | some ti => ti.zero | none => []
/-- The first one from k on that is there. -/
def heir : List Bool → Nat → Nat
  | true :: S, k => heir S (k + 1)
  | _, k => k
/-- The associations that are there, from number k on; the last one is the end. -/
noncomputable def saC (k next fol : Nat) : List AC := setC (setC (setC (setC zSa 0 (iC (10 + k))) 3 (iC 3)) 73 (iC next)) 75 (iC fol)
noncomputable def saEnd (k : Nat) : List AC := setC (setC zSa 0 (iC (10 + k))) 3 (iC 3)
noncomputable def sasC : List Bool → Nat → List AC
  | [], k => saEnd k
  | true :: S, k => sasC S (k + 1)
  | false :: S, k => saC k (match S with | true :: _ => 0 | _ => 11 + k) (10 + heir S (k + 1)) ++ sasC S (k + 1)
noncomputable def chC (k sa : Nat) : List AC := setC (setC (setC zCh 0 (iC (50 + k))) 1 (iC (70 + k))) 2 (iC (10 + sa))
noncomputable def chsC : List Bool → Nat → List AC
  | [], k => chC k k
  | b :: S, k => chC k (heir (b :: S) k) ++ chsC S (k + 1)
def cnt : List Bool → Nat
  | [] => 0
  | b :: S => (bif b then 1 else 0) + cnt S
noncomputable def gwC (sas chs n m : Nat) (c d : Nat) : List AC := setC (setC zGw 16 (.slice (some (sas, 0)) n (.sym c))) 17 (.slice (some (chs, 0)) m (.sym d))
def slC (S : List Bool) : Sl :=
  let n := S.length + 1
  lset (lset (lset (lset (lset (lset (lset (anyT 159 ⟨159, .leaf⟩) 5 (.one (.c (.ptr (some (17, 0)))))) 6 (.one (.c (iC n)))) 7 (.one (.c (.ptr (some (0, 0)))))) 10 (.one (.c (iC (9 + n))))) 12 (.one (.c (.slice (some (6, 0)) n (.lit n))))) 13 (.one (.c (.ptr (some (1, 0)))))) 14 (.one (.c (iC (n - 1 - cnt S))))
def boolsC : List Bool → List AC
  | [] => [.bool false]
  | b :: S => .bool b :: boolsC S
noncomputable def stC (hl : Bool) (S : List Bool) : St :=
  let n := S.length + 1
  let k := n - cnt S
  let tl : List (Nat × Blk) := (17, ⟨84, [], some (900, 0)⟩) :: (bif hl then [(18, ⟨5, [], some (901, 0)⟩)] else [])
  let gone : Nat × Blk := (6, ⟨4, boolsC S, none⟩)
  bif Nat.beq (cnt S) 0 then
    ⟨(0, ⟨36, gwC 2 3 n n 0 1, none⟩) :: (1, ⟨36, gwC 2 3 n n 0 1, none⟩) :: (2, ⟨73, sasC S 0, some (0, 81)⟩) :: (3, ⟨78, chsC S 0, some (1, 42)⟩) :: gone :: tl, 19, 2, []⟩
  else
    ⟨(0, ⟨36, gwC 2 3 k n 0 1, none⟩) :: (1, ⟨36, gwC 4 5 k n 2 3, none⟩) :: (2, ⟨73, sasC S 0 ++ zSa, some (0, 81)⟩) :: (3, ⟨78, chsC S 0, some (1, 42)⟩) :: (4, ⟨73, sasC S 0 ++ saEnd (n - 1), some (2, 81)⟩) :: (5, ⟨78, chsC S 0, some (3, 42)⟩) :: gone :: tl, 19, 4, []⟩
def ptrOf : AV → Option Nat
  | .one (.c (.ptr (some (i, _)))) => some i
  | .one (.c (.slice (some (i, _)) _ _)) => some i
  | _ => none
def rowOf (s : St) (g off : Nat) : Option (Nat × Nat) := match look s.heap g with
  | some B => match sub B.cells off 1 with
    | some [.slice (some (i, _)) _ (.sym j)] => some (i, j)
    | _ => none
  | none => none
/-- Which numbers are which. -/
def fOf (hl : Bool) (first : Bool) (t : Sl) (s : St) : List (Nat × Nat) × List (Nat × Nat) :=
  match ptrOf (lget t 7), ptrOf (lget t 13), ptrOf (lget t 12), ptrOf (lget t 5) with
  | some g, some h, some a, some c =>
    match rowOf s g 16, rowOf s g 17, rowOf s h 16, rowOf s h 17 with
    | some x, some y, some z, some u =>
      let tl := (17, c) :: (bif hl then [(18, c + 1)] else [])
      bif first then ((0, g) :: (1, h) :: (2, x.1) :: (3, y.1) :: (6, a) :: tl, [(0, x.2), (1, y.2)])
      else ((0, g) :: (1, h) :: (2, x.1) :: (3, y.1) :: (4, z.1) :: (5, u.1) :: (6, a) :: tl, [(0, x.2), (1, y.2), (2, z.2), (3, u.2)])
    | _, _, _, _ => ([], [])
  | _, _, _, _ => ([], [])
def goneOf (t : Sl) (s : St) (n : Nat) : List Bool := match ptrOf (lget t 12) with
  | some a => match look s.heap a with
    | some B => (B.cells.take n).map fun x => match x with | .bool b => b | _ => false
    | none => []
  | none => []
def upTo : Nat → Nat → List Nat
  | _, 0 => []
  | a, d + 1 => a :: upTo (a + 1) d
/-- The associations and children that may come, n associations in all. -/
noncomputable def saVars (n : Nat) : List (List AC) := saEnd (n - 1) :: (upTo 0 (n - 1)).flatMap fun k => saC k (11 + k) (11 + k) :: (upTo (k + 2) (n - 2 - k)).map fun j => saC k 0 (10 + j)
noncomputable def chVars (n : Nat) : List (List AC) := (upTo 0 n).flatMap fun k => (upTo k (n - k)).map fun j => chC k j
def zTm : List AC := [.int .i64 0, .int .i64 0, .slice none 0 (.lit 0)]
def memo2 (f : Nat) (l : List AC) : Memo := ⟨f, [.one (.agg l), .one (.agg l)], .bool true⟩
noncomputable def tb0 : List Memo := [memo2 64 zTm]
noncomputable def eM : Env := env noTab noCvt (memoE tb0)
noncomputable def tbR (n : Nat) : List Memo := (saVars n).map (memo2 65) ++ ((chVars n).map (memo2 66) ++ tb0)
noncomputable def eD (n : Nat) : Env := env noTab noCvt (memoE (tbR n))
noncomputable def eX (n : Nat) (hl : Bool) : Int → Int → Env := envR noTab noCvt (memoE (tbR n)) hl 17 18
def mOfR (S : List Bool) : Nat → Option (Nat × Bool) := fun id => bif Nat.beq id 26 then some (S.length, false) else none
/-- Is S one that may be reached? Without choices the first ones go first. -/
def initS : List Bool → Bool
  | [] => true
  | true :: S => initS S
  | false :: S => Nat.beq (cnt S) 0
def goodS (hl : Bool) (S : List Bool) : Bool := hl || initS S
noncomputable def rdR (hl : Bool) (S : List Bool) : Bool :=
  match codeN hl 17 18 (eD (S.length + 1)) (eX (S.length + 1) hl) (mOfR S) noHk 100 rcL (slC S) (stC hl S) with
  | some l => l.all fun x => match x with
    | (.normal, t', s') => (let S' := goneOf t' s' S.length
      Nat.beq S'.length S.length && Nat.beq (cnt S') (cnt S + 1) && goodS hl S' && subOK (fOf hl false t' s').1 (fOf hl false t' s').2 t' s' (slC S') (stC hl S'))
    | _ => false
  | none => false
/-- Behind the loop. -/
noncomputable def exR (hl : Bool) (S : List Bool) : Bool :=
  match codeN hl 17 18 (eD (S.length + 1)) (eX (S.length + 1) hl) (mOfR S) noHk 100 rcL (slC S) (stC hl S) with
  | some l => l.all fun x => match x with
    | (.exit 4, t', s') => subOK (fOf hl false t' s').1 (fOf hl false t' s').2 t' s' (slC S) (stC hl S)
    | _ => false
  | none => false
end Ab
end Go.Proofs.Ytddiclnkfhldlaa
