/-
  Functions of numbers by runs of the interpreter, one for each way that their tests may go.
  Conditions: none.
-/
import Derived.Test.YtddiclnkfhldlaaMu
import Derived.Test.YtddiclnkfhldlaaMemo
namespace Go.Proofs.Ytddiclnkfhldlaa
namespace Ab
open Go.RowKit
set_option linter.unusedVariables false
set_option linter.unusedSimpArgs false
set_option maxRecDepth 100000
/-- A test: a comparison, or a call that yields a boolean. -/
inductive Qu | cmp (op : BinOp) (a b : AC) | call (f : Nat) (args : List AV)
inductive Tree | leaf | ask (q : Qu) (y n : Tree)
def Tree.qs : Tree → List Qu
  | .leaf => []
  | .ask q y n => q :: (y.qs ++ n.qs)
def eqC : AC → AC → Bool
  | .sym i, .sym j => Nat.beq i j
  | .int k n, .int k' n' => decide (k = k') && decide (n = n')
  | _, _ => false
theorem eqC_eq {a b : AC} (h : eqC a b = true) : a = b := by
  unfold eqC at h
  split at h
  · rw [Nat.eq_of_beq_eq_true h]
  · simp only [Bool.and_eq_true, decide_eq_true_eq] at h
    rw [h.1, h.2]
  · cases h
def tabT : List (Qu × Bool) → BinOp → AC → AC → Option AC
  | [], _, _, _ => none
  | (.cmp op a b, r) :: l, op', a', b' => bif decide (op = op') && eqC a' a && eqC b' b then some (.bool r) else tabT l op' a' b'
  | _ :: l, op', a', b' => tabT l op' a' b'
def extT : List (Qu × Bool) → Nat → List AV → St → Option (AV × St)
  | [], _, _, _ => none
  | (.call f args, r) :: l, f', args', s => bif Nat.beq f f' && subA [] [] args' args then some (.one (.c (.bool r)), s) else extT l f' args' s
  | _ :: l, f', args', s => extT l f' args' s
def HoldQ (P : Program) (V : Nat → Value) (q : Qu) (r : Bool) : Prop :=
  match q with
  | .cmp op a b => ∀ ρ x y, CR V ρ a x → CR V ρ b y → ∃ k n k' n', x = .int k n ∧ y = .int k' n' ∧ ∀ xt, binOp op xt x y = .pure (.bool r)
  | .call f args => ∀ ρ w vals, F2 (VR V ρ) args vals.toList → Calls P f vals w fun e w' => e = .returned (.bool r) ∧ RowKit.Below w.heap.size w w'
noncomputable def envT (D : List (Qu × Bool)) : Env := env (tabT D) noCvt (onlyE (env noTab noCvt noExt) (extT D))
noncomputable def chkT (res : AV → Bool) (f : Nat) (args : List AV) : Tree → List (Qu × Bool) → Bool
  | .leaf, D => match fnA (envT D) 60 f args st0 with
    | some (v, _) => res v
    | none => false
  | .ask q y n, D => chkT res f args y ((q, true) :: D) && chkT res f args n ((q, false) :: D)
section
variable {V : Nat → Value}
theorem tabT_ok : ∀ {D : List (Qu × Bool)}, (∀ d ∈ D, HoldQ Try.prog V d.1 d.2) → ∀ {op : BinOp} {a b z : AC}, tabT D op a b = some z → ∀ ρ x y, CR V ρ a x → CR V ρ b y → ∃ k n k' n' c, x = .int k n ∧ y = .int k' n' ∧ CR V ρ z c ∧ ∀ xt, binOp op xt x y = .pure c
  | (.cmp op0 a0 b0, r) :: l, hD, op, a, b, z, h, ρ, x, y, hx, hy => by
    simp only [tabT] at h
    cases hk : (decide (op0 = op) && eqC a a0 && eqC b b0)
    · rw [hk] at h
      exact tabT_ok (fun d hd => hD d (List.mem_cons_of_mem _ hd)) h ρ x y hx hy
    · rw [hk] at h
      injection h with h
      subst h
      simp only [Bool.and_eq_true, decide_eq_true_eq] at hk
      obtain ⟨⟨rfl, h2⟩, h3⟩ := hk
      have h2 := eqC_eq h2
      have h3 := eqC_eq h3
      subst h2; subst h3
      have hq : HoldQ Try.prog V (.cmp op0 a b) r := hD (.cmp op0 a b, r) (List.mem_cons_self ..)
      obtain ⟨k, n, k', n', h4, h5, h6⟩ := hq ρ x y hx hy
      exact ⟨k, n, k', n', _, h4, h5, rfl, h6⟩
  | (.call f args, r) :: l, hD, op, a, b, z, h, ρ, x, y, hx, hy => by
    simp only [tabT] at h
    exact tabT_ok (fun d hd => hD d (List.mem_cons_of_mem _ hd)) h ρ x y hx hy
  | [], _, op, a, b, z, h, ρ, x, y, hx, hy => by simp [tabT] at h
theorem extT_ok (hone : ∀ i, (V i).oneCell' = true) : ∀ {D : List (Qu × Bool)}, (∀ d ∈ D, HoldQ Try.prog V d.1 d.2) → CallOK Try.prog V (extT D)
  | (.call f0 args0, r) :: l, hD => by
    intro f args s v s' h ρ w vals hv hr hf
    simp only [extT] at h
    cases hk : (Nat.beq f0 f && subA [] [] args args0)
    · rw [hk] at h
      exact extT_ok hone (fun d hd => hD d (List.mem_cons_of_mem _ hd)) f args s v s' h ρ w vals hv hr hf
    · rw [hk] at h
      simp only [cond_true, Option.some.injEq, Prod.mk.injEq] at h
      obtain ⟨rfl, rfl⟩ := h
      simp only [Bool.and_eq_true] at hk
      have e := Nat.eq_of_beq_eq_true hk.1
      subst e
      have hq : HoldQ Try.prog V (.call f0 args0) r := hD (.call f0 args0, r) (List.mem_cons_self ..)
      refine (hq (ρ.ren [] []) w vals (subA_ok hone hk.2 hv)).mono ?_
      rintro e w' ⟨rfl, hb⟩
      exact ⟨_, ρ, rfl, goes_keep hr hb, rfl⟩
  | (.cmp op0 a0 b0, r) :: l, hD => by
    intro f args s v s' h ρ w vals hv hr hf
    simp only [extT] at h
    exact extT_ok hone (fun d hd => hD d (List.mem_cons_of_mem _ hd)) f args s v s' h ρ w vals hv hr hf
  | [], _ => by
    intro f args s v s' h
    simp [extT] at h
theorem envT_ok (hone : ∀ i, (V i).oneCell' = true) {D : List (Qu × Bool)} (hD : ∀ d ∈ D, HoldQ Try.prog V d.1 d.2) : EnvOK Try.prog V (envT D) ∧ ExtOK Try.prog V (envT D) :=
  ⟨env_ok (fun op a b z h ρ x y hx hy => tabT_ok hD h ρ x y hx hy) (fun k i z h => (by cases h)) hone, onlyE_ok (extT_ok hone hD) rfl rfl⟩
theorem chk_ok (hone : ∀ i, (V i).oneCell' = true) {res : AV → Bool} {f : Nat} {args : List AV} {vals : Array Value} (hv : F2 (VR V ρ0) args vals.toList) : ∀ (T : Tree) {D : List (Qu × Bool)}, (∀ q ∈ T.qs, HoldQ Try.prog V q true ∨ HoldQ Try.prog V q false) → (∀ d ∈ D, HoldQ Try.prog V d.1 d.2) → chkT res f args T D = true →
    ∃ v, res v = true ∧ ∀ w, Calls Try.prog f vals w fun e w' => ∃ c ρ', e = .returned c ∧ VR V ρ' v c ∧ RowKit.Below w.heap.size w w'
  | .leaf, D, hT, hD, h => by
    obtain ⟨e1, e2⟩ := envT_ok hone hD
    simp only [chkT] at h
    split at h
    · rename_i v s hrun
      refine ⟨v, h, fun w => ?_⟩
      refine (fnA_ok e1 e2 60 f args st0 v s hrun ρ0 w vals hv (rep0 w) ⟨fun _ _ _ => rfl, fun _ _ _ => rfl⟩).mono ?_
      rintro e w' ⟨c, ρ', rfl, hg, hc⟩
      exact ⟨c, ρ', rfl, hc, goes_below hg⟩
    · cases h
  | .ask q y n, D, hT, hD, h => by
    simp only [chkT, Bool.and_eq_true] at h
    have hy : ∀ q ∈ y.qs, HoldQ Try.prog V q true ∨ HoldQ Try.prog V q false := fun q hq => hT q (by simp [Tree.qs, hq])
    have hn : ∀ q ∈ n.qs, HoldQ Try.prog V q true ∨ HoldQ Try.prog V q false := fun q hq => hT q (by simp [Tree.qs, hq])
    rcases hT q (by simp [Tree.qs]) with hq | hq
    · exact chk_ok hone hv y hy (fun d hd => by
        rcases List.mem_cons.1 hd with rfl | hd
        · exact hq
        · exact hD d hd) h.1
    · exact chk_ok hone hv n hn (fun d hd => by
        rcases List.mem_cons.1 hd with rfl | hd
        · exact hq
        · exact hD d hd) h.2
/-- The numbers behind cells. -/
def numOf (N : Nat → Option (IntKind × Int)) : AC → Option (IntKind × Int)
  | .sym i => N i
  | .int k n => some (k, n)
  | _ => none
def cmpB (op : BinOp) (a b : Int) : Option Bool :=
  match op with
  | .eql => some (a == b) | .neq => some (a != b) | .lss => some (decide (a < b)) | .leq => some (decide (a ≤ b)) | .gtr => some (decide (a > b)) | .geq => some (decide (a ≥ b))
  | _ => none
theorem cmpB_ok {op : BinOp} {a b : Int} {r : Bool} (h : cmpB op a b = some r) (k : IntKind) (xt : Nat) : binOp op xt (.int k a) (.int k b) = .pure (.bool r) := by
  have hkk : ¬ (k ≠ k) := fun h => h rfl
  cases op <;> first
    | (injection h with h; subst h; simp only [binOp, if_neg hkk]; rfl)
    | cases h
def isCmp : BinOp → Bool
  | .eql => true | .neq => true | .lss => true | .leq => true | .gtr => true | .geq => true
  | _ => false
/-- Is a test between numbers of one kind? (knd: the kinds of the symbols) -/
def okQ (knd : Nat → Option IntKind) : Qu → Bool
  | .cmp op a b => isCmp op && (match kOf knd a, kOf knd b with | some k, some k' => decide (k = k') | _, _ => false)
  | .call _ _ => false
where
  kOf (knd : Nat → Option IntKind) : AC → Option IntKind
    | .sym i => knd i
    | .int k _ => some k
    | _ => none
theorem kOf_ok {knd : Nat → Option IntKind} (hk : ∀ i k, knd i = some k → ∃ n, V i = .int k n) {a : AC} {k : IntKind} (h : okQ.kOf knd a = some k) : ∃ n, ∀ ρ x, CR V ρ a x → x = .int k n := by
  cases a with
  | sym i =>
    obtain ⟨n, hn⟩ := hk i k h
    exact ⟨n, fun ρ x hx => Eq.trans (show x = V i from hx) hn⟩
  | int k' n =>
    injection h with h
    subst h
    exact ⟨n, fun ρ x hx => hx⟩
  | _ => cases h
theorem okQ_ok {knd : Nat → Option IntKind} (hk : ∀ i k, knd i = some k → ∃ n, V i = .int k n) {q : Qu} (h : okQ knd q = true) : HoldQ Try.prog V q true ∨ HoldQ Try.prog V q false := by
  cases q with
  | call f args => cases h
  | cmp op a b =>
    simp only [okQ, Bool.and_eq_true] at h
    obtain ⟨h1, h2⟩ := h
    split at h2
    · rename_i k k' ha hb
      have e := of_decide_eq_true h2
      subst e
      obtain ⟨n, hn⟩ := kOf_ok hk ha
      obtain ⟨m, hm⟩ := kOf_ok hk hb
      obtain ⟨r, hr⟩ : ∃ r, cmpB op n m = some r := by
        cases op <;> first | exact ⟨_, rfl⟩ | cases h1
      have key : HoldQ Try.prog V (.cmp op a b) r := fun ρ x y hx hy => ⟨k, n, k, m, hn ρ x hx, hm ρ y hy, fun xt => by rw [hn ρ x hx, hm ρ y hy]; exact cmpB_ok hr k xt⟩
      cases r
      · exact .inr key
      · exact .inl key
    · cases h2
end
def isB : AV → Bool
  | .one (.c (.bool _)) => true
  | _ => false
/-- A function that yields a boolean, the same in every world. -/
def Fixed (f : Nat) (vals : Array Value) : Prop := ∃ r, ∀ w, Calls Try.prog f vals w fun e w' => e = .returned (.bool r) ∧ RowKit.Below w.heap.size w w'
theorem fixed_of {V : Nat → Value} (hone : ∀ i, (V i).oneCell' = true) {f : Nat} {args : List AV} {vals : Array Value} (hv : F2 (VR V ρ0) args vals.toList) {T : Tree} (hT : ∀ q ∈ T.qs, HoldQ Try.prog V q true ∨ HoldQ Try.prog V q false) (h : chkT isB f args T [] = true) : Fixed f vals := by
  obtain ⟨v, hv1, hv2⟩ := chk_ok hone hv T hT (D := []) (fun d hd => by cases hd) h
  have : ∃ r, v = .one (.c (.bool r)) := by
    unfold isB at hv1
    split at hv1
    · exact ⟨_, rfl⟩
    · cases hv1
  obtain ⟨r, rfl⟩ := this
  refine ⟨r, fun w => (hv2 w).mono ?_⟩
  rintro e w' ⟨c, ρ', rfl, hc, hb⟩
  have hc : c = .bool r := hc
  exact ⟨by rw [hc], hb⟩
def rowV (l : List Value) : Nat → Value := fun i => l.getD i (.bool false)
theorem rowV_one {l : List Value} (h : ∀ v ∈ l, v.oneCell' = true) (i : Nat) : (rowV l i).oneCell' = true := by
  unfold rowV
  rw [List.getD_eq_getElem?_getD]
  cases hi : l[i]? with
  | none => rfl
  | some v => exact h v (List.mem_of_getElem? hi)
end Ab
end Go.Proofs.Ytddiclnkfhldlaa
