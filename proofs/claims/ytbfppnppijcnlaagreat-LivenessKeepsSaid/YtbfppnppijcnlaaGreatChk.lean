/-
  Functions of numbers by runs of the interpreter, one for each way that their tests may go.
  Conditions: none.
-/
import Derived.Test.YtbfppnppijcnlaaGreatMuD
import Derived.Test.YtbfppnppijcnlaaGreatCm
namespace Go.Proofs.YtbfppnppijcnlaaGreat
namespace Ab
open Go.RowKit
set_option linter.unusedVariables false
set_option linter.unusedSimpArgs false
set_option maxRecDepth 100000
/-- A test: a comparison, or a call that yields a boolean. -/
inductive Qu | cmp (op : BinOp) (a b : AC) | call (f : Nat) (args : List AV)
inductive Tree | leaf | ask (q : Qu) (y n : Tree)
noncomputable def Tree.qs : Tree → List Qu
  | .leaf => []
  | .ask q y n => q :: (y.qs ++ n.qs)
noncomputable def eqC : AC → AC → Bool
  | .sym i, .sym j => Nat.beq i j
  | .int k n, .int k' n' => decide (k = k') && decide (n = n')
  | _, _ => false
theorem eqC_eq {a b : AC} (h : eqC a b = true) : a = b := by
  unfold eqC at h
  split at h
  · rw [Nat.eq_of_beq_eq_true h]
  · simp only [Bool.and_eq_true, decide_eq_true_eq] at h
    rw [h.1, h.2]
  · cases h
noncomputable def tabT : List (Qu × Bool) → BinOp → AC → AC → Option AC
  | [], _, _, _ => none
  | (.cmp op a b, r) :: l, op', a', b' => bif decide (op = op') && eqC a' a && eqC b' b then some (.bool r) else tabT l op' a' b'
  | _ :: l, op', a', b' => tabT l op' a' b'
noncomputable def extT : List (Qu × Bool) → Nat → List AV → St → Option (AV × St)
  | [], _, _, _ => none
  | (.call f args, r) :: l, f', args', s => bif Nat.beq f f' && subA [] [] args' args then some (.one (.c (.bool r)), s) else extT l f' args' s
  | _ :: l, f', args', s => extT l f' args' s
noncomputable def HoldQ (P : Program) (V : Nat → Value) (q : Qu) (r : Bool) : Prop :=
  match q with
  | .cmp op a b => ∀ ρ x y, CR V ρ a x → CR V ρ b y → ∃ k n k' n', x = .int k n ∧ y = .int k' n' ∧ ∀ xt, binOp op xt x y = .pure (.bool r)
  | .call f args => ∀ ρ w vals, F2 (VR V ρ) args vals.toList → Calls P f vals w fun e w' => e = .returned (.bool r) ∧ RowKit.Below w.heap.size w w'
noncomputable def envT (D : List (Qu × Bool)) : Env := env (tabT D) noCvt (onlyE (env noTab noCvt noExt) (extT D))
noncomputable def chkT (res : AV → Bool) (f : Nat) (args : List AV) : Tree → List (Qu × Bool) → Bool
  | .leaf, D => match fnA (envT D) 60 f args st0 with
    | some (v, _) => res v
    | none => false
  | .ask q y n, D => chkT res f args y ((q, true) :: D) && chkT res f args n ((q, false) :: D)
section
variable {V : Nat → Value}
theorem tabT_ok : ∀ {D : List (Qu × Bool)}, (∀ d ∈ D, HoldQ Tryz.prog V d.1 d.2) → ∀ {op : BinOp} {a b z : AC}, tabT D op a b = some z → ∀ ρ x y, CR V ρ a x → CR V ρ b y → ∃ k n k' n' c, x = .int k n ∧ y = .int k' n' ∧ CR V ρ z c ∧ ∀ xt, binOp op xt x y = .pure c
  | (.cmp op0 a0 b0, r) :: l, hD, op, a, b, z, h, ρ, x, y, hx, hy => by
    simp only [tabT] at h
    cases hk : (decide (op0 = op) && eqC a a0 && eqC b b0)
    · rw [hk] at h
      exact tabT_ok (fun d hd => hD d (List.mem_cons_of_mem _ hd)) h ρ x y hx hy
    · rw [hk] at h
      injection h with h
      subst h
      simp only [Bool.and_eq_true, decide_eq_true_eq] at hk
      obtain ⟨⟨rfl, h2⟩, h3⟩ := hk
      have h2 := eqC_eq h2
      have h3 := eqC_eq h3
      subst h2; subst h3
      have hq : HoldQ Tryz.prog V (.cmp op0 a b) r := hD (.cmp op0 a b, r) (List.mem_cons_self ..)
      obtain ⟨k, n, k', n', h4, h5, h6⟩ := hq ρ x y hx hy
      exact ⟨k, n, k', n', _, h4, h5, rfl, h6⟩
  | (.call f args, r) :: l, hD, op, a, b, z, h, ρ, x, y, hx, hy => by
    simp only [tabT] at h
    exact tabT_ok (fun d hd => hD d (List.mem_cons_of_mem _ hd)) h ρ x y hx hy
  | [], _, op, a, b, z, h, ρ, x, y, hx, hy => by simp [tabT] at h
theorem extT_ok (hone : ∀ i, (V i).oneCell' = true) : ∀ {D : List (Qu × Bool)}, (∀ d ∈ D, HoldQ Tryz.prog V d.1 d.2) → CallOK Tryz.prog V (extT D)
  | (.call f0 args0, r) :: l, hD => by
    intro f args s v s' h ρ w vals hv hr hf
    simp only [extT] at h
    cases hk : (Nat.beq f0 f && subA [] [] args args0)
    · rw [hk] at h
      exact extT_ok hone (fun d hd => hD d (List.mem_cons_of_mem _ hd)) f args s v s' h ρ w vals hv hr hf
    · rw [hk] at h
      simp only [cond_true, Option.some.injEq, Prod.mk.injEq] at h
      obtain ⟨rfl, rfl⟩ := h
      simp only [Bool.and_eq_true] at hk
      have e := Nat.eq_of_beq_eq_true hk.1
      subst e
      have hq : HoldQ Tryz.prog V (.call f0 args0) r := hD (.call f0 args0, r) (List.mem_cons_self ..)
      refine (hq (ρ.ren [] []) w vals (subA_ok hone hk.2 hv)).mono ?_
      rintro e w' ⟨rfl, hb⟩
      exact ⟨_, ρ, rfl, goes_keep hr hb, rfl⟩
  | (.cmp op0 a0 b0, r) :: l, hD => by
    intro f args s v s' h ρ w vals hv hr hf
    simp only [extT] at h
    exact extT_ok hone (fun d hd => hD d (List.mem_cons_of_mem _ hd)) f args s v s' h ρ w vals hv hr hf
  | [], _ => by
    intro f args s v s' h
    simp [extT] at h
theorem envT_ok (hone : ∀ i, (V i).oneCell' = true) {D : List (Qu × Bool)} (hD : ∀ d ∈ D, HoldQ Tryz.prog V d.1 d.2) : EnvOK Tryz.prog V (envT D) ∧ ExtOK Tryz.prog V (envT D) :=
  ⟨env_ok (fun op a b z h ρ x y hx hy => tabT_ok hD h ρ x y hx hy) (fun k i z h => (by cases h)) hone, onlyE_ok (extT_ok hone hD) rfl rfl⟩
theorem chk_ok (hone : ∀ i, (V i).oneCell' = true) {res : AV → Bool} {f : Nat} {args : List AV} {vals : Array Value} (hv : F2 (VR V ρ0) args vals.toList) : ∀ (T : Tree) {D : List (Qu × Bool)}, (∀ q ∈ T.qs, HoldQ Tryz.prog V q true ∨ HoldQ Tryz.prog V q false) → (∀ d ∈ D, HoldQ Tryz.prog V d.1 d.2) → chkT res f args T D = true →
    ∃ v, res v = true ∧ ∀ w, Calls Tryz.prog f vals w fun e w' => ∃ c ρ', e = .returned c ∧ VR V ρ' v c ∧ RowKit.Below w.heap.size w w'
  | .leaf, D, hT, hD, h => by
    obtain ⟨e1, e2⟩ := envT_ok hone hD
    simp only [chkT] at h
    split at h
    · rename_i v s hrun
      refine ⟨v, h, fun w => ?_⟩
      refine (fnA_ok e1 e2 60 f args st0 v s hrun ρ0 w vals hv (rep0 w) ⟨fun _ _ _ => rfl, fun _ _ _ => rfl⟩).mono ?_
      rintro e w' ⟨c, ρ', rfl, hg, hc⟩
      exact ⟨c, ρ', rfl, hc, goes_below hg⟩
    · cases h
  | .ask q y n, D, hT, hD, h => by
    simp only [chkT, Bool.and_eq_true] at h
    have hy : ∀ q ∈ y.qs, HoldQ Tryz.prog V q true ∨ HoldQ Tryz.prog V q false := fun q hq => hT q (by simp [Tree.qs, hq])
    have hn : ∀ q ∈ n.qs, HoldQ Tryz.prog V q true ∨ HoldQ Tryz.prog V q false := fun q hq => hT q (by simp [Tree.qs, hq])
    rcases hT q (by simp [Tree.qs]) with hq | hq
    · exact chk_ok hone hv y hy (fun d hd => by
        rcases List.mem_cons.1 hd with rfl | hd
        · exact hq
        · exact hD d hd) h.1
    · exact chk_ok hone hv n hn (fun d hd => by
        rcases List.mem_cons.1 hd with rfl | hd
        · exact hq
        · exact hD d hd) h.2
/-- The numbers behind cells. -/
noncomputable def numOf (N : Nat → Option (IntKind × Int)) : AC → Option (IntKind × Int)
  | .sym i => N i
  | .int k n => some (k, n)
  | _ => none
noncomputable def cmpB (op : BinOp) (a b : Int) : Option Bool :=
  match op with
  | .eql => some (a == b) | .neq => some (a != b) | .lss => some (decide (a < b)) | .leq => some (decide (a ≤ b)) | .gtr => some (decide (a > b)) | .geq => some (decide (a ≥ b))
  | _ => none
theorem cmpB_ok {op : BinOp} {a b : Int} {r : Bool} (h : cmpB op a b = some r) (k : IntKind) (xt : Nat) : binOp op xt (.int k a) (.int k b) = .pure (.bool r) := by
  have hkk : ¬ (k ≠ k) := fun h => h rfl
  cases op <;> first
    | (injection h with h; subst h; simp only [binOp, if_neg hkk]; rfl)
    | cases h
noncomputable def isCmp : BinOp → Bool
  | .eql => true | .neq => true | .lss => true | .leq => true | .gtr => true | .geq => true
  | _ => false
/-- Is a test between numbers of one kind? (knd: the kinds of the symbols) -/
noncomputable def okQ (knd : Nat → Option IntKind) : Qu → Bool
  | .cmp op a b => isCmp op && (match kOf knd a, kOf knd b with | some k, some k' => decide (k = k') | _, _ => false)
  | .call _ _ => false
where
  kOf (knd : Nat → Option IntKind) : AC → Option IntKind
    | .sym i => knd i
    | .int k _ => some k
    | _ => none
theorem kOf_ok {knd : Nat → Option IntKind} (hk : ∀ i k, knd i = some k → ∃ n, V i = .int k n) {a : AC} {k : IntKind} (h : okQ.kOf knd a = some k) : ∃ n, ∀ ρ x, CR V ρ a x → x = .int k n := by
  cases a with
  | sym i =>
    obtain ⟨n, hn⟩ := hk i k h
    exact ⟨n, fun ρ x hx => Eq.trans (show x = V i from hx) hn⟩
  | int k' n =>
    injection h with h
    subst h
    exact ⟨n, fun ρ x hx => hx⟩
  | _ => cases h
theorem okQ_ok {knd : Nat → Option IntKind} (hk : ∀ i k, knd i = some k → ∃ n, V i = .int k n) {q : Qu} (h : okQ knd q = true) : HoldQ Tryz.prog V q true ∨ HoldQ Tryz.prog V q false := by
  cases q with
  | call f args => cases h
  | cmp op a b =>
    simp only [okQ, Bool.and_eq_true] at h
    obtain ⟨h1, h2⟩ := h
    split at h2
    · rename_i k k' ha hb
      have e := of_decide_eq_true h2
      subst e
      obtain ⟨n, hn⟩ := kOf_ok hk ha
      obtain ⟨m, hm⟩ := kOf_ok hk hb
      obtain ⟨r, hr⟩ : ∃ r, cmpB op n m = some r := by
        cases op <;> first | exact ⟨_, rfl⟩ | cases h1
      have key : HoldQ Tryz.prog V (.cmp op a b) r := fun ρ x y hx hy => ⟨k, n, k, m, hn ρ x hx, hm ρ y hy, fun xt => by rw [hn ρ x hx, hm ρ y hy]; exact cmpB_ok hr k xt⟩
      cases r
      · exact .inr key
      · exact .inl key
    · cases h2
end
noncomputable def isB : AV → Bool
  | .one (.c (.bool _)) => true
  | _ => false
/-- A function that yields a boolean, the same in every world. -/
noncomputable def Fixed (f : Nat) (vals : Array Value) : Prop := ∃ r, ∀ w, Calls Tryz.prog f vals w fun e w' => e = .returned (.bool r) ∧ RowKit.Below w.heap.size w w'
theorem fixed_of {V : Nat → Value} (hone : ∀ i, (V i).oneCell' = true) {f : Nat} {args : List AV} {vals : Array Value} (hv : F2 (VR V ρ0) args vals.toList) {T : Tree} (hT : ∀ q ∈ T.qs, HoldQ Tryz.prog V q true ∨ HoldQ Tryz.prog V q false) (h : chkT isB f args T [] = true) : Fixed f vals := by
  obtain ⟨v, hv1, hv2⟩ := chk_ok hone hv T hT (D := []) (fun d hd => by cases hd) h
  have : ∃ r, v = .one (.c (.bool r)) := by
    unfold isB at hv1
    split at hv1
    · exact ⟨_, rfl⟩
    · cases hv1
  obtain ⟨r, rfl⟩ := this
  refine ⟨r, fun w => (hv2 w).mono ?_⟩
  rintro e w' ⟨c, ρ', rfl, hc, hb⟩
  have hc : c = .bool r := hc
  exact ⟨by rw [hc], hb⟩
noncomputable def rowV (l : List Value) : Nat → Value := fun i => l.getD i (.bool false)
theorem rowV_one {l : List Value} (h : ∀ v ∈ l, v.oneCell' = true) (i : Nat) : (rowV l i).oneCell' = true := by
  unfold rowV
  rw [List.getD_eq_getElem?_getD]
  cases hi : l[i]? with
  | none => rfl
  | some v => exact h v (List.mem_of_getElem? hi)
end Ab
end Go.Proofs.YtbfppnppijcnlaaGreat
namespace Go.Proofs.YtbfppnppijcnlaaGreat
namespace Ab
open Go.RowKit
set_option linter.unusedVariables false
set_option linter.unusedSimpArgs false
set_option maxRecDepth 100000
noncomputable def sy (i : Nat) : AC := .sym i
noncomputable def kn (k : IntKind) (n : Int) : AC := .int k n
noncomputable def ask (op : BinOp) (a b : AC) (y n : Tree) : Tree := .ask (.cmp op a b) y n
noncomputable def tValid : Tree :=
  let six := ask .eql (sy 0) (kn .i64 6) .leaf .leaf
  ask .eql (sy 0) (kn .i64 4) (ask .eql (sy 1) (kn .u64 0) (ask .lss (sy 2) (kn .u64 4294967296) .leaf six) six) six
noncomputable def tLess : Tree := ask .neq (sy 0) (sy 3) (ask .lss (sy 0) (sy 3) .leaf .leaf) (ask .neq (sy 1) (sy 4) (ask .lss (sy 1) (sy 4) .leaf .leaf) (ask .lss (sy 2) (sy 5) .leaf .leaf))
noncomputable def tPorts : Tree := ask .geq (sy 0) (kn .i64 (-1)) (ask .leq (sy 1) (kn .i64 65535) (ask .leq (sy 0) (sy 1) .leaf .leaf) .leaf) .leaf
noncomputable def aggS (l : List Nat) : AV := .one (.agg (l.map AC.sym))
theorem rValid : chkT isB 160 [aggS [0, 1, 2]] tValid [] = true := by kernel_rfl
theorem rLess : chkT isB 161 [aggS [0, 1, 2], aggS [3, 4, 5]] tLess [] = true := by kernel_rfl
theorem rPorts : chkT isB 162 [aggS [0, 1]] tPorts [] = true := by kernel_rfl
/-- The kinds of three numbers of an address. -/
noncomputable def kAdr (i : Nat) : Option IntKind := match i with | 0 => some .i64 | 1 => some .u64 | 2 => some .u64 | 3 => some .i64 | 4 => some .u64 | 5 => some .u64 | _ => none
noncomputable def kThree (i : Nat) : Option IntKind := match i with | 0 => some .i64 | 1 => some .u64 | 2 => some .u64 | _ => none
noncomputable def kTwo (i : Nat) : Option IntKind := match i with | 0 => some .i64 | 1 => some .i64 | _ => none
theorem all_okQ {V : Nat → Value} {knd : Nat → Option IntKind} (hk : ∀ i k, knd i = some k → ∃ n, V i = .int k n) {l : List Qu} (h : l.all (okQ knd) = true) : ∀ q ∈ l, HoldQ Tryz.prog V q true ∨ HoldQ Tryz.prog V q false :=
  fun q hq => okQ_ok hk (List.all_eq_true.1 h q hq)
theorem valid_fix (f h l : Int) : Fixed 160 #[.agg #[.int .i64 f, .int .u64 h, .int .u64 l]] := by
  refine fixed_of (V := rowV [.int .i64 f, .int .u64 h, .int .u64 l]) (rowV_one (by simp [Value.oneCell'])) (args := [aggS [0, 1, 2]]) ⟨⟨_, rfl, rfl, rfl, rfl, trivial⟩, trivial⟩ (T := tValid) (all_okQ (knd := kThree) ?_ (by decide)) rValid
  intro i k hi
  match i, hi with
  | 0, hi => injection hi with hi; subst hi; exact ⟨_, rfl⟩
  | 1, hi => injection hi with hi; subst hi; exact ⟨_, rfl⟩
  | 2, hi => injection hi with hi; subst hi; exact ⟨_, rfl⟩
  | n + 3, hi => cases hi
theorem less_fix (f h l f' h' l' : Int) : Fixed 161 #[.agg #[.int .i64 f, .int .u64 h, .int .u64 l], .agg #[.int .i64 f', .int .u64 h', .int .u64 l']] := by
  refine fixed_of (V := rowV [.int .i64 f, .int .u64 h, .int .u64 l, .int .i64 f', .int .u64 h', .int .u64 l']) (rowV_one (by simp [Value.oneCell'])) (args := [aggS [0, 1, 2], aggS [3, 4, 5]]) ⟨⟨_, rfl, rfl, rfl, rfl, trivial⟩, ⟨_, rfl, rfl, rfl, rfl, trivial⟩, trivial⟩ (T := tLess) (all_okQ (knd := kAdr) ?_ (by decide)) rLess
  intro i k hi
  match i, hi with
  | 0, hi => injection hi with hi; subst hi; exact ⟨_, rfl⟩
  | 1, hi => injection hi with hi; subst hi; exact ⟨_, rfl⟩
  | 2, hi => injection hi with hi; subst hi; exact ⟨_, rfl⟩
  | 3, hi => injection hi with hi; subst hi; exact ⟨_, rfl⟩
  | 4, hi => injection hi with hi; subst hi; exact ⟨_, rfl⟩
  | 5, hi => injection hi with hi; subst hi; exact ⟨_, rfl⟩
  | n + 6, hi => cases hi
theorem ports_fix (a b : Int) : Fixed 162 #[.agg #[.int .i64 a, .int .i64 b]] := by
  refine fixed_of (V := rowV [.int .i64 a, .int .i64 b]) (rowV_one (by simp [Value.oneCell'])) (args := [aggS [0, 1]]) ⟨⟨_, rfl, rfl, rfl, trivial⟩, trivial⟩ (T := tPorts) (all_okQ (knd := kTwo) ?_ (by decide)) rPorts
  intro i k hi
  match i, hi with
  | 0, hi => injection hi with hi; subst hi; exact ⟨_, rfl⟩
  | 1, hi => injection hi with hi; subst hi; exact ⟨_, rfl⟩
  | n + 2, hi => cases hi
/-- CheckBox: the tests in their order. -/
noncomputable def tBox : Tree :=
  let vl (i : Nat) (n : Tree) : Tree := .ask (.call 160 [aggS [3 * i, 3 * i + 1, 3 * i + 2]]) (ask .neq (sy (3 * i)) (sy 0) .leaf n) .leaf
  let ls (i j : Nat) (n : Tree) : Tree := .ask (.call 161 [aggS [3 * i, 3 * i + 1, 3 * i + 2], aggS [3 * j, 3 * j + 1, 3 * j + 2]]) .leaf n
  let pt (i : Nat) (n : Tree) : Tree := .ask (.call 162 [aggS [i, i + 1]]) n .leaf
  vl 0 (vl 1 (vl 2 (vl 3 (ls 1 0 (ls 3 2 (ask .lss (sy 12) (kn .i64 0) .leaf (ask .gtr (sy 13) (kn .i64 255) .leaf (ask .gtr (sy 12) (sy 13) .leaf (pt 14 (pt 16 .leaf))))))))))
noncomputable def isN64 : AV → Bool
  | .one (.c (.int .i64 _)) => true
  | _ => false
theorem rBox : chkT isN64 121 [aggS [0, 1, 2, 3, 4, 5, 6, 7, 8, 9, 10, 11, 12, 13, 14, 15, 16, 17]] tBox [] = true := by kernel_rfl
noncomputable def kBox (i : Nat) : Option IntKind := match i with | 0 => some .i64 | 1 => some .u64 | 2 => some .u64 | 3 => some .i64 | 4 => some .u64 | 5 => some .u64 | 6 => some .i64 | 7 => some .u64 | 8 => some .u64 | 9 => some .i64 | 10 => some .u64 | 11 => some .u64 | 12 => some .i64 | 13 => some .i64 | 14 => some .i64 | 15 => some .i64 | 16 => some .i64 | 17 => some .i64 | _ => none
noncomputable def callsOf : List Qu := (tBox.qs.filter fun q => match q with | .call _ _ => true | _ => false)
/-- The cells of a box. -/
noncomputable def boxV (x0 x1 x2 x3 x4 x5 x6 x7 x8 x9 x10 x11 x12 x13 x14 x15 x16 x17 : Int) : List Value := [.int .i64 x0, .int .u64 x1, .int .u64 x2, .int .i64 x3, .int .u64 x4, .int .u64 x5, .int .i64 x6, .int .u64 x7, .int .u64 x8, .int .i64 x9, .int .u64 x10, .int .u64 x11, .int .i64 x12, .int .i64 x13, .int .i64 x14, .int .i64 x15, .int .i64 x16, .int .i64 x17]
theorem f2_three {V : Nat → Value} {ρ : Rho} {i j k : Nat} {vs : List Value} (h : F2 (VR V ρ) [aggS [i, j, k]] vs) : vs = [.agg #[V i, V j, V k]] := by
  match vs, h with
  | [v], h =>
    obtain ⟨⟨cs, rfl, h1⟩, _⟩ := h
    match hc : cs.toList, h1 with
    | [a, b, c], h1 =>
      have h2 : a = V i := h1.1
      have h3 : b = V j := h1.2.1
      have h4 : c = V k := h1.2.2.1
      have : cs = #[V i, V j, V k] := Array.ext' (by rw [hc, h2, h3, h4])
      rw [this]
theorem f2_six {V : Nat → Value} {ρ : Rho} {i j k i' j' k' : Nat} {vs : List Value} (h : F2 (VR V ρ) [aggS [i, j, k], aggS [i', j', k']] vs) : vs = [.agg #[V i, V j, V k], .agg #[V i', V j', V k']] := by
  match vs, h with
  | [v, u], h =>
    have h1 := f2_three (V := V) (ρ := ρ) (vs := [v]) ⟨h.1, trivial⟩
    have h2 := f2_three (V := V) (ρ := ρ) (vs := [u]) ⟨h.2.1, trivial⟩
    injection h1 with h1
    injection h2 with h2
    rw [h1, h2]
theorem f2_two {V : Nat → Value} {ρ : Rho} {i j : Nat} {vs : List Value} (h : F2 (VR V ρ) [aggS [i, j]] vs) : vs = [.agg #[V i, V j]] := by
  match vs, h with
  | [v], h =>
    obtain ⟨⟨cs, rfl, h1⟩, _⟩ := h
    match hc : cs.toList, h1 with
    | [a, b], h1 =>
      have h2 : a = V i := h1.1
      have h3 : b = V j := h1.2.1
      have : cs = #[V i, V j] := Array.ext' (by rw [hc, h2, h3])
      rw [this]
theorem call_fix {V : Nat → Value} {f : Nat} {args : List AV} {vals : Array Value} (hf : Fixed f vals) (ha : ∀ ρ vs, F2 (VR V ρ) args vs → vs = vals.toList) : HoldQ Tryz.prog V (.call f args) true ∨ HoldQ Tryz.prog V (.call f args) false := by
  obtain ⟨r, hr⟩ := hf
  have key : HoldQ Tryz.prog V (.call f args) r := fun ρ w vs hv => by
    have e : vs = vals := Array.ext' (ha ρ _ hv)
    rw [e]
    exact hr w
  cases r
  · exact .inr key
  · exact .inl key
theorem box_fix (x0 x1 x2 x3 x4 x5 x6 x7 x8 x9 x10 x11 x12 x13 x14 x15 x16 x17 : Int) : ∃ k, ∀ w, Calls Tryz.prog 121 #[.agg (boxV x0 x1 x2 x3 x4 x5 x6 x7 x8 x9 x10 x11 x12 x13 x14 x15 x16 x17).toArray] w fun e w' => e = .returned (.int .i64 k) ∧ RowKit.Below w.heap.size w w' := by
  have hone : ∀ i, (rowV (boxV x0 x1 x2 x3 x4 x5 x6 x7 x8 x9 x10 x11 x12 x13 x14 x15 x16 x17) i).oneCell' = true := rowV_one (by simp [boxV, Value.oneCell'])
  have hkn : ∀ i k, kBox i = some k → ∃ n, rowV (boxV x0 x1 x2 x3 x4 x5 x6 x7 x8 x9 x10 x11 x12 x13 x14 x15 x16 x17) i = .int k n := by
    intro i k hi
    match i, hi with
    | 0, hi => injection hi with hi; subst hi; exact ⟨_, rfl⟩
    | 1, hi => injection hi with hi; subst hi; exact ⟨_, rfl⟩
    | 2, hi => injection hi with hi; subst hi; exact ⟨_, rfl⟩
    | 3, hi => injection hi with hi; subst hi; exact ⟨_, rfl⟩
    | 4, hi => injection hi with hi; subst hi; exact ⟨_, rfl⟩
    | 5, hi => injection hi with hi; subst hi; exact ⟨_, rfl⟩
    | 6, hi => injection hi with hi; subst hi; exact ⟨_, rfl⟩
    | 7, hi => injection hi with hi; subst hi; exact ⟨_, rfl⟩
    | 8, hi => injection hi with hi; subst hi; exact ⟨_, rfl⟩
    | 9, hi => injection hi with hi; subst hi; exact ⟨_, rfl⟩
    | 10, hi => injection hi with hi; subst hi; exact ⟨_, rfl⟩
    | 11, hi => injection hi with hi; subst hi; exact ⟨_, rfl⟩
    | 12, hi => injection hi with hi; subst hi; exact ⟨_, rfl⟩
    | 13, hi => injection hi with hi; subst hi; exact ⟨_, rfl⟩
    | 14, hi => injection hi with hi; subst hi; exact ⟨_, rfl⟩
    | 15, hi => injection hi with hi; subst hi; exact ⟨_, rfl⟩
    | 16, hi => injection hi with hi; subst hi; exact ⟨_, rfl⟩
    | 17, hi => injection hi with hi; subst hi; exact ⟨_, rfl⟩
    | n + 18, hi => cases hi
  have hT : ∀ q ∈ tBox.qs, HoldQ Tryz.prog (rowV (boxV x0 x1 x2 x3 x4 x5 x6 x7 x8 x9 x10 x11 x12 x13 x14 x15 x16 x17)) q true ∨ HoldQ Tryz.prog (rowV (boxV x0 x1 x2 x3 x4 x5 x6 x7 x8 x9 x10 x11 x12 x13 x14 x15 x16 x17)) q false := by
    intro q hq
    have hsplit : okQ kBox q = true ∨ q ∈ callsOf := by
      cases q with
      | call f args => exact .inr (List.mem_filter.2 ⟨hq, rfl⟩)
      | cmp op a b =>
        refine .inl ?_
        have : (tBox.qs.filter fun q => match q with | .call _ _ => false | _ => true).all (okQ kBox) = true := by decide
        exact List.all_eq_true.1 this _ (List.mem_filter.2 ⟨hq, rfl⟩)
    rcases hsplit with h | h
    · exact okQ_ok hkn h
    · have e : callsOf = [.call 160 [aggS [0, 1, 2]], .call 160 [aggS [3, 4, 5]], .call 160 [aggS [6, 7, 8]], .call 160 [aggS [9, 10, 11]], .call 161 [aggS [3, 4, 5], aggS [0, 1, 2]], .call 161 [aggS [9, 10, 11], aggS [6, 7, 8]], .call 162 [aggS [14, 15]], .call 162 [aggS [16, 17]]] := rfl
      rw [e] at h
      simp only [List.mem_cons, List.not_mem_nil, or_false] at h
      rcases h with rfl | rfl | rfl | rfl | rfl | rfl | rfl | rfl
      · exact call_fix (valid_fix x0 x1 x2) (fun ρ vs h => f2_three h)
      · exact call_fix (valid_fix x3 x4 x5) (fun ρ vs h => f2_three h)
      · exact call_fix (valid_fix x6 x7 x8) (fun ρ vs h => f2_three h)
      · exact call_fix (valid_fix x9 x10 x11) (fun ρ vs h => f2_three h)
      · exact call_fix (less_fix x3 x4 x5 x0 x1 x2) (fun ρ vs h => f2_six h)
      · exact call_fix (less_fix x9 x10 x11 x6 x7 x8) (fun ρ vs h => f2_six h)
      · exact call_fix (ports_fix x14 x15) (fun ρ vs h => f2_two h)
      · exact call_fix (ports_fix x16 x17) (fun ρ vs h => f2_two h)
  obtain ⟨v, hv1, hv2⟩ := chk_ok hone (args := [aggS [0, 1, 2, 3, 4, 5, 6, 7, 8, 9, 10, 11, 12, 13, 14, 15, 16, 17]]) (vals := #[.agg (boxV x0 x1 x2 x3 x4 x5 x6 x7 x8 x9 x10 x11 x12 x13 x14 x15 x16 x17).toArray]) ⟨⟨_, rfl, rfl, rfl, rfl, rfl, rfl, rfl, rfl, rfl, rfl, rfl, rfl, rfl, rfl, rfl, rfl, rfl, rfl, rfl, trivial⟩, trivial⟩ tBox hT (D := []) (fun d hd => by cases hd) rBox
  have : ∃ k, v = .one (.c (.int .i64 k)) := by
    unfold isN64 at hv1
    split at hv1
    · exact ⟨_, rfl⟩
    · cases hv1
  obtain ⟨k, rfl⟩ := this
  refine ⟨k, fun w => (hv2 w).mono ?_⟩
  rintro e w' ⟨c, ρ', rfl, hc, hb⟩
  have hc : c = .int .i64 k := hc
  exact ⟨by rw [hc], hb⟩
/-- The cells of a box of which only the kinds are known. -/
noncomputable def boxN : List AC := [.num .i64, .num .u64, .num .u64, .num .i64, .num .u64, .num .u64, .num .i64, .num .u64, .num .u64, .num .i64, .num .u64, .num .u64, .num .i64, .num .i64, .num .i64, .num .i64, .num .i64, .num .i64]
theorem f2_num {V : Nat → Value} {ρ : Rho} {k : IntKind} {r : List AC} {vs : List Value} (h : F2 (CR V ρ) (.num k :: r) vs) : ∃ x t, vs = .int k x :: t ∧ F2 (CR V ρ) r t := by
  cases vs with
  | nil => exact h.elim
  | cons v t =>
    obtain ⟨⟨x, hx⟩, h2⟩ := h
    exact ⟨x, t, by rw [hx], h2⟩
theorem f2_nil {V : Nat → Value} {ρ : Rho} {vs : List Value} (h : F2 (CR V ρ) [] vs) : vs = [] := by
  cases vs with
  | nil => rfl
  | cons _ _ => exact h.elim
/-- CheckBox, a contract. -/
noncomputable def boxE (f : Nat) (args : List AV) (s : St) : Option (AV × St) := bif Nat.beq f 121 && subA [] [] args [.one (.agg boxN)] then some (.one (.c (.num .i64)), s) else none
theorem boxE_ok {V : Nat → Value} (hone : ∀ i, (V i).oneCell' = true) : CallOK Tryz.prog V boxE := by
  intro f args s v s' h ρ w vals hv hr hf
  unfold boxE at h
  cases hk : (Nat.beq f 121 && subA [] [] args [.one (.agg boxN)])
  · rw [hk] at h
    cases h
  · rw [hk] at h
    simp only [cond_true, Option.some.injEq, Prod.mk.injEq] at h
    obtain ⟨rfl, rfl⟩ := h
    simp only [Bool.and_eq_true] at hk
    have e := Nat.eq_of_beq_eq_true hk.1
    subst e
    have h2 := subA_ok hone hk.2 hv
    match hl : vals.toList, h2 with
    | [u], h2 =>
      obtain ⟨⟨cs, rfl, h3⟩, _⟩ := h2
      generalize hc : cs.toList = l at h3
      obtain ⟨x0, l0, e0, h3⟩ := f2_num h3
      obtain ⟨x1, l1, e1, h3⟩ := f2_num h3
      obtain ⟨x2, l2, e2, h3⟩ := f2_num h3
      obtain ⟨x3, l3, e3, h3⟩ := f2_num h3
      obtain ⟨x4, l4, e4, h3⟩ := f2_num h3
      obtain ⟨x5, l5, e5, h3⟩ := f2_num h3
      obtain ⟨x6, l6, e6, h3⟩ := f2_num h3
      obtain ⟨x7, l7, e7, h3⟩ := f2_num h3
      obtain ⟨x8, l8, e8, h3⟩ := f2_num h3
      obtain ⟨x9, l9, e9, h3⟩ := f2_num h3
      obtain ⟨x10, l10, e10, h3⟩ := f2_num h3
      obtain ⟨x11, l11, e11, h3⟩ := f2_num h3
      obtain ⟨x12, l12, e12, h3⟩ := f2_num h3
      obtain ⟨x13, l13, e13, h3⟩ := f2_num h3
      obtain ⟨x14, l14, e14, h3⟩ := f2_num h3
      obtain ⟨x15, l15, e15, h3⟩ := f2_num h3
      obtain ⟨x16, l16, e16, h3⟩ := f2_num h3
      obtain ⟨x17, l17, e17, h3⟩ := f2_num h3
      have e18 : l17 = [] := f2_nil h3
      subst e18
      subst e17
      subst e16
      subst e15
      subst e14
      subst e13
      subst e12
      subst e11
      subst e10
      subst e9
      subst e8
      subst e7
      subst e6
      subst e5
      subst e4
      subst e3
      subst e2
      subst e1
      subst e0
      have e1 : vals = #[.agg (boxV x0 x1 x2 x3 x4 x5 x6 x7 x8 x9 x10 x11 x12 x13 x14 x15 x16 x17).toArray] := by
        apply Array.ext'
        rw [hl]
        have : cs = (boxV x0 x1 x2 x3 x4 x5 x6 x7 x8 x9 x10 x11 x12 x13 x14 x15 x16 x17).toArray := Array.ext' hc
        rw [this]
      rw [e1]
      obtain ⟨k, hk⟩ := box_fix x0 x1 x2 x3 x4 x5 x6 x7 x8 x9 x10 x11 x12 x13 x14 x15 x16 x17
      refine (hk w).mono ?_
      rintro e w' ⟨rfl, hb⟩
      exact ⟨_, ρ, rfl, goes_keep hr hb, ⟨k, rfl⟩⟩
end Ab
end Go.Proofs.YtbfppnppijcnlaaGreat
