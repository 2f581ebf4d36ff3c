/-
  Choices in the interpreter: the block of the choices told as a whole, at some place or at a known one; what Next yields there.
  Conditions: none.
-/
import Derived.Test.YtbfppnppijcnlaaGreatAbsI
import Derived.Test.YtbfppnppijcnlaaGreatCodes
namespace Go.Proofs.YtbfppnppijcnlaaGreat
/-- Block g holds just these cells. -/
abbrev MBlk (w : World) (g : Nat) (t : TypeId) (cs : Array Value) : Prop := Blk w g t cs
namespace Ab
open Go.RowKit
set_option linter.unusedVariables false
set_option linter.unusedSimpArgs false
/-- The values behind the symbols 900 (the choices at some place), 901 (the row of choices), 902 (the choices at a known place). -/
noncomputable def vL (V0 : Nat → Value) (q : Ls) (ga : Nat) (row : Array Value) (b p : Nat) : Nat → Value := fun i =>
  if i = 900 then .func (.func 1) #[] #[.slice q.A q.n q.cap] else if i = 901 then .func (.func 0) #[] (#[.pointer (some ⟨ga, 0, none⟩)] ++ row) else if i = 902 then .func (.func 0) #[] (#[.pointer (some ⟨b, 0, none⟩)] ++ #[.slice q.A q.n q.cap, .int .i64 (p : Nat)]) else V0 i
/-- What is known of the row: hl tells whether there is any. -/
structure LsOK (hl : Bool) (q : Ls) (ga : Nat) (row : Array Value) : Prop where
  yes : hl = true → q.A = some ⟨ga, 0, none⟩ ∧ ∀ k, k < q.n → ∃ x : Nat, x < 256 ∧ row[k]? = some (.int .u8 x)
  no : hl = false → q.n = 0
  le : q.n ≤ 250
  cap : q.n ≤ q.cap
noncomputable def isCode (B : Blk) (ty k : Nat) : Bool := Nat.beq B.ty ty && B.cells.isEmpty && (match B.more with | some (j, 0) => Nat.beq j k | _ => false)
theorem isCode_eq {B : Blk} {ty k : Nat} (h : isCode B ty k = true) : B = ⟨ty, [], some (k, 0)⟩ := by
  obtain ⟨t, cs, mo⟩ := B
  unfold isCode at h
  simp only [Bool.and_eq_true] at h
  obtain ⟨⟨h1, h2⟩, h3⟩ := h
  have h1 := Nat.eq_of_beq_eq_true h1
  have h2 : cs = [] := List.isEmpty_iff.1 h2
  have h1 : t = ty := h1
  cases mo with
  | none => cases h3
  | some x =>
    obtain ⟨j, z⟩ := x
    cases z with
    | zero =>
      have h3 := Nat.eq_of_beq_eq_true (show Nat.beq j k = true from h3)
      rw [h1, h2, h3]
    | succ z => cases h3
noncomputable def codeAt (s : St) (i ty k : Nat) : Bool := match look s.heap i with | some B => isCode B ty k | none => false
theorem codeAt_eq {s : St} {i ty k : Nat} (h : codeAt s i ty k = true) : look s.heap i = some ⟨ty, [], some (k, 0)⟩ := by
  unfold codeAt at h
  split at h
  · rename_i B hB
    rw [hB, isCode_eq h]
  · cases h
section
variable {V0 : Nat → Value} {q : Ls} {ga b p : Nat} {row : Array Value} {hl : Bool} {ρ : Rho} {s : St} {w : World} {i0 i1 : Nat}
/-- A block told as a whole. -/
theorem rep_code {V : Nat → Value} {i ty k : Nat} (hr : Rep V ρ s w) (h : codeAt s i ty k = true) : ∃ g cs, ρ.blk i = some g ∧ MBlk w g ty cs ∧ PB (V k) g cs := by
  obtain ⟨g, cs, h1, h2, pre, post, h3, h4, h5⟩ := hr.h i _ (codeAt_eq h)
  exact ⟨g, cs, h1, h2, h5.2⟩
theorem rep_list (hr : Rep (vL V0 q ga row b p) ρ s w) (h : codeAt s i1 5 901 = true) : ρ.blk i1 = some ga ∧ MBlk w ga 5 row := by
  obtain ⟨g, cs, h1, h2, h3⟩ := rep_code hr h
  have e : vL V0 q ga row b p 901 = .func (.func 0) #[] (#[.pointer (some ⟨ga, 0, none⟩)] ++ row) := rfl
  rw [e] at h3
  rcases h3 with h3 | ⟨A, n, c, p', h3, _⟩
  · injection h3 with _ _ h3
    have h4 := congrArg Array.toList h3
    simp only [Array.toList_append, List.cons_append, List.nil_append, List.cons.injEq] at h4
    obtain ⟨h4, h5⟩ := h4
    injection h4 with h4
    injection h4 with h4
    injection h4 with h4
    subst h4
    have h5 : row = cs := Array.ext' h5
    subst h5
    exact ⟨h1, h2⟩
  · injection h3 with h3
    injection h3 with h3
    cases h3
theorem list_cod (hL : LsOK hl q ga row) (hr : Rep (vL V0 q ga row b p) ρ s w) (h1 : hl = true → codeAt s i1 5 901 = true) {g p' : Nat} (hg : MBlk w g 103 #[.slice q.A q.n q.cap, .int .i64 (p' : Nat)]) (hp : p' ≤ q.n) : Cod w g q p' := by
  refine ⟨hp, hL.le, hg, hL.cap, fun k hk => ?_⟩
  cases hl with
  | false =>
    have := hL.no rfl
    omega
  | true =>
    obtain ⟨hA, hb⟩ := hL.yes rfl
    obtain ⟨x, hx, hrow⟩ := hb k hk
    obtain ⟨_, hB⟩ := rep_list hr (h1 rfl)
    refine ⟨ga, x, hA, ?_, hx, ⟨row, (0, 0), hB⟩, (hB.cell k).trans hrow⟩
    rintro rfl
    unfold MBlk Go.Proofs.YtbfppnppijcnlaaGreat.Blk at hB hg
    rw [hB] at hg
    injection hg with hg
    injection hg with _ e
    exact absurd e (by decide)
/-- The choices stand at some place. -/
theorem rep_some (hL : LsOK hl q ga row) (hr : Rep (vL V0 q ga row b p) ρ s w) (h0 : codeAt s i0 103 900 = true) (h1 : hl = true → codeAt s i1 5 901 = true) : ∃ g p', ρ.blk i0 = some g ∧ Cod w g q p' := by
  obtain ⟨g, cs, k1, k2, k3⟩ := rep_code hr h0
  have e : vL V0 q ga row b p 900 = .func (.func 1) #[] #[.slice q.A q.n q.cap] := rfl
  rw [e] at k3
  rcases k3 with k3 | ⟨A, n, c, p', k3, hp, rfl⟩
  · injection k3 with k3
    injection k3 with k3
    cases k3
  · injection k3 with _ _ k3
    have k4 := congrArg Array.toList k3
    simp only [List.cons.injEq, and_true] at k4
    injection k4 with k4 k5 k6
    subst k4; subst k5; subst k6
    exact ⟨g, p', k1, list_cod hL hr h1 k2 hp⟩
/-- The choices stand at the known place. -/
theorem rep_known (hL : LsOK hl q ga row) (hp : p ≤ q.n) (hr : Rep (vL V0 q ga row b p) ρ s w) (h0 : codeAt s i0 103 902 = true) (h1 : hl = true → codeAt s i1 5 901 = true) : ρ.blk i0 = some b ∧ Cod w b q p := by
  obtain ⟨g, cs, k1, k2, k3⟩ := rep_code hr h0
  have e : vL V0 q ga row b p 902 = .func (.func 0) #[] (#[.pointer (some ⟨b, 0, none⟩)] ++ #[.slice q.A q.n q.cap, .int .i64 (p : Nat)]) := rfl
  rw [e] at k3
  rcases k3 with k3 | ⟨A, n, c, p', k3, _⟩
  · injection k3 with _ _ k3
    have h4 := congrArg Array.toList k3
    simp only [Array.toList_append, List.cons_append, List.nil_append, List.cons.injEq] at h4
    obtain ⟨h4, h5⟩ := h4
    injection h4 with h4
    injection h4 with h4
    injection h4 with h4
    subst h4
    have h5 : #[.slice q.A q.n q.cap, .int .i64 (p : Nat)] = cs := Array.ext' h5
    subst h5
    exact ⟨k1, list_cod hL hr h1 k2 hp⟩
  · injection k3 with k3
    injection k3 with k3
    cases k3
end
/-- The state behind a call that goes on with the choices. -/
noncomputable def codeOn (s : St) (i0 : Nat) : St := { s with heap := upd s.heap i0 ⟨103, [], some (900, 0)⟩, dirty := i0 :: s.dirty }
theorem go_codes {V : Nat → Value} {ρ : Rho} {s : St} {w w' : World} {i g k : Nat} {cs : Array Value} (hr : Rep V ρ s w) (h0 : codeAt s i 103 k = true) (hb : ρ.blk i = some g) (hg : w.grownBy w' (some g)) (hB : MBlk w' g 103 cs) (hP : PB (V 900) g cs) : Goes V ρ s w (codeOn s i) w' ρ := by
  have hi := codeAt_eq h0
  have hlk : ∀ j C, look (codeOn s i).heap j = some C → ∃ D, look s.heap j = some D := by
    intro j C hC
    unfold codeOn at hC
    rw [look_upd] at hC
    by_cases hj : j = i
    · subst hj
      exact ⟨_, hi⟩
    · rw [if_neg hj] at hC
      exact ⟨C, hC⟩
  refine ⟨⟨?_, ?_, ?_, ?_⟩, ?_, Le.refl _⟩
  · intro j C hC
    unfold codeOn at hC
    rw [look_upd] at hC
    by_cases hj : j = i
    · subst hj
      rw [if_pos rfl, hi] at hC
      simp only [Option.map_some, Option.some.injEq] at hC
      subst hC
      exact ⟨g, cs, hb, hB, [], cs.toList, by simp, trivial, rfl, hP⟩
    · rw [if_neg hj] at hC
      obtain ⟨c, c1, h2, h3, h4⟩ := hr.h j C hC
      refine ⟨c, c1, h2, (hg.block c (hr.bnd _ _ h2) (fun e => ?_)).trans h3, h4⟩
      injection e with e
      subst e
      exact hj (hr.inj j i C _ c hC hi h2 hb)
  · intro j k C D c hC hD h1 h2
    obtain ⟨C', hC'⟩ := hlk j C hC
    obtain ⟨D', hD'⟩ := hlk k D hD
    exact hr.inj j k C' D' c hC' hD' h1 h2
  · intro j c h
    exact Nat.lt_of_lt_of_le (hr.bnd j c h) hg.size
  · intro j C hC
    obtain ⟨C', hC'⟩ := hlk j C hC
    exact hr.lt j C' hC'
  · constructor
    · exact fun _ _ => rfl
    · exact fun _ _ => rfl
    · exact Nat.le_refl _
    · exact Nat.le_refl _
    · exact fun j h => List.mem_cons_of_mem _ h
    · intro c hc hd
      refine hg.block c hc (fun e => ?_)
      injection e with e
      exact hd i (by simp [codeOn]) (hr.lt i _ hi) (by rw [hb, e])
    · exact fun i b h1 h2 => absurd h2 (by simp [codeOn]; omega)
    · intro j h
      cases h with
      | head => exact .inr (.inr (by rw [hi]; rfl))
      | tail _ h => exact .inl h
    · intro j hj h
      obtain ⟨C, hC⟩ := Option.isSome_iff_exists.1 h
      obtain ⟨D, hD⟩ := hlk j C hC
      rw [hD]
      rfl
    · exact hg.os
    · exact hg.tape
    · exact hg.output
    · exact hg.size
theorem pb_some {V0 : Nat → Value} {q : Ls} {ga b p : Nat} {row : Array Value} {g p' : Nat} (hp : p' ≤ q.n) : PB (vL V0 q ga row b p 900) g #[.slice q.A q.n q.cap, .int .i64 (p' : Nat)] := .inr ⟨q.A, q.n, q.cap, p', rfl, hp, rfl⟩
/-- Which number Next(m) yields at place p. -/
noncomputable def dig (q : Ls) (row : Array Value) (p : Nat) (m : Int) : Int := if p < q.n then (match row[p]? with | some (.int _ x) => x * m / 256 | _ => 0) else 0
/-- Does the state tell the choices? -/
noncomputable def codesIn (hl : Bool) (i0 i1 : Nat) (s : St) (k : Nat) : Bool := codeAt s i0 103 k && (!hl || codeAt s i1 5 901)
theorem codesIn_ok {hl : Bool} {i0 i1 : Nat} {s : St} {k : Nat} (h : codesIn hl i0 i1 s k = true) : codeAt s i0 103 k = true ∧ (hl = true → codeAt s i1 5 901 = true) := by
  unfold codesIn at h
  simp only [Bool.and_eq_true, Bool.or_eq_true, Bool.not_eq_true'] at h
  refine ⟨h.1, fun e => ?_⟩
  rcases h.2 with h2 | h2
  · rw [e] at h2
    cases h2
  · exact h2
/-- Next at the known place. -/
noncomputable def nextE (hl : Bool) (i0 i1 : Nat) (m r : Int) (args : List AV) (s : St) : Option (AV × St) :=
  match args with
  | [.one (.c (.ptr (some (i, 0)))), .one (.c (.int .i64 m'))] => bif Nat.beq i i0 && decide (m' = m) && codesIn hl i0 i1 s 902 then some (.one (.c (.int .i64 r)), codeOn s i0) else none
  | _ => none
theorem nextE_ok {V0 : Nat → Value} {q : Ls} {ga b p : Nat} {row : Array Value} {hl : Bool} {i0 i1 : Nat} {m : Int} (hL : LsOK hl q ga row) (hp : p ≤ q.n) (hm0 : 1 ≤ m) (hm1 : m ≤ 1099511627776) {args : List AV} {s s' : St} {v : AV} (h : nextE hl i0 i1 m (dig q row p m) args s = some (v, s')) {ρ : Rho} {w : World} {vals : Array Value}
    (hargs : F2 (VR (vL V0 q ga row b p) ρ) args vals.toList) (hr : Rep (vL V0 q ga row b p) ρ s w) : Calls Tryz.prog 63 vals w fun e w' => ∃ c ρ', e = .returned c ∧ Goes (vL V0 q ga row b p) ρ s w s' w' ρ' ∧ VR (vL V0 q ga row b p) ρ' v c := by
  unfold nextE at h
  split at h
  · rename_i i m'
    cases hk : (Nat.beq i i0 && decide (m' = m) && codesIn hl i0 i1 s 902)
    · simp [hk] at h
    · simp only [hk, cond_true, Option.some.injEq, Prod.mk.injEq] at h
      obtain ⟨rfl, rfl⟩ := h
      simp only [Bool.and_eq_true, decide_eq_true_eq] at hk
      obtain ⟨⟨k1, rfl⟩, k3⟩ := hk
      have k1 := Nat.eq_of_beq_eq_true k1
      subst k1
      obtain ⟨c0, c1⟩ := codesIn_ok k3
      obtain ⟨hb, hC⟩ := rep_known hL hp hr c0 c1
      have hvals : vals = #[.pointer (some ⟨b, 0, none⟩), .int .i64 m'] := by
        apply Array.ext'
        match hl : vals.toList, hargs with
        | [x, y], hv =>
          obtain ⟨b', e0, e1⟩ := hv.1
          rw [hb] at e0
          injection e0 with e0
          subst e0
          have e2 : y = .int .i64 m' := hv.2.1
          rw [e1, e2]
      subst hvals
      refine (next_det b q p m' w hC hm0 hm1).mono ?_
      rintro e w' ⟨hg, ⟨h1, h2, ga', x, hA, hx, hc, rfl⟩ | ⟨h1, h2, rfl⟩⟩
      · refine ⟨_, ρ, rfl, go_codes hr c0 hb hg h2.2.2.1 (pb_some h2.1), ?_⟩
        have hd : dig q row p m' = (x : Int) * m' / 256 := by
          unfold dig
          rw [if_pos h1]
          cases hl with
          | false =>
            have := hL.no rfl
            omega
          | true =>
            obtain ⟨hA', hby⟩ := hL.yes rfl
            obtain ⟨_, hB⟩ := rep_list hr (c1 rfl)
            rw [hA'] at hA
            cases hA
            have hrow : row[p]? = some (.int .u8 x) := (hB.cell p).symm.trans hc
            rw [hrow]
        rw [hd]
        rfl
      · refine ⟨_, ρ, rfl, go_codes hr c0 hb hg h2.2.2.1 (pb_some h2.1), ?_⟩
        have hd : dig q row p m' = 0 := by
          unfold dig
          rw [if_neg (by omega)]
        rw [hd]
        rfl
  · cases h
/-- A call that goes on with the choices, from any place. -/
theorem ext_codes {V0 : Nat → Value} {q : Ls} {ga b p : Nat} {row : Array Value} {hl : Bool} {i0 i1 k : Nat} (hk : k = 900 ∨ (k = 902 ∧ p ≤ q.n)) (hL : LsOK hl q ga row) {s : St} (hc : codesIn hl i0 i1 s k = true) {ρ : Rho} {w : World} (hr : Rep (vL V0 q ga row b p) ρ s w) {f : Nat} {v : AV} {vals : Nat → Array Value}
    (hf : ∀ g p', Cod w g q p' → Calls Tryz.prog f (vals g) w fun e w' => ∃ c, e = .returned c ∧ VR (vL V0 q ga row b p) ρ v c ∧ (∃ p'', Cod w' g q p'') ∧ w.grownBy w' (some g)) :
    ∃ g, ρ.blk i0 = some g ∧ Calls Tryz.prog f (vals g) w fun e w' => ∃ c ρ', e = .returned c ∧ Goes (vL V0 q ga row b p) ρ s w (codeOn s i0) w' ρ' ∧ VR (vL V0 q ga row b p) ρ' v c := by
  obtain ⟨c0, c1⟩ := codesIn_ok hc
  have key : ∃ g p', ρ.blk i0 = some g ∧ Cod w g q p' := by
    rcases hk with rfl | ⟨rfl, hp⟩
    · exact rep_some hL hr c0 c1
    · obtain ⟨h1, h2⟩ := rep_known hL hp hr c0 c1
      exact ⟨b, p, h1, h2⟩
  obtain ⟨g, p', h1, h2⟩ := key
  refine ⟨g, h1, (hf g p' h2).mono ?_⟩
  rintro e w' ⟨c, rfl, hv, ⟨p'', h3⟩, hg⟩
  exact ⟨c, ρ, rfl, go_codes hr c0 h1 hg h3.2.2.1 (pb_some h3.1), hv⟩
end Ab
end Go.Proofs.YtbfppnppijcnlaaGreat
namespace Go.Proofs.YtbfppnppijcnlaaGreat
namespace Ab
open Go.RowKit
set_option linter.unusedVariables false
set_option linter.unusedSimpArgs false
noncomputable def freeC (k : Nat) : AC → Bool
  | .sym i => !(Nat.beq i k)
  | _ => true
noncomputable def freeL (k : Nat) : List AC → Bool
  | [] => true
  | x :: r => freeC k x && freeL k r
noncomputable def free1 (k : Nat) : A1 → Bool
  | .c x => freeC k x
  | .agg l => freeL k l
noncomputable def freeV (k : Nat) : AV → Bool
  | .one x => free1 k x
  | .tup l => l.all (free1 k)
  | .fn _ cap => freeL k cap
  | _ => true
noncomputable def freeT (k : Nat) (t : Sl) : Nat → Bool
  | 0 => true
  | d + 1 => freeV k (lget t d) && freeT k t d
noncomputable def freeM (k : Nat) : Option (Nat × Nat) → Bool
  | some (j, 0) => !(Nat.beq j k)
  | _ => true
noncomputable def freeH (k : Nat) : List (Nat × Blk) → Bool
  | [] => true
  | x :: r => freeL k x.2.cells && freeM k x.2.more && freeH k r
section
variable {V V' : Nat → Value} {k : Nat} {ρ : Rho}
theorem cr_reV (hV : ∀ i, i ≠ k → V i = V' i) : ∀ {x : AC} {v : Value}, freeC k x = true → CR V ρ x v → CR V' ρ x v := by
  intro x v h hx
  cases x with
  | sym i =>
    have hi : i ≠ k := by
      rintro rfl
      simp [freeC] at h
    have hx : v = V i := hx
    show v = V' i
    rw [hx, hV i hi]
  | ptr p => cases p <;> exact hx
  | slice p n c => cases p <;> exact hx
  | _ => exact hx
theorem crl_reV (hV : ∀ i, i ≠ k → V i = V' i) : ∀ {l : List AC} {m : List Value}, freeL k l = true → F2 (CR V ρ) l m → F2 (CR V' ρ) l m
  | [], [], _, _ => trivial
  | x :: r, y :: s, h, hx => by
    simp only [freeL, Bool.and_eq_true] at h
    exact ⟨cr_reV hV h.1 hx.1, crl_reV hV h.2 hx.2⟩
  | [], _ :: _, _, h => h.elim
  | _ :: _, [], _, h => h.elim
theorem v1_reV (hV : ∀ i, i ≠ k → V i = V' i) {x : A1} {v : Value} (h : free1 k x = true) (hx : V1R V ρ x v) : V1R V' ρ x v := by
  cases x with
  | c x => exact cr_reV hV h hx
  | agg l =>
    obtain ⟨cs, h1, h2⟩ := hx
    exact ⟨cs, h1, crl_reV hV h h2⟩
theorem v1l_reV (hV : ∀ i, i ≠ k → V i = V' i) : ∀ {l : List A1} {m : List Value}, l.all (free1 k) = true → F2 (V1R V ρ) l m → F2 (V1R V' ρ) l m
  | [], [], _, _ => trivial
  | x :: r, y :: s, h, hx => by
    simp only [List.all_cons, Bool.and_eq_true] at h
    exact ⟨v1_reV hV h.1 hx.1, v1l_reV hV h.2 hx.2⟩
  | [], _ :: _, _, h => h.elim
  | _ :: _, [], _, h => h.elim
theorem vr_reV (hV : ∀ i, i ≠ k → V i = V' i) {x : AV} {v : Value} (h : freeV k x = true) (hx : VR V ρ x v) : VR V' ρ x v := by
  cases x with
  | any => trivial
  | undef => exact hx
  | one x => exact v1_reV hV h hx
  | tup l =>
    obtain ⟨vs, h1, h2⟩ := hx
    exact ⟨vs, h1, v1l_reV hV h h2⟩
  | fn f cap =>
    obtain ⟨cs, h1, h2⟩ := hx
    exact ⟨cs, h1, crl_reV hV h h2⟩
theorem freeT_ok {t : Sl} : ∀ {n : Nat}, freeT k t n = true → ∀ d, d < n → freeV k (lget t d) = true
  | n + 1, h, d, hd => by
    simp only [freeT, Bool.and_eq_true] at h
    by_cases e : d = n
    · rw [e]
      exact h.1
    · exact freeT_ok h.2 d (by omega)
theorem tr_reV (hV : ∀ i, i ≠ k → V i = V' i) {t : Sl} {a : Act} (h : freeT k t t.length = true) (ht : TR V ρ t a) : TR V' ρ t a :=
  ⟨ht.z, fun d => by
    by_cases hd : d < t.length
    · exact vr_reV hV (freeT_ok h d hd) (ht.v d)
    · have := ht.v d
      rw [lget_far hd] at this ⊢
      exact this, ht.df⟩
theorem freeH_ok : ∀ {H : List (Nat × Blk)}, freeH k H = true → ∀ i B, look H i = some B → freeL k B.cells = true ∧ freeM k B.more = true
  | x :: r, h, i, B, hB => by
    simp only [freeH, Bool.and_eq_true] at h
    rw [look_cons] at hB
    by_cases e : x.1 = i
    · rw [if_pos e, Option.some.injEq] at hB
      subst hB
      exact h.1
    · rw [if_neg e] at hB
      exact freeH_ok h.2 i B hB
theorem br_reV (hV : ∀ i, i ≠ k → V i = V' i) {b : Nat} {B : Blk} {cs : Array Value} (h1 : freeL k B.cells = true) (h2 : freeM k B.more = true) (h : BR V ρ b B cs) : BR V' ρ b B cs := by
  obtain ⟨pre, post, g1, g2, g3⟩ := h
  refine ⟨pre, post, g1, crl_reV hV h1 g2, ?_⟩
  unfold MR at g3 ⊢
  cases hm : B.more with
  | none => simpa [hm] using g3
  | some x =>
    obtain ⟨j, z⟩ := x
    simp only [hm] at g3 ⊢
    by_cases hz : z = 0
    · subst hz
      simp only [if_pos] at g3 ⊢
      have hj : j ≠ k := by
        rintro rfl
        simp [hm, freeM] at h2
      rw [← hV j hj]
      exact g3
    · simp only [if_neg hz] at g3 ⊢
      exact g3
theorem rep_reV (hV : ∀ i, i ≠ k → V i = V' i) {s : St} {w : World} (h : freeH k s.heap = true) (hr : Rep V ρ s w) : Rep V' ρ s w := by
  refine ⟨fun i B hB => ?_, hr.inj, hr.bnd, hr.lt⟩
  obtain ⟨b, cs, h1, h2, h3⟩ := hr.h i B hB
  obtain ⟨k1, k2⟩ := freeH_ok h i B hB
  exact ⟨b, cs, h1, h2, br_reV hV k1 k2 h3⟩
end
/-- What holds here; the choices stand at some place. -/
noncomputable def HereC (V0 : Nat → Value) (q : Ls) (ga : Nat) (row : Array Value) (base : Nat) (w0 : World) (t : Sl) (s : St) (a : Act) (w : World) : Prop :=
  ∃ b p, p ≤ q.n ∧ Here (vL V0 q ga row b p) base w0 t s a w
/-- The choices at the known place. -/
noncomputable def know (i0 : Nat) (s : St) : St := { s with heap := upd s.heap i0 ⟨103, [], some (902, 0)⟩ }
/-- The state freed of the known place. -/
noncomputable def bare (i0 : Nat) (s : St) : List (Nat × Blk) := del s.heap i0
section
variable {V0 : Nat → Value} {q : Ls} {ga : Nat} {row : Array Value} {hl : Bool} {i0 i1 : Nat}
theorem here_know (hL : LsOK hl q ga row) {base : Nat} {w0 : World} {t : Sl} {s : St} {a : Act} {w : World} (h : HereC V0 q ga row base w0 t s a w) (hc : codesIn hl i0 i1 s 900 = true) (h1 : freeT 902 t t.length = true) (h2 : freeH 902 s.heap = true) :
    ∃ b p, p ≤ q.n ∧ Here (vL V0 q ga row b p) base w0 t (know i0 s) a w := by
  obtain ⟨b, p, hp, ρ, ht, hr, rest⟩ := h
  obtain ⟨c0, c1⟩ := codesIn_ok hc
  obtain ⟨g, p', hg, hC⟩ := rep_some hL hr c0 c1
  have hV : ∀ i, i ≠ 902 → vL V0 q ga row b p i = vL V0 q ga row g p' i := by
    intro i hi
    unfold vL
    rw [if_neg hi, if_neg hi]
  refine ⟨g, p', hC.1, ρ, tr_reV hV h1 ht, ?_, rest⟩
  have hr' := rep_reV hV h2 hr
  have hi := codeAt_eq c0
  have hlk : ∀ j C, look (know i0 s).heap j = some C → ∃ D, look s.heap j = some D := by
    intro j C hC
    unfold know at hC
    rw [look_upd] at hC
    by_cases hj : j = i0
    · subst hj
      exact ⟨_, hi⟩
    · rw [if_neg hj] at hC
      exact ⟨C, hC⟩
  refine ⟨?_, ?_, hr.bnd, ?_⟩
  · intro j C hCj
    unfold know at hCj
    rw [look_upd] at hCj
    by_cases hj : j = i0
    · subst hj
      rw [if_pos rfl, hi] at hCj
      simp only [Option.map_some, Option.some.injEq] at hCj
      subst hCj
      exact ⟨g, _, hg, hC.2.2.1, [], _, by simp; rfl, trivial, rfl, .inl rfl⟩
    · rw [if_neg hj] at hCj
      exact hr'.h j C hCj
  · intro j k C D c hC hD e1 e2
    obtain ⟨C', hC'⟩ := hlk j C hC
    obtain ⟨D', hD'⟩ := hlk k D hD
    exact hr.inj j k C' D' c hC' hD' e1 e2
  · intro j C hC
    obtain ⟨C', hC'⟩ := hlk j C hC
    exact hr.lt j C' hC'
end
noncomputable def joinAll {α : Type} : List (Option (List α)) → Option (List α)
  | [] => some []
  | x :: r => match x, joinAll r with
    | some l, some m => some (l ++ m)
    | _, _ => none
theorem joinAll_ok {α : Type} : ∀ {l : List (Option (List α))} {m : List α}, joinAll l = some m → ∀ x ∈ l, ∃ k, x = some k ∧ ∀ y ∈ k, y ∈ m
  | x :: r, m, h, y, hy => by
    simp only [joinAll] at h
    split at h
    · rename_i l1 m1 h1
      injection h with h
      subst h
      cases hy with
      | head => exact ⟨l1, rfl, fun z hz => List.mem_append_left _ hz⟩
      | tail _ hy =>
        obtain ⟨k, g1, g2⟩ := joinAll_ok h1 y hy
        exact ⟨k, g1, fun z hz => List.mem_append_right _ (g2 z hz)⟩
    · cases h
/-- What two cells have in common. -/
noncomputable def joinC (x y : AC) : AC := bif subC [] [] x y then y else bif subC [] [] y x then x else match x, y with
  | .int k _, .int k' _ => (if k = k' then .num k else .any)
  | .int k _, .rng _ => (if k = .i64 then .num k else .any)
  | .rng _, .int k _ => (if k = .i64 then .num k else .any)
  | .bool _, .bool _ => .bo
  | .ptr (some (i, o)), .ptr (some (j, p)) => bif Nat.beq i j && Nat.beq o p then x else .any
  | .slice (some (i, o)) n (.lit c), .slice (some (j, p)) m (.lit d) => bif Nat.beq i j && Nat.beq o p && Nat.beq n m && Nat.beq c d then x else .any
  | .slice (some (i, o)) n (.sym c), .slice (some (j, p)) m (.sym d) => bif Nat.beq i j && Nat.beq o p && Nat.beq n m && Nat.beq c d then x else .any
  | .slice none n (.sym c), .slice none m (.sym d) => bif Nat.beq n m && Nat.beq c d then x else .any
  | _, _ => .any
noncomputable def joinL : List AC → List AC → List AC
  | x :: r, y :: s => joinC x y :: joinL r s
  | _, _ => []
noncomputable def join1 : A1 → A1 → Option A1
  | .c x, .c y => some (.c (joinC x y))
  | .agg l, .agg m => some (.agg (joinL l m))
  | _, _ => none
noncomputable def joinV : AV → AV → AV
  | .undef, .undef => .undef
  | .one x, .one y => match join1 x y with | some z => .one z | none => .any
  | _, _ => .any
noncomputable def joinT (t u : Sl) : Nat → Sl → Sl
  | 0, r => r
  | d + 1, r => joinT t u d (lset r d (joinV (lget t d) (lget u d)))
noncomputable def joinH : List (Nat × Blk) → List (Nat × Blk) → List (Nat × Blk)
  | [], _ => []
  | x :: r, G => match look G x.1 with
    | some B => (x.1, ⟨x.2.ty, joinL x.2.cells B.cells, x.2.more⟩) :: joinH r G
    | none => joinH r G
noncomputable def joinS (x y : Sl × St) : Sl × St := (joinT x.1 y.1 x.1.length ⟨x.1.length, .leaf⟩, { heap := joinH x.2.heap y.2.heap, next := Nat.max x.2.next y.2.next, ncap := Nat.max x.2.ncap y.2.ncap, dirty := [] })
noncomputable def idN (l : List (Nat × Blk)) : List (Nat × Nat) := l.map fun x => (x.1, x.1)
noncomputable def idC : Nat → List (Nat × Nat)
  | 0 => []
  | n + 1 => (n, n) :: idC n
/-- All outcomes told as one, if they can be. -/
noncomputable def mergeN (l : List (Sl × St)) : List (Sl × St) :=
  match l with
  | [] => []
  | x :: r =>
    let j := r.foldl joinS x
    let f := idN j.2.heap
    let fc := idC j.2.ncap
    bif (x :: r).all (fun y => subOK f fc y.1 y.2 j.1 j.2) then [j] else x :: r
section
variable {P : Program} {V0 : Nat → Value} {q : Ls} {ga : Nat} {row : Array Value} {hl : Bool} {i0 i1 : Nat}
/-- A region, one run for each number that Next(m) may yield. -/
noncomputable def drawN (hl : Bool) (i0 i1 : Nat) (eR : Int → Int → Env) (m : Nat) (c : Code) (t : Sl) (s : St) : Option (List (Sl × St)) :=
  bif codesIn hl i0 i1 s 900 && freeT 902 t t.length && freeH 902 s.heap then
    joinAll ((List.range (bif hl then m else 1)).map fun (r : Nat) => match codeA (eR m r) (fnA (eR m r) 30) (drawA (eR m r) (fnA (eR m r) 30)) 3 c t { know i0 s with dirty := [] } with
      | some (.normal, t', s') => some [(t', s')]
      | _ => none)
  else none
/-- Code, with regions that draw (mOf tells the number of outcomes, and whether they are told as one) and contracts for some blocks. -/
noncomputable def codeN (hl : Bool) (i0 i1 : Nat) (E : Env) (eR : Int → Int → Env) (mOf : Nat → Option (Nat × Bool)) (hk : Nat → Sl → St → Option (List (AE × Sl × St))) : Nat → Code → Sl → St → Option (List (AE × Sl × St))
  | 0, _, _, _ => none
  | n + 1, c, t, s => match c with
    | .seq a b => match codeN hl i0 i1 E eR mOf hk n a t s with
      | some l => joinAll (l.map fun x => match x with
        | (.normal, t', s') => codeN hl i0 i1 E eR mOf hk n b t' s'
        | (e, t', s') => some [(e, t', s')])
      | none => none
    | .cond c a b => match eval t c with
      | .one (.c (.bool true)) => codeN hl i0 i1 E eR mOf hk n a t s
      | .one (.c (.bool false)) => codeN hl i0 i1 E eR mOf hk n b t s
      | _ => none
    | .block id b => match hk id t s with
      | some r => some r
      | none => match codeN hl i0 i1 E eR mOf hk n b t s with
        | some l => some (l.map fun x => match x with
          | (.exit j, t', s') => if j = id then (.normal, t', s') else (.exit j, t', s')
          | y => y)
        | none => none
    | .loop b => match codeN hl i0 i1 E eR mOf hk n b t s with
      | some l => joinAll (l.map fun x => match x with
        | (.normal, t', s') => codeN hl i0 i1 E eR mOf hk n (.loop b) t' s'
        | (e, t', s') => some [(e, t', s')])
      | none => none
    | .region id ops d => match mOf id with
      | some (m, mg) => match drawN hl i0 i1 eR m (.region id ops d) t s with
        | some l => some ((bif mg then mergeN l else l).map fun x => (.normal, x.1, x.2))
        | none => none
      | none => match codeA E (fnA E 30) (drawA E (fnA E 30)) 3 (.region id ops d) t { s with dirty := [] } with
        | some r => some [r]
        | none => none
    | c => match codeA E (fnA E 30) (drawA E (fnA E 30)) 3 c t { s with dirty := [] } with
      | some r => some [r]
      | none => none
theorem hereC_dirty {base : Nat} {w0 : World} {t : Sl} {s : St} {a : Act} {w : World} {V : Nat → Value} (h : Here V base w0 t s a w) : Here V base w0 t { s with dirty := [] } a w := by
  obtain ⟨ρ, ht, hr, rest⟩ := h
  exact ⟨ρ, ht, ⟨hr.h, hr.inj, hr.bnd, hr.lt⟩, rest⟩
theorem merge_ok {base : Nat} {w0 : World} {l : List (Sl × St)} (hV : ∀ i, (V0 i).oneCell' = true) {x : Sl × St} (hx : x ∈ l) {a : Act} {w : World} (h : HereC V0 q ga row base w0 x.1 x.2 a w) : ∃ y ∈ mergeN l, HereC V0 q ga row base w0 y.1 y.2 a w := by
  cases l with
  | nil => cases hx
  | cons z r =>
    unfold mergeN
    simp only
    cases hb : (z :: r).all (fun y => subOK (idN (r.foldl joinS z).2.heap) (idC (r.foldl joinS z).2.ncap) y.1 y.2 (r.foldl joinS z).1 (r.foldl joinS z).2)
    · exact ⟨x, hx, h⟩
    · obtain ⟨b, p, hp, hh⟩ := h
      have := List.all_eq_true.1 hb x hx
      refine ⟨_, List.mem_singleton.2 rfl, b, p, hp, here_sub (fun i => ?_) _ _ this hh⟩
      unfold vL
      split
      · rfl
      · split
        · rfl
        · split
          · rfl
          · exact hV i
theorem vL_one (hV : ∀ i, (V0 i).oneCell' = true) (b p i : Nat) : (vL V0 q ga row b p i).oneCell' = true := by
  unfold vL
  split
  · rfl
  · split
    · rfl
    · split
      · rfl
      · exact hV i
theorem dig_range (hL : LsOK hl q ga row) (p m : Nat) (hm : 0 < m) : ∃ r, r < (bif hl then m else 1) ∧ dig q row p m = (r : Int) := by
  unfold dig
  by_cases hp : p < q.n
  · rw [if_pos hp]
    cases hl with
    | false =>
      have := hL.no rfl
      omega
    | true =>
      obtain ⟨_, hby⟩ := hL.yes rfl
      obtain ⟨x, hx, hr⟩ := hby p hp
      rw [hr]
      simp only [cond_true]
      have hx0 : 0 ≤ (x : Int) * m := Int.mul_nonneg (by omega) (by omega)
      have hx1 : (x : Int) * m ≤ 255 * m := Int.mul_le_mul_of_nonneg_right (by omega) (by omega)
      exact ⟨((x : Int) * m / 256).toNat, by omega, by rw [Int.toNat_of_nonneg (by omega)]⟩
  · rw [if_neg hp]
    refine ⟨0, ?_, rfl⟩
    cases hl
    · exact Nat.one_pos
    · exact hm
/-- What the environments owe. -/
structure DrawsOK (P : Program) (V0 : Nat → Value) (hl : Bool) (q : Ls) (ga : Nat) (row : Array Value) (E : Env) (eR : Int → Int → Env) : Prop where
  one : ∀ i, (V0 i).oneCell' = true
  e : ∀ b p, p ≤ q.n → EnvOK P (vL V0 q ga row b p) E ∧ ExtOK P (vL V0 q ga row b p) E
  r : ∀ b p (m : Nat), p ≤ q.n → 1 ≤ m → m ≤ 1000 → EnvOK P (vL V0 q ga row b p) (eR m (dig q row p m)) ∧ ExtOK P (vL V0 q ga row b p) (eR m (dig q row p m))
  ls : LsOK hl q ga row
theorem drawN_ok {E : Env} {eR : Int → Int → Env} (hD : DrawsOK P V0 hl q ga row E eR) {m : Nat} (hm : 1 ≤ m) (hm2 : m ≤ 1000) {c : Code} {t : Sl} {s : St} {out : List (Sl × St)} (h : drawN hl i0 i1 eR m c t s = some out) {base : Nat} {w0 : World} {a : Act} {w : World} (hh : HereC V0 q ga row base w0 t s a w)
    {Q : Exit → Act → World → Prop} (hQ : ∀ x ∈ out, ∀ a' w', HereC V0 q ga row base w0 x.1 x.2 a' w' → Q .normal a' w') : c.wp P Q a w := by
  unfold drawN at h
  cases hk : (codesIn hl i0 i1 s 900 && freeT 902 t t.length && freeH 902 s.heap)
  · simp [hk] at h
  · simp only [hk, cond_true] at h
    simp only [Bool.and_eq_true] at hk
    obtain ⟨⟨k1, k2⟩, k3⟩ := hk
    obtain ⟨b, p, hp, hkn⟩ := here_know hD.ls hh k1 k2 k3
    obtain ⟨r, hr, hd⟩ := dig_range hD.ls p m (by omega)
    obtain ⟨l, g1, g2⟩ := joinAll_ok h _ (List.mem_map.2 ⟨r, List.mem_range.2 hr, rfl⟩)
    obtain ⟨e1, e2⟩ := hD.r b p m hp hm hm2
    rw [hd] at e1 e2
    split at g1
    · rename_i t' s' hc
      injection g1 with g1
      subst g1
      refine code_here e1 e2 30 3 hc (hereC_dirty hkn) (fun a' w' h' => ?_)
      exact hQ (t', s') (g2 _ (by simp)) a' w' ⟨b, p, hp, h'⟩
    · cases g1
noncomputable def HookC (P : Program) (V0 : Nat → Value) (q : Ls) (ga : Nat) (row : Array Value) (base : Nat) (w0 : World) (c0 : Code) (hk : Nat → Sl → St → Option (List (AE × Sl × St))) : Prop :=
  ∀ id b, b ∈ blocksOf id c0 → ∀ t s l, hk id t s = some l → ∀ a w, HereC V0 q ga row base w0 t s a w → ∀ Q : Exit → Act → World → Prop, (∀ x ∈ l, ∀ a' w', HereC V0 q ga row base w0 x.2.1 x.2.2 a' w' → Q (AEx x.1) a' w') → (Code.block id b).wp P Q a w
noncomputable def noHk : Nat → Sl → St → Option (List (AE × Sl × St)) := fun _ _ _ => none
theorem noHk_ok {base : Nat} {w0 : World} {c0 : Code} : HookC P V0 q ga row base w0 c0 noHk := fun _ _ _ _ _ _ h => by cases h
theorem codeN_ok {E : Env} {eR : Int → Int → Env} (hD : DrawsOK P V0 hl q ga row E eR) {mOf : Nat → Option (Nat × Bool)} (hm : ∀ id m mg, mOf id = some (m, mg) → 1 ≤ m ∧ m ≤ 1000) {hk : Nat → Sl → St → Option (List (AE × Sl × St))} {base : Nat} {w0 : World} {c0 : Code} (hH : HookC P V0 q ga row base w0 c0 hk) : ∀ (n : Nat),
    (∀ (c : Code), (∀ id b, b ∈ blocksOf id c → b ∈ blocksOf id c0) → ∀ {t : Sl} {s : St} {out : List (AE × Sl × St)}, codeN hl i0 i1 E eR mOf hk n c t s = some out → ∀ {a : Act} {w : World}, HereC V0 q ga row base w0 t s a w → ∀ Q : Exit → Act → World → Prop, (∀ x ∈ out, ∀ a' w', HereC V0 q ga row base w0 x.2.1 x.2.2 a' w' → Q (AEx x.1) a' w') → c.wp P Q a w) ∧
    (∀ (c : Code), (∀ id b, b ∈ blocksOf id c → b ∈ blocksOf id c0) → ∀ {t : Sl} {s : St} {out : List (AE × Sl × St)}, codeN hl i0 i1 E eR mOf hk n (.loop c) t s = some out → ∀ {a : Act} {w : World}, HereC V0 q ga row base w0 t s a w → ∀ Q : Exit → Act → World → Prop, (∀ x ∈ out, ∀ a' w', HereC V0 q ga row base w0 x.2.1 x.2.2 a' w' → Q (AEx x.1) a' w') → LoopWp P c Q a w)
  | 0 => ⟨fun c _ _ _ _ h => by simp [codeN] at h, fun c _ _ _ _ h => by simp [codeN] at h⟩
  | n + 1 => by
    obtain ⟨ih1, ih2⟩ := codeN_ok hD hm hH n
    have hloop : (∀ (c : Code), (∀ id b, b ∈ blocksOf id c → b ∈ blocksOf id c0) → ∀ {t : Sl} {s : St} {out : List (AE × Sl × St)}, codeN hl i0 i1 E eR mOf hk (n + 1) (.loop c) t s = some out → ∀ {a : Act} {w : World}, HereC V0 q ga row base w0 t s a w → ∀ Q : Exit → Act → World → Prop, (∀ x ∈ out, ∀ a' w', HereC V0 q ga row base w0 x.2.1 x.2.2 a' w' → Q (AEx x.1) a' w') → LoopWp P c Q a w) := by
      intro c hb t s out h a w hh Q hQ
      simp only [codeN] at h
      refine loop_one ?_
      split at h
      · rename_i l hl'
        refine ih1 c hb hl' hh _ (fun x hx a1 w1 g1 => ?_)
        obtain ⟨k, q1, q2⟩ := joinAll_ok h _ (List.mem_map.2 ⟨x, hx, rfl⟩)
        obtain ⟨e, t', s'⟩ := x
        cases e with
        | normal => exact ih2 c hb q1 g1 Q (fun z hz => hQ z (q2 z hz))
        | ret =>
          simp only [Option.some.injEq] at q1
          exact hQ (.ret, t', s') (q2 _ (by rw [← q1]; simp)) a1 w1 g1
        | exit id =>
          simp only [Option.some.injEq] at q1
          exact hQ (.exit id, t', s') (q2 _ (by rw [← q1]; simp)) a1 w1 g1
      · cases h
    have det : ∀ (c : Code) {t : Sl} {s : St} {out : List (AE × Sl × St)}, (match codeA E (fnA E 30) (drawA E (fnA E 30)) 3 c t { s with dirty := [] } with | some r => some [r] | none => none) = some out → ∀ {a : Act} {w : World}, HereC V0 q ga row base w0 t s a w → ∀ Q : Exit → Act → World → Prop, (∀ x ∈ out, ∀ a' w', HereC V0 q ga row base w0 x.2.1 x.2.2 a' w' → Q (AEx x.1) a' w') → c.wp P Q a w := by
      intro c t s out h a w hh Q hQ
      split at h
      · rename_i r hr
        injection h with h
        subst h
        obtain ⟨e, t', s'⟩ := r
        obtain ⟨b, p, hp, hh⟩ := hh
        obtain ⟨e1, e2⟩ := hD.e b p hp
        exact code_here e1 e2 30 3 hr (hereC_dirty hh) (fun a' w' h' => hQ (e, t', s') (by simp) a' w' ⟨b, p, hp, h'⟩)
      · cases h
    refine ⟨fun c hb => ?_, hloop⟩
    intro t s out h a w hh Q hQ
    cases c with
    | seq x y =>
      simp only [codeN] at h
      refine wp_seq ?_
      split at h
      · rename_i l hl'
        refine ih1 x (fun id b hm => hb id b (List.mem_append_left _ hm)) hl' hh _ (fun z hz a1 w1 g1 => ?_)
        obtain ⟨k, q1, q2⟩ := joinAll_ok h _ (List.mem_map.2 ⟨z, hz, rfl⟩)
        obtain ⟨e, t', s'⟩ := z
        cases e with
        | normal => exact ih1 y (fun id b hm => hb id b (List.mem_append_right _ hm)) q1 g1 Q (fun z hz => hQ z (q2 z hz))
        | ret =>
          simp only [Option.some.injEq] at q1
          exact hQ (.ret, t', s') (q2 _ (by rw [← q1]; simp)) a1 w1 g1
        | exit id =>
          simp only [Option.some.injEq] at q1
          exact hQ (.exit id, t', s') (q2 _ (by rw [← q1]; simp)) a1 w1 g1
      · cases h
    | cond b x y =>
      simp only [codeN] at h
      have hv : ∀ k, eval t b = .one (.c (.bool k)) → a.eval b = .bool k := by
        intro k he
        obtain ⟨_, _, _, ρ, ht, _⟩ := hh
        have hv := eval_ok ht b
        rw [he] at hv
        exact hv
      split at h
      · rename_i he
        exact wp_cond (hv true he) (ih1 x (fun id b hm => hb id b (List.mem_append_left _ hm)) h hh Q hQ)
      · rename_i he
        exact wp_cond (hv false he) (ih1 y (fun id b hm => hb id b (List.mem_append_right _ hm)) h hh Q hQ)
      · cases h
    | block id b =>
      simp only [codeN] at h
      split at h
      · rename_i r hr
        simp only [Option.some.injEq] at h
        subst h
        exact hH id b (hb id b (by simp [blocksOf])) t s _ hr a w hh Q hQ
      · refine wp_block ?_
        split at h
        · rename_i l hl'
          injection h with h
          subst h
          refine ih1 b (fun id' b' hm => hb id' b' (List.mem_append_right _ hm)) hl' hh _ (fun p hp a1 w1 g1 => ?_)
          have hq := hQ _ (List.mem_map.2 ⟨p, hp, rfl⟩) a1 w1
          obtain ⟨e, t', s'⟩ := p
          cases e with
          | normal => exact hq g1
          | ret => exact hq g1
          | exit j =>
            show (if j = id then _ else _)
            by_cases hj : j = id
            · rw [if_pos hj]
              simp only [if_pos hj] at hq
              exact hq g1
            · rw [if_neg hj]
              simp only [if_neg hj] at hq
              exact hq g1
        · cases h
    | loop b => exact wp_of_loop (hloop b hb h hh Q hQ)
    | region id ops d =>
      simp only [codeN] at h
      split at h
      · rename_i m mg hm'
        obtain ⟨m1, m2⟩ := hm _ _ _ hm'
        split at h
        · rename_i l hl'
          injection h with h
          subst h
          refine drawN_ok hD m1 m2 hl' hh (fun x hx a' w' h' => ?_)
          cases mg with
          | false => exact hQ (.normal, x.1, x.2) (List.mem_map.2 ⟨x, hx, rfl⟩) a' w' h'
          | true =>
            obtain ⟨y, hy, h2⟩ := merge_ok hD.one hx h'
            exact hQ (.normal, y.1, y.2) (List.mem_map.2 ⟨y, hy, rfl⟩) a' w' h2
        · cases h
      · exact det _ h hh Q hQ
    | skip => simp only [codeN] at h; exact det _ h hh Q hQ
    | exit _ => simp only [codeN] at h; exact det _ h hh Q hQ
    | ret => simp only [codeN] at h; exact det _ h hh Q hQ
    | rangeFunc _ _ _ _ => simp only [codeN] at h; exact det _ h hh Q hQ
    | scope _ => simp only [codeN] at h; exact det _ h hh Q hQ
    | label _ => simp only [codeN] at h; exact det _ h hh Q hQ
    | goto _ => simp only [codeN] at h; exact det _ h hh Q hQ
    | refuse _ => simp only [codeN] at h; exact det _ h hh Q hQ
end
end Ab
end Go.Proofs.YtbfppnppijcnlaaGreat
