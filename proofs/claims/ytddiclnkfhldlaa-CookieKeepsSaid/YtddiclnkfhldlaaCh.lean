/-
  Choices in the interpreter: the block of the choices told as a whole, at some place or at a known one; what Next yields there.
  Conditions: none.
-/
import Derived.Test.YtddiclnkfhldlaaAbsI
import Derived.Test.YtddiclnkfhldlaaCodes
namespace Go.Proofs.Ytddiclnkfhldlaa
/-- Block g holds just these cells. -/
abbrev MBlk (w : World) (g : Nat) (t : TypeId) (cs : Array Value) : Prop := Blk w g t cs
namespace Ab
open Go.RowKit
set_option linter.unusedVariables false
set_option linter.unusedSimpArgs false
/-- The values behind the symbols 900 (the choices at some place), 901 (the row of choices), 902 (the choices at a known place). -/
def vL (V0 : Nat → Value) (q : Ls) (ga : Nat) (row : Array Value) (b p : Nat) : Nat → Value := fun i =>
  if i = 900 then .func (.func 1) #[] #[.slice q.A q.n q.cap] else if i = 901 then .func (.func 0) #[] (#[.pointer (some ⟨ga, 0, none⟩)] ++ row) else if i = 902 then .func (.func 0) #[] (#[.pointer (some ⟨b, 0, none⟩)] ++ #[.slice q.A q.n q.cap, .int .i64 (p : Nat)]) else V0 i
/-- What is known of the row: hl tells whether there is any. -/
structure LsOK (hl : Bool) (q : Ls) (ga : Nat) (row : Array Value) : Prop where
  yes : hl = true → q.A = some ⟨ga, 0, none⟩ ∧ ∀ k, k < q.n → ∃ x : Nat, x < 256 ∧ row[k]? = some (.int .u8 x)
  no : hl = false → q.n = 0
  le : q.n ≤ 250
  cap : q.n ≤ q.cap
def isCode (B : Blk) (ty k : Nat) : Bool := Nat.beq B.ty ty && B.cells.isEmpty && (match B.more with | some (j, 0) => Nat.beq j k | _ => false)
theorem isCode_eq {B : Blk} {ty k : Nat} (h : isCode B ty k = true) : B = ⟨ty, [], some (k, 0)⟩ := by
  obtain ⟨t, cs, mo⟩ := B
  unfold isCode at h
  simp only [Bool.and_eq_true] at h
  obtain ⟨⟨h1, h2⟩, h3⟩ := h
  have h1 := Nat.eq_of_beq_eq_true h1
  have h2 : cs = [] := List.isEmpty_iff.1 h2
  have h1 : t = ty := h1
  cases mo with
  | none => cases h3
  | some x =>
    obtain ⟨j, z⟩ := x
    cases z with
    | zero =>
      have h3 := Nat.eq_of_beq_eq_true (show Nat.beq j k = true from h3)
      rw [h1, h2, h3]
    | succ z => cases h3
def codeAt (s : St) (i ty k : Nat) : Bool := match look s.heap i with | some B => isCode B ty k | none => false
theorem codeAt_eq {s : St} {i ty k : Nat} (h : codeAt s i ty k = true) : look s.heap i = some ⟨ty, [], some (k, 0)⟩ := by
  unfold codeAt at h
  split at h
  · rename_i B hB
    rw [hB, isCode_eq h]
  · cases h
section
variable {V0 : Nat → Value} {q : Ls} {ga b p : Nat} {row : Array Value} {hl : Bool} {ρ : Rho} {s : St} {w : World} {i0 i1 : Nat}
/-- A block told as a whole. -/
theorem rep_code {V : Nat → Value} {i ty k : Nat} (hr : Rep V ρ s w) (h : codeAt s i ty k = true) : ∃ g cs, ρ.blk i = some g ∧ MBlk w g ty cs ∧ PB (V k) g cs := by
  obtain ⟨g, cs, h1, h2, pre, post, h3, h4, h5⟩ := hr.h i _ (codeAt_eq h)
  exact ⟨g, cs, h1, h2, h5.2⟩
theorem rep_list (hr : Rep (vL V0 q ga row b p) ρ s w) (h : codeAt s i1 5 901 = true) : ρ.blk i1 = some ga ∧ MBlk w ga 5 row := by
  obtain ⟨g, cs, h1, h2, h3⟩ := rep_code hr h
  have e : vL V0 q ga row b p 901 = .func (.func 0) #[] (#[.pointer (some ⟨ga, 0, none⟩)] ++ row) := rfl
  rw [e] at h3
  rcases h3 with h3 | ⟨A, n, c, p', h3, _⟩
  · injection h3 with _ _ h3
    have h4 := congrArg Array.toList h3
    simp only [Array.toList_append, List.cons_append, List.nil_append, List.cons.injEq] at h4
    obtain ⟨h4, h5⟩ := h4
    injection h4 with h4
    injection h4 with h4
    injection h4 with h4
    subst h4
    have h5 : row = cs := Array.ext' h5
    subst h5
    exact ⟨h1, h2⟩
  · injection h3 with h3
    injection h3 with h3
    cases h3
theorem list_cod (hL : LsOK hl q ga row) (hr : Rep (vL V0 q ga row b p) ρ s w) (h1 : hl = true → codeAt s i1 5 901 = true) {g p' : Nat} (hg : MBlk w g 84 #[.slice q.A q.n q.cap, .int .i64 (p' : Nat)]) (hp : p' ≤ q.n) : Cod w g q p' := by
  refine ⟨hp, hL.le, hg, hL.cap, fun k hk => ?_⟩
  cases hl with
  | false =>
    have := hL.no rfl
    omega
  | true =>
    obtain ⟨hA, hb⟩ := hL.yes rfl
    obtain ⟨x, hx, hrow⟩ := hb k hk
    obtain ⟨_, hB⟩ := rep_list hr (h1 rfl)
    refine ⟨ga, x, hA, ?_, hx, ⟨row, (0, 0), hB⟩, (hB.cell k).trans hrow⟩
    rintro rfl
    unfold MBlk Go.Proofs.Ytddiclnkfhldlaa.Blk at hB hg
    rw [hB] at hg
    injection hg with hg
    injection hg with _ e
    exact absurd e (by decide)
/-- The choices stand at some place. -/
theorem rep_some (hL : LsOK hl q ga row) (hr : Rep (vL V0 q ga row b p) ρ s w) (h0 : codeAt s i0 84 900 = true) (h1 : hl = true → codeAt s i1 5 901 = true) : ∃ g p', ρ.blk i0 = some g ∧ Cod w g q p' := by
  obtain ⟨g, cs, k1, k2, k3⟩ := rep_code hr h0
  have e : vL V0 q ga row b p 900 = .func (.func 1) #[] #[.slice q.A q.n q.cap] := rfl
  rw [e] at k3
  rcases k3 with k3 | ⟨A, n, c, p', k3, hp, rfl⟩
  · injection k3 with k3
    injection k3 with k3
    cases k3
  · injection k3 with _ _ k3
    have k4 := congrArg Array.toList k3
    simp only [List.cons.injEq, and_true] at k4
    injection k4 with k4 k5 k6
    subst k4; subst k5; subst k6
    exact ⟨g, p', k1, list_cod hL hr h1 k2 hp⟩
/-- The choices stand at the known place. -/
theorem rep_known (hL : LsOK hl q ga row) (hp : p ≤ q.n) (hr : Rep (vL V0 q ga row b p) ρ s w) (h0 : codeAt s i0 84 902 = true) (h1 : hl = true → codeAt s i1 5 901 = true) : ρ.blk i0 = some b ∧ Cod w b q p := by
  obtain ⟨g, cs, k1, k2, k3⟩ := rep_code hr h0
  have e : vL V0 q ga row b p 902 = .func (.func 0) #[] (#[.pointer (some ⟨b, 0, none⟩)] ++ #[.slice q.A q.n q.cap, .int .i64 (p : Nat)]) := rfl
  rw [e] at k3
  rcases k3 with k3 | ⟨A, n, c, p', k3, _⟩
  · injection k3 with _ _ k3
    have h4 := congrArg Array.toList k3
    simp only [Array.toList_append, List.cons_append, List.nil_append, List.cons.injEq] at h4
    obtain ⟨h4, h5⟩ := h4
    injection h4 with h4
    injection h4 with h4
    injection h4 with h4
    subst h4
    have h5 : #[.slice q.A q.n q.cap, .int .i64 (p : Nat)] = cs := Array.ext' h5
    subst h5
    exact ⟨k1, list_cod hL hr h1 k2 hp⟩
  · injection k3 with k3
    injection k3 with k3
    cases k3
end
/-- The state behind a call that goes on with the choices. -/
def codeOn (s : St) (i0 : Nat) : St := { s with heap := upd s.heap i0 ⟨84, [], some (900, 0)⟩, dirty := i0 :: s.dirty }
theorem go_codes {V : Nat → Value} {ρ : Rho} {s : St} {w w' : World} {i g k : Nat} {cs : Array Value} (hr : Rep V ρ s w) (h0 : codeAt s i 84 k = true) (hb : ρ.blk i = some g) (hg : w.grownBy w' (some g)) (hB : MBlk w' g 84 cs) (hP : PB (V 900) g cs) : Goes V ρ s w (codeOn s i) w' ρ := by
  have hi := codeAt_eq h0
  have hlk : ∀ j C, look (codeOn s i).heap j = some C → ∃ D, look s.heap j = some D := by
    intro j C hC
    unfold codeOn at hC
    rw [look_upd] at hC
    by_cases hj : j = i
    · subst hj
      exact ⟨_, hi⟩
    · rw [if_neg hj] at hC
      exact ⟨C, hC⟩
  refine ⟨⟨?_, ?_, ?_, ?_⟩, ?_, Le.refl _⟩
  · intro j C hC
    unfold codeOn at hC
    rw [look_upd] at hC
    by_cases hj : j = i
    · subst hj
      rw [if_pos rfl, hi] at hC
      simp only [Option.map_some, Option.some.injEq] at hC
      subst hC
      exact ⟨g, cs, hb, hB, [], cs.toList, by simp, trivial, rfl, hP⟩
    · rw [if_neg hj] at hC
      obtain ⟨c, c1, h2, h3, h4⟩ := hr.h j C hC
      refine ⟨c, c1, h2, (hg.block c (hr.bnd _ _ h2) (fun e => ?_)).trans h3, h4⟩
      injection e with e
      subst e
      exact hj (hr.inj j i C _ c hC hi h2 hb)
  · intro j k C D c hC hD h1 h2
    obtain ⟨C', hC'⟩ := hlk j C hC
    obtain ⟨D', hD'⟩ := hlk k D hD
    exact hr.inj j k C' D' c hC' hD' h1 h2
  · intro j c h
    exact Nat.lt_of_lt_of_le (hr.bnd j c h) hg.size
  · intro j C hC
    obtain ⟨C', hC'⟩ := hlk j C hC
    exact hr.lt j C' hC'
  · constructor
    · exact fun _ _ => rfl
    · exact fun _ _ => rfl
    · exact Nat.le_refl _
    · exact Nat.le_refl _
    · exact fun j h => List.mem_cons_of_mem _ h
    · intro c hc hd
      refine hg.block c hc (fun e => ?_)
      injection e with e
      exact hd i (by simp [codeOn]) (hr.lt i _ hi) (by rw [hb, e])
    · exact fun i b h1 h2 => absurd h2 (by simp [codeOn]; omega)
    · intro j h
      cases h with
      | head => exact .inr (.inr (by rw [hi]; rfl))
      | tail _ h => exact .inl h
    · intro j hj h
      obtain ⟨C, hC⟩ := Option.isSome_iff_exists.1 h
      obtain ⟨D, hD⟩ := hlk j C hC
      rw [hD]
      rfl
    · exact hg.os
    · exact hg.tape
    · exact hg.output
    · exact hg.size
theorem pb_some {V0 : Nat → Value} {q : Ls} {ga b p : Nat} {row : Array Value} {g p' : Nat} (hp : p' ≤ q.n) : PB (vL V0 q ga row b p 900) g #[.slice q.A q.n q.cap, .int .i64 (p' : Nat)] := .inr ⟨q.A, q.n, q.cap, p', rfl, hp, rfl⟩
/-- Which number Next(m) yields at place p. -/
def dig (q : Ls) (row : Array Value) (p : Nat) (m : Int) : Int := if p < q.n then (match row[p]? with | some (.int _ x) => x * m / 256 | _ => 0) else 0
/-- Does the state tell the choices? -/
def codesIn (hl : Bool) (i0 i1 : Nat) (s : St) (k : Nat) : Bool := codeAt s i0 84 k && (!hl || codeAt s i1 5 901)
theorem codesIn_ok {hl : Bool} {i0 i1 : Nat} {s : St} {k : Nat} (h : codesIn hl i0 i1 s k = true) : codeAt s i0 84 k = true ∧ (hl = true → codeAt s i1 5 901 = true) := by
  unfold codesIn at h
  simp only [Bool.and_eq_true, Bool.or_eq_true, Bool.not_eq_true'] at h
  refine ⟨h.1, fun e => ?_⟩
  rcases h.2 with h2 | h2
  · rw [e] at h2
    cases h2
  · exact h2
/-- Next at the known place. -/
def nextE (hl : Bool) (i0 i1 : Nat) (m r : Int) (args : List AV) (s : St) : Option (AV × St) :=
  match args with
  | [.one (.c (.ptr (some (i, 0)))), .one (.c (.int .i64 m'))] => bif Nat.beq i i0 && decide (m' = m) && codesIn hl i0 i1 s 902 then some (.one (.c (.int .i64 r)), codeOn s i0) else none
  | _ => none
theorem nextE_ok {V0 : Nat → Value} {q : Ls} {ga b p : Nat} {row : Array Value} {hl : Bool} {i0 i1 : Nat} {m : Int} (hL : LsOK hl q ga row) (hp : p ≤ q.n) (hm0 : 1 ≤ m) (hm1 : m ≤ 1099511627776) {args : List AV} {s s' : St} {v : AV} (h : nextE hl i0 i1 m (dig q row p m) args s = some (v, s')) {ρ : Rho} {w : World} {vals : Array Value}
    (hargs : F2 (VR (vL V0 q ga row b p) ρ) args vals.toList) (hr : Rep (vL V0 q ga row b p) ρ s w) : Calls Try.prog 12 vals w fun e w' => ∃ c ρ', e = .returned c ∧ Goes (vL V0 q ga row b p) ρ s w s' w' ρ' ∧ VR (vL V0 q ga row b p) ρ' v c := by
  unfold nextE at h
  split at h
  · rename_i i m'
    cases hk : (Nat.beq i i0 && decide (m' = m) && codesIn hl i0 i1 s 902)
    · simp [hk] at h
    · simp only [hk, cond_true, Option.some.injEq, Prod.mk.injEq] at h
      obtain ⟨rfl, rfl⟩ := h
      simp only [Bool.and_eq_true, decide_eq_true_eq] at hk
      obtain ⟨⟨k1, rfl⟩, k3⟩ := hk
      have k1 := Nat.eq_of_beq_eq_true k1
      subst k1
      obtain ⟨c0, c1⟩ := codesIn_ok k3
      obtain ⟨hb, hC⟩ := rep_known hL hp hr c0 c1
      have hvals : vals = #[.pointer (some ⟨b, 0, none⟩), .int .i64 m'] := by
        apply Array.ext'
        match hl : vals.toList, hargs with
        | [x, y], hv =>
          obtain ⟨b', e0, e1⟩ := hv.1
          rw [hb] at e0
          injection e0 with e0
          subst e0
          have e2 : y = .int .i64 m' := hv.2.1
          rw [e1, e2]
      subst hvals
      refine (next_det b q p m' w hC hm0 hm1).mono ?_
      rintro e w' ⟨hg, ⟨h1, h2, ga', x, hA, hx, hc, rfl⟩ | ⟨h1, h2, rfl⟩⟩
      · refine ⟨_, ρ, rfl, go_codes hr c0 hb hg h2.2.2.1 (pb_some h2.1), ?_⟩
        have hd : dig q row p m' = (x : Int) * m' / 256 := by
          unfold dig
          rw [if_pos h1]
          cases hl with
          | false =>
            have := hL.no rfl
            omega
          | true =>
            obtain ⟨hA', hby⟩ := hL.yes rfl
            obtain ⟨_, hB⟩ := rep_list hr (c1 rfl)
            rw [hA'] at hA
            cases hA
            have hrow : row[p]? = some (.int .u8 x) := (hB.cell p).symm.trans hc
            rw [hrow]
        rw [hd]
        rfl
      · refine ⟨_, ρ, rfl, go_codes hr c0 hb hg h2.2.2.1 (pb_some h2.1), ?_⟩
        have hd : dig q row p m' = 0 := by
          unfold dig
          rw [if_neg (by omega)]
        rw [hd]
        rfl
  · cases h
/-- A call that goes on with the choices, from any place. -/
theorem ext_codes {V0 : Nat → Value} {q : Ls} {ga b p : Nat} {row : Array Value} {hl : Bool} {i0 i1 k : Nat} (hk : k = 900 ∨ (k = 902 ∧ p ≤ q.n)) (hL : LsOK hl q ga row) {s : St} (hc : codesIn hl i0 i1 s k = true) {ρ : Rho} {w : World} (hr : Rep (vL V0 q ga row b p) ρ s w) {f : Nat} {v : AV} {vals : Nat → Array Value}
    (hf : ∀ g p', Cod w g q p' → Calls Try.prog f (vals g) w fun e w' => ∃ c, e = .returned c ∧ VR (vL V0 q ga row b p) ρ v c ∧ (∃ p'', Cod w' g q p'') ∧ w.grownBy w' (some g)) :
    ∃ g, ρ.blk i0 = some g ∧ Calls Try.prog f (vals g) w fun e w' => ∃ c ρ', e = .returned c ∧ Goes (vL V0 q ga row b p) ρ s w (codeOn s i0) w' ρ' ∧ VR (vL V0 q ga row b p) ρ' v c := by
  obtain ⟨c0, c1⟩ := codesIn_ok hc
  have key : ∃ g p', ρ.blk i0 = some g ∧ Cod w g q p' := by
    rcases hk with rfl | ⟨rfl, hp⟩
    · exact rep_some hL hr c0 c1
    · obtain ⟨h1, h2⟩ := rep_known hL hp hr c0 c1
      exact ⟨b, p, h1, h2⟩
  obtain ⟨g, p', h1, h2⟩ := key
  refine ⟨g, h1, (hf g p' h2).mono ?_⟩
  rintro e w' ⟨c, rfl, hv, ⟨p'', h3⟩, hg⟩
  exact ⟨c, ρ, rfl, go_codes hr c0 h1 hg h3.2.2.1 (pb_some h3.1), hv⟩
end Ab
end Go.Proofs.Ytddiclnkfhldlaa
