/-
  Regions and code: what the interpreter says of them, they do.
  Conditions: none.
-/
import Derived.Test.YtddiclnkfhldlaaAbsV
namespace Go.Proofs.Ytddiclnkfhldlaa
namespace Ab
set_option linter.unusedVariables false
set_option linter.unusedSimpArgs false
section
variable {P : Program} {V : Nat → Value} {E : Env}
def Up (s s' : St) : Prop := s.next ≤ s'.next ∧ s.ncap ≤ s'.ncap
theorem Up.refl (s : St) : Up s s := ⟨Nat.le_refl _, Nat.le_refl _⟩
theorem Up.trans {a b c : St} (h : Up a b) (k : Up b c) : Up a c := ⟨Nat.le_trans h.1 k.1, Nat.le_trans h.2 k.2⟩
theorem storeA_up {s s' : St} {ty : Nat} {a v : AV} (h : storeA E s ty a v = some s') : Up s s' := by
  unfold storeA at h
  simp only [Bool.cond_eq_ite] at h
  (repeat' split at h) <;> first | cases h; done | (injection h with h; subst h; exact ⟨Nat.le_refl _, Nat.le_refl _⟩)
theorem sliceA_up {s s' : St} {ty : Nat} {x v : AV} {lo hi mx : Option AV} (h : sliceA E s ty x lo hi mx = some (v, s')) : Up s s' := by
  unfold sliceA at h
  simp only [Bool.cond_eq_ite] at h
  (repeat' split at h) <;> first | cases h; done | (simp only [Option.some.injEq, Prod.mk.injEq] at h; obtain ⟨_, rfl⟩ := h; exact ⟨by simp, by simp⟩)
theorem appendA_up {s s' : St} {tys : Array Nat} {x y v : AV} (h : appendA E s tys x y = some (v, s')) : Up s s' := by
  unfold appendA at h
  simp only [Bool.cond_eq_ite] at h
  (repeat' split at h) <;> first | cases h; done | (simp only [Option.some.injEq, Prod.mk.injEq] at h; obtain ⟨_, rfl⟩ := h; exact ⟨by simp [St.new], by simp [St.new]⟩)
theorem clearA_up {s s' : St} {tys : Array Nat} {x : AV} (h : clearA E s tys x = some s') : Up s s' := by
  unfold clearA at h
  simp only [Bool.cond_eq_ite] at h
  (repeat' split at h) <;> first | cases h; done | (simp only [Option.some.injEq] at h; subst h; exact ⟨by simp, by simp⟩)
theorem makeSliceA_up {s s' : St} {ty : Nat} {x y v : AV} (h : makeSliceA E s ty x y = some (v, s')) : Up s s' := by
  unfold makeSliceA at h
  (repeat' split at h) <;> first | cases h; done | (simp only [Option.some.injEq, Prod.mk.injEq] at h; obtain ⟨_, rfl⟩ := h; exact ⟨by simp [St.new], by simp [St.new]⟩)
theorem opA_up {call : Call1} (hc : CallUp call) {t : Sl} {s s' : St} {o : Oper} {v : AV} (h : opA E call t s o = some (v, s')) : Up s s' := by
  unfold opA at h
  simp only [Bool.cond_eq_ite] at h
  (repeat' split at h) <;> first
    | (cases h; done)
    | exact hc _ _ _ _ _ h
    | exact makeSliceA_up h
    | exact sliceA_up h
    | exact appendA_up h
    | (simp only [Option.some.injEq, Prod.mk.injEq] at h; obtain ⟨_, rfl⟩ := h; first | exact Up.refl _ | exact ⟨by simp [St.new], by simp [St.new]⟩ | exact storeA_up (by assumption) | exact clearA_up (by assumption))
theorem stepA_up {call : Call1} (hc : CallUp call) {ops : Array Oper} {t : Sl} {s s' : St} {o : Oper} {v : AV} (h : stepA E call ops t s o = some (v, s')) : Up s s' := by
  unfold stepA at h
  split at h
  · exact opA_up hc h
  · simp only [Option.some.injEq, Prod.mk.injEq] at h
    obtain ⟨_, rfl⟩ := h
    exact Up.refl _
  · cases h
theorem opsA_up {call : Call1} (hc : CallUp call) {ops : Array Oper} : ∀ (l : List Oper) {t t' : Sl} {s s' : St}, opsA E call ops l t s = some (t', s') → Up s s'
  | [], t, t', s, s', h => by
    simp only [opsA, Option.some.injEq, Prod.mk.injEq] at h
    obtain ⟨_, rfl⟩ := h
    exact Up.refl _
  | o :: l, t, t', s, s', h => by
    simp only [opsA] at h
    split at h
    · rename_i v s1 h1
      exact (stepA_up hc h1).trans (opsA_up hc l h)
    · cases h
/-- The slots behind a write. -/
theorem tr_put {ρ : Rho} {t : Sl} {a : Act} {v : AV} {c : Value} (ht : TR V ρ t a) (hv : VR V ρ v c) (d : Option Nat) : TR V ρ (put t d v) (a.put d c) := by
  cases d with
  | none => exact ht
  | some d =>
    refine ⟨by simp [put, Act.put, lset_length, ht.z], fun e => ?_, ht.df⟩
    simp only [put, Act.put, lget_lset]
    by_cases h1 : e = d ∧ d < t.length
    · rw [if_pos h1]
      have : (a.tmps.setIfInBounds d c).getD e undef = c := by
        obtain ⟨rfl, h2⟩ := h1
        have h3 : e < a.tmps.size := by rw [ht.z]; exact h2
        simp [Array.getD, h3]
      rw [this]
      exact hv
    · rw [if_neg h1]
      have : (a.tmps.setIfInBounds d c).getD e undef = a.tmps.getD e undef := by
        by_cases h2 : e = d
        · subst h2
          have h3 : ¬ e < t.length := fun h => h1 ⟨rfl, h⟩
          have h4 : ¬ e < a.tmps.size := by rw [ht.z]; exact h3
          simp [Array.getD, h4]
        · simp only [Array.getD_eq_getD_getElem?, Array.getElem?_setIfInBounds, if_neg (Ne.symm h2)]
      rw [this]
      exact ht.v e
/-- Whether an operation is wanted. -/
theorem want_ok {ρ : Rho} {ops : Array Oper} {t : Sl} {a : Act} {o : Oper} {b : Bool} (ht : TR V ρ t a) (h : wantA ops t o = some b) : Region.wanted o (yielded ops a.tmps) = b := by
  unfold wantA at h
  unfold Region.wanted
  cases hg : o.guard with
  | none =>
    simp only [hg, Option.some.injEq] at h
    exact h
  | some jb =>
    obtain ⟨j, wnt⟩ := jb
    simp only [hg] at h ⊢
    cases hd : (ops[j]?).bind (·.dst) with
    | none =>
      simp only [hd, Option.some.injEq] at h
      subst h
      simp [yielded, hd]
    | some d =>
      simp only [hd] at h
      have hv := ht.v d
      split at h
      · rename_i b' he
        rw [he] at hv
        have hv : a.tmps.getD d undef = .bool b' := hv
        simp only [Option.some.injEq] at h
        subst h
        have : a.tmps[d]? = some (.bool b') := by
          by_cases h3 : d < a.tmps.size
          · simp [Array.getD, h3] at hv
            simp [h3, hv]
          · simp [Array.getD, h3, undef] at hv
        simp [yielded, hd, this]
      · rename_i he
        rw [he] at hv
        have hv : a.tmps.getD d undef = undef := hv
        simp only [Option.some.injEq] at h
        subst h
        have : ∀ q, a.tmps[d]? ≠ some (.bool q) := by
          intro q hq
          have h3 := (Array.getElem?_eq_some_iff.1 hq)
          obtain ⟨h3, h4⟩ := h3
          simp [Array.getD, h3] at hv
          rw [hv] at h4
          cases h4
        have hy : yielded ops a.tmps j = none := by
          unfold yielded
          rw [hd]
          simp only [Option.bind_some]
        rw [hy]
        try rfl
      · cases h
/-- One operation of a region. -/
theorem step_ok (hE : EnvOK P V E) {call : Call1} (hcall : CallOK P V call) (hfn : CallFn E call) {ops : Array Oper} {t : Sl} {s s' : St} {i : Nat} {o : Oper} {v : AV} (hi : ops[i]? = some o) (h : stepA E call ops t s o = some (v, s')) {ρ : Rho} {a : Act} {w : World} (ht : TR V ρ t a) (hr : Rep V ρ s w) (hf : Free ρ s s')
    {K : Act → World → Prop} {Q : Exit → Act → World → Prop} (hK : ∀ ρ' c w', Goes V ρ s w s' w' ρ' → VR V ρ' v c → K (a.put o.dst c) w') : wpOp P ops Q i K a w := by
  unfold wpOp
  rw [hi]
  simp only
  unfold stepA at h
  split at h
  · rename_i hw
    rw [want_ok ht hw, if_pos rfl]
    exact .inl (opA_ok hE hcall hfn h ρ a w ht hr hf K Q hK)
  · rename_i hw
    rw [want_ok ht hw]
    simp only [Option.some.injEq, Prod.mk.injEq] at h
    obtain ⟨rfl, rfl⟩ := h
    simp only [Bool.false_eq_true, if_false]
    exact hK ρ undef w (Goes.refl V hr) rfl
  · cases h
/-- A region in its own order. -/
theorem ops_ok (hE : EnvOK P V E) {call : Call1} (hcall : CallOK P V call) (hfn : CallFn E call) (hup : CallUp call) {ops : Array Oper} {Q : Exit → Act → World → Prop} : ∀ (l : List Oper) (k : Nat), ops.toList.drop k = l → ∀ {t t' : Sl} {s s' : St}, opsA E call ops l t s = some (t', s') → ∀ {ρ : Rho} {a : Act} {w : World}, TR V ρ t a → Rep V ρ s w → Free ρ s s' →
    (∀ ρ' a' w', Goes V ρ s w s' w' ρ' → TR V ρ' t' a' → Q .normal a' w') → wpOps P ops Q (List.range' k l.length) a w
  | [], k, hk, t, t', s, s', h, ρ, a, w, ht, hr, hf, hQ => by
    simp only [opsA, Option.some.injEq, Prod.mk.injEq] at h
    obtain ⟨rfl, rfl⟩ := h
    exact hQ ρ a w (Goes.refl V hr) ht
  | o :: l, k, hk, t, t', s, s', h, ρ, a, w, ht, hr, hf, hQ => by
    simp only [opsA] at h
    split at h
    · rename_i v s1 h1
      have hi : ops[k]? = some o := by
        have := congrArg (fun l : List Oper => l[0]?) hk
        simpa using this
      have hk' : ops.toList.drop (k + 1) = l := by
        rw [← List.drop_drop, hk]
        rfl
      have hup1 := opsA_up hup l h
      rw [List.length_cons, List.range'_succ, wpOps_cons]
      refine step_ok hE hcall hfn hi h1 ht hr (hf.left hup1.1 hup1.2) ?_
      intro ρ1 c w1 hg hv
      refine ops_ok hE hcall hfn hup l (k + 1) hk' h (tr_put (ht.mono V hg.2.2) hv o.dst) hg.1 (hf.right hg.2.1) ?_
      intro ρ2 a2 w2 hg2 ht2
      exact hQ ρ2 a2 w2 (hg.trans V hg2) ht2
    · cases h
/-- How code ends. -/
def AEx : AE → Exit
  | .normal => .normal
  | .ret => .ret
  | .exit id => .exit id
abbrev Draw1 := Array Oper → Sl → St → Option (Sl × St)
def DrawOK (P : Program) (V : Nat → Value) (dr : Draw1) : Prop :=
  ∀ ops t s t' s', dr ops t s = some (t', s') → ∀ id ρ a w, TR V ρ t a → Rep V ρ s w → Free ρ s s' → ∀ Q : Exit → Act → World → Prop, (∀ ρ' a' w', Goes V ρ s w s' w' ρ' → TR V ρ' t' a' → Q .normal a' w') → (Code.region id ops true).wp P Q a w
def DrawUp (dr : Draw1) : Prop := ∀ ops t s t' s', dr ops t s = some (t', s') → Up s s'
theorem codeA_up {call : Call1} {dr : Draw1} (hc : CallUp call) (hd : DrawUp dr) : ∀ (n : Nat) (c : Code) {t t' : Sl} {s s' : St} {e : AE}, codeA E call dr n c t s = some (e, t', s') → Up s s'
  | 0, c, t, t', s, s', e, h => by simp [codeA] at h
  | n + 1, c, t, t', s, s', e, h => by
    cases c with
    | skip =>
      simp only [codeA, Option.some.injEq, Prod.mk.injEq] at h
      obtain ⟨_, _, rfl⟩ := h
      exact Up.refl _
    | region id ops draw =>
      simp only [codeA] at h
      split at h
      · rename_i t1 s1 h1
        simp only [Option.some.injEq, Prod.mk.injEq] at h
        obtain ⟨_, _, rfl⟩ := h
        cases draw
        · exact opsA_up hc _ h1
        · exact hd _ _ _ _ _ h1
      · cases h
    | seq x y =>
      simp only [codeA] at h
      split at h
      · rename_i t1 s1 h1
        exact (codeA_up hc hd n x h1).trans (codeA_up hc hd n y h)
      · exact codeA_up hc hd n x h
    | cond b x y =>
      simp only [codeA] at h
      split at h
      · exact codeA_up hc hd n _ h
      · cases h
    | block id b =>
      simp only [codeA] at h
      split at h
      · rename_i j t1 s1 h1
        have := codeA_up hc hd n b h1
        split at h
        · simp only [Option.some.injEq, Prod.mk.injEq] at h
          obtain ⟨_, _, rfl⟩ := h
          exact this
        · simp only [Option.some.injEq, Prod.mk.injEq] at h
          obtain ⟨_, _, rfl⟩ := h
          exact this
      · exact codeA_up hc hd n b h
    | loop b =>
      simp only [codeA] at h
      split at h
      · rename_i t1 s1 h1
        exact (codeA_up hc hd n b h1).trans (codeA_up hc hd n _ h)
      · exact codeA_up hc hd n b h
    | exit id =>
      simp only [codeA, Option.some.injEq, Prod.mk.injEq] at h
      obtain ⟨_, _, rfl⟩ := h
      exact Up.refl _
    | ret =>
      simp only [codeA, Option.some.injEq, Prod.mk.injEq] at h
      obtain ⟨_, _, rfl⟩ := h
      exact Up.refl _
    | rangeFunc _ _ _ _ => simp [codeA] at h
    | scope _ => simp [codeA] at h
    | label _ => simp [codeA] at h
    | goto _ => simp [codeA] at h
    | refuse _ => simp [codeA] at h
/-- A loop, from its round's beginning. -/
def LoopWp (P : Program) (c : Code) (Q : Exit → Act → World → Prop) (a : Act) (w : World) : Prop :=
  ∀ (b : Frame) (k : List Item) (cs : List Frame), ∃ e a' w', Q e a' w' ∧ Arrives P (lone (b.at a (.code c :: .inLoop c :: k)) cs w) b k cs e a' w'
theorem wp_of_loop {c : Code} {a : Act} {w : World} {Q : Exit → Act → World → Prop} (h : LoopWp P c Q a w) : (Code.loop c).wp P Q a w := by
  intro b k cs
  obtain ⟨e, a', w', hq, harr⟩ := h b k cs
  exact ⟨e, a', w', hq, .of_steps (.one step_loop) harr⟩
theorem loop_one {c : Code} {a : Act} {w : World} {Q : Exit → Act → World → Prop} (h : c.wp P (Exit.then (LoopWp P c Q) Q) a w) : LoopWp P c Q a w := by
  intro b k cs
  obtain ⟨e, a1, w1, hq, harr⟩ := h b (.inLoop c :: k) cs
  cases e with
  | normal =>
    obtain ⟨e2, a2, w2, hq2, harr2⟩ := hq b k cs
    exact ⟨e2, a2, w2, hq2, .of_steps (Steps.trans harr (.one step_inLoop)) harr2⟩
  | exit id => exact ⟨_, a1, w1, hq, .pass (x := .inLoop c) rfl (fun _ _ => .inl (by simp)) harr⟩
  | goto l => exact ⟨_, a1, w1, hq, .pass (x := .inLoop c) rfl (fun _ _ => .inl (by simp)) harr⟩
  | ret => exact ⟨_, a1, w1, hq, .pass (x := .inLoop c) rfl (fun _ _ => .inl (by simp)) harr⟩
  | panic ch => exact ⟨_, a1, w1, hq, .pass (x := .inLoop c) rfl (fun _ _ => .inl (by simp)) harr⟩
  | outgrown => exact ⟨_, a1, w1, hq, .pass (x := .inLoop c) rfl (fun _ _ => .inl (by simp)) harr⟩
/-- What code gives. -/
def After (V : Nat → Value) (ρ : Rho) (s : St) (w : World) (e : AE) (t' : Sl) (s' : St) (Q : Exit → Act → World → Prop) : Prop :=
  ∀ ρ' a' w', Goes V ρ s w s' w' ρ' → TR V ρ' t' a' → Q (AEx e) a' w'
theorem After.then {ρ ρ1 : Rho} {s s1 s' : St} {w w1 : World} {e : AE} {t' : Sl} {Q : Exit → Act → World → Prop} (h : After V ρ s w e t' s' Q) (g : Goes V ρ s w s1 w1 ρ1) : After V ρ1 s1 w1 e t' s' Q :=
  fun ρ' a' w' g' ht => h ρ' a' w' (g.trans V g') ht
theorem code_ok (hE : EnvOK P V E) {call : Call1} (hcall : CallOK P V call) (hfn : CallFn E call) (hup : CallUp call) {dr : Draw1} (hdr : DrawOK P V dr) (hdu : DrawUp dr) : ∀ (n : Nat),
    (∀ (c : Code) {t t' : Sl} {s s' : St} {e : AE}, codeA E call dr n c t s = some (e, t', s') → ∀ {ρ : Rho} {a : Act} {w : World}, TR V ρ t a → Rep V ρ s w → Free ρ s s' → ∀ Q, After V ρ s w e t' s' Q → c.wp P Q a w) ∧
    (∀ (c : Code) {t t' : Sl} {s s' : St} {e : AE}, codeA E call dr n (.loop c) t s = some (e, t', s') → ∀ {ρ : Rho} {a : Act} {w : World}, TR V ρ t a → Rep V ρ s w → Free ρ s s' → ∀ Q, After V ρ s w e t' s' Q → LoopWp P c Q a w)
  | 0 => ⟨fun c _ _ _ _ _ h => by simp [codeA] at h, fun c _ _ _ _ _ h => by simp [codeA] at h⟩
  | n + 1 => by
    obtain ⟨ih1, ih2⟩ := code_ok hE hcall hfn hup hdr hdu n
    have hloop : (∀ (c : Code) {t t' : Sl} {s s' : St} {e : AE}, codeA E call dr (n + 1) (.loop c) t s = some (e, t', s') → ∀ {ρ : Rho} {a : Act} {w : World}, TR V ρ t a → Rep V ρ s w → Free ρ s s' → ∀ Q, After V ρ s w e t' s' Q → LoopWp P c Q a w) := by
      intro c t t' s s' e h ρ a w ht hr hf Q hQ
      simp only [codeA] at h
      refine loop_one ?_
      split at h
      · rename_i t1 s1 h1
        have hu := codeA_up hup hdu n _ h
        refine ih1 c h1 ht hr (hf.left hu.1 hu.2) _ ?_
        intro ρ1 a1 w1 hg ht1
        exact ih2 c h ht1 hg.1 (hf.right hg.2.1) Q (hQ.then hg)
      · rename_i hne
        refine ih1 c h ht hr hf _ ?_
        intro ρ1 a1 w1 hg ht1
        cases e with
        | normal => exact absurd h (hne _ _)
        | ret => exact hQ ρ1 a1 w1 hg ht1
        | exit id => exact hQ ρ1 a1 w1 hg ht1
    refine ⟨?_, hloop⟩
    intro c t t' s s' e h ρ a w ht hr hf Q hQ
    cases c with
    | skip =>
      simp only [codeA, Option.some.injEq, Prod.mk.injEq] at h
      obtain ⟨rfl, rfl, rfl⟩ := h
      exact wp_skip (hQ ρ a w (Goes.refl V hr) ht)
    | region id ops draw =>
      simp only [codeA] at h
      split at h
      · rename_i t1 s1 h1
        simp only [Option.some.injEq, Prod.mk.injEq] at h
        obtain ⟨rfl, rfl, rfl⟩ := h
        cases draw
        · have := ops_ok hE hcall hfn hup (Q := Q) ops.toList 0 (by simp) h1 ht hr hf (fun ρ' a' w' g t => hQ ρ' a' w' g t)
          rw [← List.range_eq_range', Array.length_toList] at this
          exact wp_region this
        · exact hdr ops t s t1 s1 h1 id ρ a w ht hr hf Q (fun ρ' a' w' g t => hQ ρ' a' w' g t)
      · cases h
    | seq x y =>
      simp only [codeA] at h
      refine wp_seq ?_
      split at h
      · rename_i t1 s1 h1
        have hu := codeA_up hup hdu n _ h
        refine ih1 x h1 ht hr (hf.left hu.1 hu.2) _ ?_
        intro ρ1 a1 w1 hg ht1
        exact ih1 y h ht1 hg.1 (hf.right hg.2.1) Q (hQ.then hg)
      · rename_i hne
        refine ih1 x h ht hr hf _ ?_
        intro ρ1 a1 w1 hg ht1
        cases e with
        | normal => exact absurd h (hne _ _)
        | ret => exact hQ ρ1 a1 w1 hg ht1
        | exit id => exact hQ ρ1 a1 w1 hg ht1
    | cond b x y =>
      simp only [codeA] at h
      split at h
      · rename_i k hk
        have hb := eval_ok ht b
        rw [hk] at hb
        have hb : a.eval b = .bool k := hb
        refine wp_cond hb ?_
        have := ih1 _ h ht hr hf Q hQ
        cases k <;> simpa using this
      · cases h
    | block id b =>
      simp only [codeA] at h
      refine wp_block ?_
      split at h
      · rename_i j t1 s1 h1
        split at h
        · rename_i hj
          simp only [Option.some.injEq, Prod.mk.injEq] at h
          obtain ⟨rfl, rfl, rfl⟩ := h
          refine ih1 b h1 ht hr hf _ ?_
          intro ρ1 a1 w1 hg ht1
          show (if j = id then _ else _)
          rw [if_pos hj]
          exact hQ ρ1 a1 w1 hg ht1
        · rename_i hj
          simp only [Option.some.injEq, Prod.mk.injEq] at h
          obtain ⟨rfl, rfl, rfl⟩ := h
          refine ih1 b h1 ht hr hf _ ?_
          intro ρ1 a1 w1 hg ht1
          show (if j = id then _ else _)
          rw [if_neg hj]
          exact hQ ρ1 a1 w1 hg ht1
      · rename_i hne
        refine ih1 b h ht hr hf _ ?_
        intro ρ1 a1 w1 hg ht1
        cases e with
        | normal => exact hQ ρ1 a1 w1 hg ht1
        | ret => exact hQ ρ1 a1 w1 hg ht1
        | exit id' => exact absurd h (hne _ _ _)
    | loop b => exact wp_of_loop (hloop b h ht hr hf Q hQ)
    | exit id =>
      simp only [codeA, Option.some.injEq, Prod.mk.injEq] at h
      obtain ⟨rfl, rfl, rfl⟩ := h
      exact wp_exit (hQ ρ a w (Goes.refl V hr) ht)
    | ret =>
      simp only [codeA, Option.some.injEq, Prod.mk.injEq] at h
      obtain ⟨rfl, rfl, rfl⟩ := h
      exact wp_ret (hQ ρ a w (Goes.refl V hr) ht)
    | rangeFunc _ _ _ _ => simp [codeA] at h
    | scope _ => simp [codeA] at h
    | label _ => simp [codeA] at h
    | goto _ => simp [codeA] at h
    | refuse _ => simp [codeA] at h
end
end Ab
end Go.Proofs.Ytddiclnkfhldlaa
namespace Go.Proofs.Ytddiclnkfhldlaa
namespace Ab
set_option linter.unusedVariables false
set_option linter.unusedSimpArgs false
section
variable {P : Program} {V : Nat → Value} {E : Env}
theorem closeA_ok : ∀ (l : List Edge) (acc : List Nat) (k b : Nat), closeA l acc k = some b → (∀ e ∈ l, Region.binds .any e = true → e.on < k) ∧ ∀ j, b.testBit j = true → ∃ e ∈ l, Region.binds .any e = true ∧ ∃ be, acc[e.on]? = some be ∧ (j = e.on ∨ be.testBit j = true)
  | [], acc, k, b, h => by
    simp only [closeA, Option.some.injEq] at h
    subst h
    refine ⟨fun e he => (by cases he), fun j hj => ?_⟩
    simp at hj
  | e :: l, acc, k, b, h => by
    simp only [closeA] at h
    cases hr : closeA l acc k with
    | none => simp [hr] at h
    | some x =>
      obtain ⟨h1, h2⟩ := closeA_ok l acc k x hr
      simp only [hr] at h
      cases hb : Region.binds .any e
      · simp only [hb, cond_false, Option.some.injEq] at h
        subst h
        refine ⟨fun e' he' hb' => ?_, fun j hj => ?_⟩
        · cases he' with
          | head => rw [hb] at hb'; cases hb'
          | tail _ he' => exact h1 e' he' hb'
        · obtain ⟨e', q1, q2⟩ := h2 j hj
          exact ⟨e', List.mem_cons_of_mem _ q1, q2⟩
      · simp only [hb, cond_true] at h
        cases hl : Nat.blt e.on k
        · simp [hl] at h
        · simp only [hl, cond_true] at h
          cases ha : acc[e.on]? with
          | none => simp [ha] at h
          | some be =>
            simp only [ha, Option.some.injEq] at h
            subst h
            have hlt : e.on < k := by
              have := Nat.le_of_ble_eq_true (show Nat.ble (e.on + 1) k = true from hl)
              omega
            refine ⟨fun e' he' hb' => ?_, fun j hj => ?_⟩
            · cases he' with
              | head => exact hlt
              | tail _ he' => exact h1 e' he' hb'
            · rw [Nat.testBit_or, Nat.testBit_or, Nat.testBit_two_pow] at hj
              simp only [Bool.or_eq_true, decide_eq_true_eq] at hj
              rcases hj with (hj | hj) | hj
              · exact ⟨e, by simp, hb, be, ha, .inr hj⟩
              · exact ⟨e, by simp, hb, be, ha, .inl hj.symm⟩
              · obtain ⟨e', q1, q2⟩ := h2 j hj
                exact ⟨e', List.mem_cons_of_mem _ q1, q2⟩
/-- What the table of predecessors says. -/
def BOK (ops : Array Oper) (B : List Nat) : Prop := ∀ k o, ops[k]? = some o → (∀ e ∈ o.after, Region.binds .any e = true → e.on < k) ∧ ∀ j, (B.getD k 0).testBit j = true → ∃ e ∈ o.after, Region.binds .any e = true ∧ (j = e.on ∨ (B.getD e.on 0).testBit j = true)
theorem beforeA_ok : ∀ (l : List Oper) (acc : List Nat) (k : Nat) (B : List Nat), acc.length = k → beforeA l acc k = some B → (∃ more, B = acc ++ more) ∧ ∀ (i : Nat) (o : Oper), l[i]? = some o → (∀ e ∈ o.after, Region.binds .any e = true → e.on < k + i) ∧ ∀ j, (B.getD (k + i) 0).testBit j = true → ∃ e ∈ o.after, Region.binds .any e = true ∧ (j = e.on ∨ (B.getD e.on 0).testBit j = true)
  | [], acc, k, B, hk, h => by
    simp only [beforeA, Option.some.injEq] at h
    subst h
    exact ⟨⟨[], by simp⟩, fun i o h => by simp at h⟩
  | o :: l, acc, k, B, hk, h => by
    simp only [beforeA] at h
    cases hc : closeA o.after.toList acc k with
    | none => simp [hc] at h
    | some b =>
      simp only [hc] at h
      obtain ⟨⟨more, hm⟩, h2⟩ := beforeA_ok l (acc ++ [b]) (k + 1) B (by simp [hk]) h
      obtain ⟨c1, c2⟩ := closeA_ok _ _ _ _ hc
      refine ⟨⟨b :: more, by rw [hm]; simp⟩, fun i o' ho' => ?_⟩
      cases i with
      | zero =>
        simp only [List.getElem?_cons_zero, Option.some.injEq] at ho'
        subst ho'
        refine ⟨fun e he hb => c1 e (by simpa using he) hb, fun j hj => ?_⟩
        have hB : B.getD (k + 0) 0 = b := by
          rw [hm, ← hk]
          simp
        rw [hB] at hj
        obtain ⟨e, q1, q2, be, q3, q4⟩ := c2 j hj
        refine ⟨e, by simpa using q1, q2, ?_⟩
        have hlt : e.on < acc.length := (List.getElem?_eq_some_iff.1 q3).1
        have : B.getD e.on 0 = be := by
          rw [hm, List.append_assoc, List.getD_eq_getElem?_getD, List.getElem?_append_left hlt, q3]
          rfl
        rw [this]
        exact q4
      | succ i =>
        simp only [List.getElem?_cons_succ] at ho'
        have := h2 i o' ho'
        rw [show k + 1 + i = k + (i + 1) by omega] at this
        exact this
theorem bok {ops : Array Oper} {B : List Nat} (h : beforeA ops.toList [] 0 = some B) : BOK ops B := by
  intro k o ho
  have := (beforeA_ok _ [] 0 _ rfl h).2 k o (by simpa using ho)
  rw [Nat.zero_add] at this
  exact this
/-- A step of the run, for the proof. -/
structure PR where
  i : Nat
  o : Oper
  n : Nat
  c : Nat
  s1 : St
  v : AV
  W : List Nat
  ids : List Nat
def viewT (ops : Array Oper) (B : List Nat) (bk k : Nat) (D : DS) : Sl := maskA B bk k ops.toList 0 D.t
def viewS (bk : Nat) (D : DS) : St := { D.s with heap := hideA (hiddenOf bk D.recs) D.s.heap, dirty := [] }
def DS.then (D : DS) (r : PR) : DS :=
  { t := put D.t r.o.dst r.v, s := { heap := layNew D.s.next r.s1.heap (layW r.s1.heap r.W D.s.heap), next := r.s1.next, ncap := r.s1.ncap, dirty := r.W ++ D.s.dirty }, recs := ⟨r.i, r.ids⟩ :: D.recs, bits := D.bits ||| 2 ^ r.i }
/-- The conditions of a step. -/
structure SC (E : Env) (call : Call1) (ops : Array Oper) (B : List Nat) (D : DS) (r : PR) (bk : Nat) : Prop where
  ho : ops[r.i]? = some r.o
  hb : B[r.i]? = some bk
  nb : D.bits.testBit r.i = false
  su : bk &&& D.bits = bk
  ds : dstOk B bk r.i r.o.dst ops.toList 0 = true
  st : stepA E call ops (viewT ops B bk r.i D) (viewS bk D) r.o = some (r.v, r.s1)
  n : r.n = D.s.next
  c : r.c = D.s.ncap
  W : r.W = r.s1.dirty.filter (fun i => Nat.blt i D.s.next)
  ids : r.ids = r.W ++ newIds D.s.next r.s1.heap []
  pp : r.W = [] ∨ purePast ops bk D.recs = true
inductive Trace (E : Env) (call : Call1) (ops : Array Oper) (B : List Nat) (t : Sl) (s : St) : DS → List PR → Prop
  | nil : Trace E call ops B t s ⟨t, s, [], 0⟩ []
  | cons {D : DS} {L : List PR} {r : PR} {bk : Nat} (h : Trace E call ops B t s D L) (k : SC E call ops B D r bk) : Trace E call ops B t s (D.then r) (r :: L)
theorem drawStep_trace {call : Call1} {ops : Array Oper} {B : List Nat} {t : Sl} {s : St} {k : Nat} {D D' : DS} {L : List PR} (h : Trace E call ops B t s D L) (hs : drawStep E call ops B k D = some D') : ∃ L', Trace E call ops B t s D' L' ∧ (∀ j, D.bits.testBit j = true → D'.bits.testBit j = true) ∧ (k < ops.size → k < B.length → D'.bits.testBit k = true) := by
  unfold drawStep at hs
  split at hs
  · rename_i o bk ho hb
    cases hbit : D.bits.testBit k
    · simp only [hbit, cond_false] at hs
      cases h1 : Nat.beq (bk &&& D.bits) bk
      · simp [h1] at hs
      · simp only [h1, Bool.not_true, cond_false] at hs
        cases h2 : dstOk B bk k o.dst ops.toList 0
        · simp [h2] at hs
        · simp only [h2, Bool.not_true, cond_false] at hs
          split at hs
          · cases hs
          · rename_i v s1 hst
            have key : ∀ b : Bool, b = ((s1.dirty.filter (fun i => Nat.blt i D.s.next)).isEmpty || purePast ops bk D.recs) → b = true →
                ∃ L', Trace E call ops B t s (D.then ⟨k, o, D.s.next, D.s.ncap, s1, v, s1.dirty.filter (fun i => Nat.blt i D.s.next), s1.dirty.filter (fun i => Nat.blt i D.s.next) ++ newIds D.s.next s1.heap []⟩) L' := by
              intro b hb1 hb2
              refine ⟨_, .cons h (bk := bk) ⟨ho, hb, hbit, Nat.eq_of_beq_eq_true h1, h2, hst, rfl, rfl, rfl, rfl, ?_⟩⟩
              rw [hb2] at hb1
              have hb1 := hb1.symm
              simp only [Bool.or_eq_true] at hb1
              rcases hb1 with hb1 | hb1
              · exact .inl (List.isEmpty_iff.1 hb1)
              · exact .inr hb1
            cases hc : ((s1.dirty.filter (fun i => Nat.blt i D.s.next)).isEmpty || purePast ops bk D.recs)
            · simp [hc] at hs
            · simp only [hc, cond_true, Option.some.injEq] at hs
              subst hs
              obtain ⟨L', hL'⟩ := key _ rfl hc
              refine ⟨L', hL', fun j hj => ?_, fun _ _ => ?_⟩
              · show (D.bits ||| 2 ^ k).testBit j = true
                rw [Nat.testBit_or, hj]
                rfl
              · show (D.bits ||| 2 ^ k).testBit k = true
                rw [Nat.testBit_or, Nat.testBit_two_pow_self]
                simp
    · simp only [hbit, cond_true, Option.some.injEq] at hs
      subst hs
      exact ⟨L, h, fun j hj => hj, fun _ _ => hbit⟩
  · cases hs
theorem drawList_trace {call : Call1} {ops : Array Oper} {B : List Nat} {t : Sl} {s : St} : ∀ (l : List Nat) {D D' : DS} {L : List PR}, Trace E call ops B t s D L → drawList E call ops B l D = some D' → ∃ L', Trace E call ops B t s D' L' ∧ (∀ j, D.bits.testBit j = true → D'.bits.testBit j = true) ∧ (∀ k ∈ l, k < ops.size → k < B.length → D'.bits.testBit k = true)
  | [], D, D', L, h, hs => by
    simp only [drawList, Option.some.injEq] at hs
    subst hs
    exact ⟨L, h, fun j hj => hj, fun k hk => by cases hk⟩
  | k :: l, D, D', L, h, hs => by
    simp only [drawList] at hs
    split at hs
    · rename_i D1 h1
      obtain ⟨L1, g1, g2, g3⟩ := drawStep_trace h h1
      obtain ⟨L2, k1, k2, k3⟩ := drawList_trace l g1 hs
      refine ⟨L2, k1, fun j hj => k2 j (g2 j hj), fun j hj h1 h2 => ?_⟩
      cases hj with
      | head => exact k2 _ (g3 h1 h2)
      | tail _ hj => exact k3 j hj h1 h2
    · cases hs
theorem beforeA_length : ∀ (l : List Oper) (acc : List Nat) (k : Nat) (B : List Nat), beforeA l acc k = some B → B.length = acc.length + l.length
  | [], acc, k, B, h => by
    simp only [beforeA, Option.some.injEq] at h
    subst h
    rfl
  | o :: l, acc, k, B, h => by
    simp only [beforeA] at h
    split at h
    · rename_i b hb
      have := beforeA_length l _ _ B h
      simp at this ⊢
      omega
    · cases h
/-- What a trace is, in short. -/
structure TF (ops : Array Oper) (B : List Nat) (s : St) (D : DS) (L : List PR) : Prop where
  recs : D.recs = L.map (fun r => ⟨r.i, r.ids⟩)
  bits : ∀ j, D.bits.testBit j = true ↔ ∃ r ∈ L, r.i = j
  up : ∀ r ∈ L, r.s1.next ≤ D.s.next ∧ r.s1.ncap ≤ D.s.ncap ∧ s.next ≤ r.n ∧ s.ncap ≤ r.c ∧ r.n ≤ r.s1.next ∧ r.c ≤ r.s1.ncap
  s : s.next ≤ D.s.next ∧ s.ncap ≤ D.s.ncap
theorem trace_tf {call : Call1} (hup : CallUp call) {ops : Array Oper} {B : List Nat} {t : Sl} {s : St} {D : DS} {L : List PR} (h : Trace E call ops B t s D L) : TF ops B s D L := by
  induction h with
  | nil => exact ⟨rfl, fun j => (by simp), fun r hr => (by cases hr), Nat.le_refl _, Nat.le_refl _⟩
  | @cons D L r bk h k ih =>
    have hu := stepA_up hup k.st
    have hu1 : D.s.next ≤ r.s1.next := hu.1
    have hu2 : D.s.ncap ≤ r.s1.ncap := hu.2
    refine ⟨by simp [DS.then, ih.recs], fun j => ?_, fun r' hr' => ?_, Nat.le_trans ih.s.1 hu1, Nat.le_trans ih.s.2 hu2⟩
    · show (D.bits ||| 2 ^ r.i).testBit j = true ↔ _
      rw [Nat.testBit_or, Nat.testBit_two_pow, Bool.or_eq_true, ih.bits j]
      simp only [List.mem_cons, decide_eq_true_eq]
      constructor
      · rintro (⟨r', h1, h2⟩ | h1)
        · exact ⟨r', .inr h1, h2⟩
        · exact ⟨r, .inl rfl, h1⟩
      · rintro ⟨r', h1 | h1, h2⟩
        · subst h1
          exact .inr h2
        · exact .inl ⟨r', h1, h2⟩
    · cases hr' with
      | head =>
        refine ⟨Nat.le_refl _, Nat.le_refl _, ?_, ?_, ?_, ?_⟩
        · rw [k.n]; exact ih.s.1
        · rw [k.c]; exact ih.s.2
        · rw [k.n]; exact hu1
        · rw [k.c]; exact hu2
      | tail _ hr' =>
        obtain ⟨a1, a2, a3, a4, a5, a6⟩ := ih.up r' hr'
        exact ⟨Nat.le_trans a1 hu1, Nat.le_trans a2 hu2, a3, a4, a5, a6⟩
/-- A step in the middle of a trace. -/
theorem trace_at {call : Call1} (hup : CallUp call) {ops : Array Oper} {B : List Nat} {t : Sl} {s : St} {r : PR} {O : List PR} : ∀ (N : List PR) {D : DS}, Trace E call ops B t s D (N ++ r :: O) → ∃ D0 bk, Trace E call ops B t s D0 O ∧ SC E call ops B D0 r bk ∧
    ∀ r' ∈ N, r'.i ≠ r.i ∧ r.s1.next ≤ r'.n ∧ r.s1.ncap ≤ r'.c ∧ (r'.W = [] ∨ (B.getD r'.i 0).testBit r.i = true ∨ isPure r.o.op = true) ∧ bk.testBit r'.i = false
  | [], D, h => by
    cases h with
    | cons h k => exact ⟨_, _, h, k, fun r' hr' => by cases hr'⟩
  | p :: N, D, h => by
    cases h with
    | @cons D1 _ _ bk1 h k =>
      obtain ⟨D0, bk, g1, g2, g3⟩ := trace_at hup N h
      refine ⟨D0, bk, g1, g2, fun r' hr' => ?_⟩
      cases hr' with
      | head =>
        have tf := trace_tf hup h
        have hr : r ∈ N ++ r :: O := by simp
        have hne : p.i ≠ r.i := by
          intro e
          have := (tf.bits p.i).2 ⟨r, hr, e.symm⟩
          rw [k.nb] at this
          cases this
        have hu := tf.up r hr
        refine ⟨hne, by rw [k.n]; exact hu.1, by rw [k.c]; exact hu.2.1, ?_, ?_⟩
        · rcases k.pp with h1 | h1
          · exact .inl h1
          · right
            rw [tf.recs] at h1
            have hB : B.getD p.i 0 = bk1 := by rw [List.getD_eq_getElem?_getD, k.hb]; rfl
            rw [hB]
            have : ∀ l : List PR, purePast ops bk1 (l.map (fun r => (⟨r.i, r.ids⟩ : Rec))) = true → ∀ q ∈ l, bk1.testBit q.i = true ∨ (match ops[q.i]? with | some o => isPure o.op | none => false) = true := by
              intro l
              induction l with
              | nil => intro _ q hq; cases hq
              | cons x l ih =>
                intro hp q hq
                simp only [List.map_cons, purePast, Bool.and_eq_true, Bool.or_eq_true] at hp
                cases hq with
                | head => exact hp.1
                | tail _ hq => exact ih hp.2 q hq
            rcases this _ h1 r hr with h2 | h2
            · exact .inl h2
            · rw [g2.ho] at h2
              exact .inr h2
        · cases hbt : bk.testBit p.i
          · rfl
          · exfalso
            have h1 : D0.bits.testBit p.i = true := by
              have := congrArg (fun z => z.testBit p.i) g2.su
              simp only [Nat.testBit_and, hbt, Bool.true_and] at this
              exact this
            obtain ⟨q, hq, he⟩ := ((trace_tf hup g1).bits p.i).1 h1
            have := (tf.bits p.i).2 ⟨q, by simp [hq], he⟩
            rw [k.nb] at this
            cases this
      | tail _ hr' => exact g3 r' hr'
end
end Ab
end Go.Proofs.Ytddiclnkfhldlaa
namespace Go.Proofs.Ytddiclnkfhldlaa
namespace Ab
set_option linter.unusedVariables false
set_option linter.unusedSimpArgs false
section
variable {P : Program} {V : Nat → Value} {E : Env}
/-- What is known of a block behind some steps, the latest first. -/
def Hist (s : St) : List PR → Nat → Blk → Prop
  | [], i, B => look s.heap i = some B
  | r :: L, i, B => (i ∈ r.ids ∧ look r.s1.heap i = some B) ∨ (i ∉ r.W ∧ Hist s L i B)
def tfold (t : Sl) : List PR → Sl
  | [] => t
  | r :: L => put (tfold t L) r.o.dst r.v
theorem newIds_acc (n : Nat) : ∀ (H : List (Nat × Blk)) (acc : List Nat) (i : Nat), i ∈ newIds n H acc ↔ i ∈ acc ∨ i ∈ newIds n H []
  | [], acc, i => by simp [newIds]
  | x :: r, acc, i => by
    simp only [newIds]
    cases hb : Nat.ble n x.1
    · simp
    · simp only [cond_true]
      rw [newIds_acc n r (x.1 :: acc), newIds_acc n r [x.1]]
      simp only [List.mem_cons, List.not_mem_nil, or_false]
      constructor
      · rintro ((h | h) | h)
        · exact .inr (.inl h)
        · exact .inl h
        · exact .inr (.inr h)
      · rintro (h | h | h)
        · exact .inl (.inr h)
        · exact .inl (.inl h)
        · exact .inr h
theorem newIds_ge (n : Nat) : ∀ (H : List (Nat × Blk)) (i : Nat), i ∈ newIds n H [] → n ≤ i
  | [], i, h => by simp [newIds] at h
  | x :: r, i, h => by
    simp only [newIds] at h
    cases hb : Nat.ble n x.1
    · simp [hb] at h
    · simp only [hb, cond_true] at h
      rw [newIds_acc] at h
      rcases h with h | h
      · simp only [List.mem_cons, List.not_mem_nil, or_false] at h
        rw [h]
        exact Nat.le_of_ble_eq_true hb
      · exact newIds_ge n r i h
theorem layNew_look (n : Nat) (H : List (Nat × Blk)) : ∀ (H' : List (Nat × Blk)) (i : Nat) (B : Blk), look (layNew n H' H) i = some B → (i ∈ newIds n H' [] ∧ look H' i = some B) ∨ look H i = some B
  | [], i, B, h => .inr h
  | x :: r, i, B, h => by
    simp only [layNew] at h
    cases hb : Nat.ble n x.1
    · simp only [hb, cond_false] at h
      exact .inr h
    · simp only [hb, cond_true] at h
      simp only [newIds, hb, cond_true]
      rw [newIds_acc]
      rw [look_cons] at h ⊢
      by_cases hx : x.1 = i
      · rw [if_pos hx] at h ⊢
        exact .inl ⟨.inl (by simp [hx]), h⟩
      · rw [if_neg hx] at h ⊢
        rcases layNew_look n H r i B h with ⟨h1, h2⟩ | h1
        · exact .inl ⟨.inr h1, h2⟩
        · exact .inr h1
theorem layW_look (H' : List (Nat × Blk)) : ∀ (W : List Nat) (H : List (Nat × Blk)) (j : Nat) (B : Blk), look (layW H' W H) j = some B → (j ∈ W ∧ look H' j = some B) ∨ (j ∉ W ∧ look H j = some B)
  | [], H, j, B, h => .inr ⟨by simp, h⟩
  | i :: r, H, j, B, h => by
    simp only [layW] at h
    split at h
    · rename_i B0 h0
      rcases layW_look H' r _ j B h with ⟨h1, h2⟩ | ⟨h1, h2⟩
      · exact .inl ⟨List.mem_cons_of_mem _ h1, h2⟩
      · rw [look_upd] at h2
        by_cases hj : j = i
        · subst hj
          rw [if_pos rfl] at h2
          cases hq : look H j with
          | none => simp [hq] at h2
          | some C =>
            simp only [hq, Option.map_some, Option.some.injEq] at h2
            subst h2
            exact .inl ⟨by simp, h0⟩
        · rw [if_neg hj] at h2
          exact .inr ⟨by simp [hj, h1], h2⟩
    · rename_i h0
      rcases layW_look H' r _ j B h with ⟨h1, h2⟩ | ⟨h1, h2⟩
      · exact .inl ⟨List.mem_cons_of_mem _ h1, h2⟩
      · rw [look_del] at h2
        by_cases hj : j = i
        · simp [hj] at h2
        · rw [if_neg hj] at h2
          exact .inr ⟨by simp [hj, h1], h2⟩
theorem trace_hist {call : Call1} {ops : Array Oper} {B : List Nat} {t : Sl} {s : St} {D : DS} {L : List PR} (h : Trace E call ops B t s D L) : D.t = tfold t L ∧ (∀ i C, look D.s.heap i = some C → Hist s L i C) ∧ (∀ j ∈ D.s.dirty, j ∈ s.dirty ∨ ∃ r ∈ L, j ∈ r.W) ∧ (∀ r ∈ L, ∀ j ∈ r.W, j ∈ D.s.dirty) ∧ (∀ j ∈ s.dirty, j ∈ D.s.dirty) := by
  induction h with
  | nil => exact ⟨rfl, fun i C h => h, fun j h => .inl h, fun r hr => (by cases hr), fun j h => h⟩
  | @cons D L r bk h k ih =>
    obtain ⟨h1, h2, h3, h4, h5⟩ := ih
    refine ⟨by simp [DS.then, tfold, h1], fun i C hC => ?_, fun j hj => ?_, fun r' hr' j hj => ?_, fun j hj => List.mem_append_right _ (h5 j hj)⟩
    · rcases layNew_look _ _ _ i C hC with ⟨g1, g2⟩ | g1
      · exact .inl ⟨by rw [k.ids]; exact List.mem_append_right _ g1, g2⟩
      · rcases layW_look _ _ _ i C g1 with ⟨g2, g3⟩ | ⟨g2, g3⟩
        · exact .inl ⟨by rw [k.ids]; exact List.mem_append_left _ g2, g3⟩
        · exact .inr ⟨g2, h2 i C g3⟩
    · rcases List.mem_append.1 hj with hj | hj
      · exact .inr ⟨r, by simp, hj⟩
      · rcases h3 j hj with h6 | ⟨r', h6, h7⟩
        · exact .inl h6
        · exact .inr ⟨r', by simp [h6], h7⟩
    · cases hr' with
      | head => exact List.mem_append_left _ hj
      | tail _ hr' => exact List.mem_append_right _ (h4 r' hr' j hj)
theorem hasN_iff : ∀ (l : List Nat) (i : Nat), hasN l i = true ↔ i ∈ l
  | [], i => by simp [hasN]
  | x :: r, i => by
    simp only [hasN]
    by_cases h : x = i
    · subst h
      simp
    · simp only [beq_no h, cond_false, hasN_iff r i, List.mem_cons]
      constructor
      · exact .inr
      · rintro (h1 | h1)
        · exact absurd h1.symm h
        · exact h1
theorem hide_look (l : List Nat) : ∀ (H : List (Nat × Blk)) (i : Nat) (B : Blk), look (hideA l H) i = some B → i ∉ l ∧ look H i = some B
  | [], i, B, h => by simp [hideA, look] at h
  | x :: r, i, B, h => by
    simp only [hideA] at h
    cases hb : hasN l x.1
    · simp only [hb, cond_false] at h
      rw [look_cons] at h ⊢
      by_cases hx : x.1 = i
      · rw [if_pos hx] at h ⊢
        refine ⟨fun hm => ?_, h⟩
        rw [hx, (hasN_iff l i).2 hm] at hb
        cases hb
      · rw [if_neg hx] at h ⊢
        exact hide_look l r i B h
    · simp only [hb, cond_true] at h
      obtain ⟨h1, h2⟩ := hide_look l r i B h
      have hm := (hasN_iff l x.1).1 hb
      refine ⟨h1, ?_⟩
      rw [look_cons, if_neg (show ¬ x.1 = i from fun e => h1 (by rw [← e]; exact hm))]
      exact h2
theorem hidden_iff (bk : Nat) : ∀ (L : List PR) (i : Nat), i ∉ hiddenOf bk (L.map (fun r => (⟨r.i, r.ids⟩ : Rec))) → ∀ r ∈ L, bk.testBit r.i = true ∨ i ∉ r.ids
  | [], i, _, r, hr => by cases hr
  | x :: L, i, h, r, hr => by
    simp only [List.map_cons, hiddenOf] at h
    cases hb : bk.testBit x.i
    · simp only [hb, cond_false, List.mem_append, not_or] at h
      cases hr with
      | head => exact .inr h.1
      | tail _ hr => exact hidden_iff bk L i h.2 r hr
    · simp only [hb, cond_true] at h
      cases hr with
      | head => exact .inl hb
      | tail _ hr => exact hidden_iff bk L i h r hr
/-- The steps of a set. -/
def only (X : Nat → Bool) (L : List PR) : List PR := L.filter (fun r => X r.i)
theorem hist_only {s : St} {bk : Nat} {X : Nat → Bool} : ∀ (L : List PR) (i : Nat) (B : Blk), Hist s L i B → (∀ r ∈ L, bk.testBit r.i = true ∨ i ∉ r.ids) → (∀ r ∈ L, bk.testBit r.i = true → X r.i = true) → Hist s (only X L) i B
  | [], i, B, h, _, _ => h
  | r :: L, i, B, h, h1, h2 => by
    unfold only
    rcases h with ⟨g1, g2⟩ | ⟨g1, g2⟩
    · have hx : X r.i = true := by
        rcases h1 r (by simp) with h3 | h3
        · exact h2 r (by simp) h3
        · exact absurd g1 h3
      rw [List.filter_cons_of_pos (by exact hx)]
      exact .inl ⟨g1, g2⟩
    · have ih := hist_only (X := X) L i B g2 (fun r' hr' => h1 r' (by simp [hr'])) (fun r' hr' => h2 r' (by simp [hr']))
      cases hx : X r.i
      · rw [List.filter_cons_of_neg (by simp [hx])]
        exact ih
      · rw [List.filter_cons_of_pos (by exact hx)]
        exact .inr ⟨g1, ih⟩
theorem hist_newer {s : St} : ∀ (N O : List PR) (i : Nat) (B : Blk), Hist s O i B → (∀ r ∈ N, i ∉ r.W) → Hist s (N ++ O) i B
  | [], O, i, B, h, _ => h
  | r :: N, O, i, B, h, h1 => .inr ⟨h1 r (by simp), hist_newer N O i B h (fun r' hr' => h1 r' (by simp [hr']))⟩
/-- Where a fact comes from. -/
theorem hist_split {s : St} : ∀ (N O : List PR) (i : Nat) (B : Blk), Hist s (N ++ O) i B → (∃ r ∈ N, i ∈ r.ids) ∨ ((∀ r ∈ N, i ∉ r.W) ∧ Hist s O i B)
  | [], O, i, B, h => .inr ⟨fun r hr => (by cases hr), h⟩
  | r :: N, O, i, B, h => by
    rcases h with ⟨h1, _⟩ | ⟨h1, h2⟩
    · exact .inl ⟨r, by simp, h1⟩
    · rcases hist_split N O i B h2 with ⟨r', h3, h4⟩ | ⟨h3, h4⟩
      · exact .inl ⟨r', by simp [h3], h4⟩
      · refine .inr ⟨fun r' hr' => ?_, h4⟩
        cases hr' with
        | head => exact h1
        | tail _ hr' => exact h3 r' hr'
/-- A step laid in the middle changes nothing of what the later ones touched. -/
theorem hist_mid {s : St} (r : PR) : ∀ (N O : List PR) (i : Nat) (B : Blk), Hist s (N ++ r :: O) i B → (i ∈ r.ids ∧ look r.s1.heap i = some B ∧ ∀ r' ∈ N, i ∉ r'.W) ∨ (Hist s (N ++ O) i B ∧ (i ∉ r.W ∨ ∃ r' ∈ N, i ∈ r'.ids))
  | [], O, i, B, h => by
    rcases h with ⟨h1, h2⟩ | ⟨h1, h2⟩
    · exact .inl ⟨h1, h2, fun r' hr' => (by cases hr')⟩
    · exact .inr ⟨h2, .inl h1⟩
  | q :: N, O, i, B, h => by
    rcases h with ⟨h1, h2⟩ | ⟨h1, h2⟩
    · exact .inr ⟨.inl ⟨h1, h2⟩, .inr ⟨q, by simp, h1⟩⟩
    · rcases hist_mid r N O i B h2 with ⟨g1, g2, g3⟩ | ⟨g1, g2⟩
      · refine .inl ⟨g1, g2, fun r' hr' => ?_⟩
        cases hr' with
        | head => exact h1
        | tail _ hr' => exact g3 r' hr'
      · refine .inr ⟨.inr ⟨h1, g1⟩, ?_⟩
        rcases g2 with g2 | ⟨r', g2, g3⟩
        · exact .inl g2
        · exact .inr ⟨r', by simp [g2], g3⟩
theorem lget_put (t : Sl) (d : Option Nat) (v : AV) (e : Nat) : lget (put t d v) e = if d = some e ∧ e < t.length then v else lget t e := by
  cases d with
  | none => simp [put]
  | some d =>
    simp only [put, lget_lset, Option.some.injEq]
    by_cases h : e = d
    · subst h
      simp
    · rw [if_neg (by simp [h]), if_neg (by simp [Ne.symm h])]
theorem tfold_length (t : Sl) : ∀ L, (tfold t L).length = t.length
  | [] => rfl
  | r :: L => by rw [tfold, put_length, tfold_length t L]
theorem tfold_mid (t : Sl) (r : PR) (e : Nat) : ∀ (N O : List PR), (∀ r' ∈ N, ∀ d, r'.o.dst = some d → r.o.dst ≠ some d) → lget (tfold t (N ++ r :: O)) e = lget (put (tfold t (N ++ O)) r.o.dst r.v) e
  | [], O, _ => rfl
  | q :: N, O, h => by
    have ih := tfold_mid t r e N O (fun r' hr' => h r' (by simp [hr']))
    show lget (put (tfold t (N ++ r :: O)) q.o.dst q.v) e = lget (put (put (tfold t (N ++ O)) q.o.dst q.v) r.o.dst r.v) e
    rw [lget_put, lget_put, lget_put, ih, lget_put, put_length, tfold_length, tfold_length]
    by_cases h1 : q.o.dst = some e ∧ e < t.length
    · have h2 := h q (by simp) e h1.1
      rw [if_pos h1, if_neg (fun h3 => h2 h3.1), if_pos h1]
    · rw [if_neg h1, if_neg h1]
/-- A slot that no step outside writes. -/
theorem tfold_only (t : Sl) (X : Nat → Bool) (e : Nat) : ∀ (L : List PR), (∀ r ∈ L, X r.i = false → r.o.dst ≠ some e) → lget (tfold t (only X L)) e = lget (tfold t L) e
  | [], _ => rfl
  | r :: L, h => by
    have ih := tfold_only t X e L (fun r' hr' => h r' (by simp [hr']))
    unfold only at ih ⊢
    cases hx : X r.i
    · rw [List.filter_cons_of_neg (by simp [hx]), ih]
      show _ = lget (put (tfold t L) r.o.dst r.v) e
      rw [lget_put, if_neg (fun h1 => h r (by simp) hx h1.1)]
    · rw [List.filter_cons_of_pos (by exact hx)]
      show lget (put (tfold t (L.filter _)) r.o.dst r.v) e = lget (put (tfold t L) r.o.dst r.v) e
      rw [lget_put, lget_put, ih, tfold_length, tfold_length]
theorem tfold_newer (t : Sl) (e : Nat) : ∀ (N O : List PR), (∀ r ∈ N, r.o.dst ≠ some e) → lget (tfold t (N ++ O)) e = lget (tfold t O) e
  | [], O, _ => rfl
  | r :: N, O, h => by
    show lget (put (tfold t (N ++ O)) r.o.dst r.v) e = _
    rw [lget_put, if_neg (fun h1 => h r (by simp) h1.1)]
    exact tfold_newer t e N O (fun r' hr' => h r' (by simp [hr']))
/-- The masked slots. -/
theorem mask_look (B : List Nat) (bk k e : Nat) : ∀ (l : List Oper) (j : Nat) (t : Sl), lget (maskA B bk k l j t) e = .any ∨ (lget (maskA B bk k l j t) e = lget t e ∧ ∀ (m : Nat) (o : Oper), l[m]? = some o → j + m ≠ k → bk.testBit (j + m) = false → (B.getD (j + m) 0).testBit k = false → e < t.length → o.dst ≠ some e)
  | [], j, t => .inr ⟨rfl, fun m o h => by simp at h⟩
  | o :: l, j, t => by
    rw [maskA_cons]
    cases hb : (Nat.beq j k || bk.testBit j || (B.getD j 0).testBit k)
    · simp only [cond_false]
      rcases mask_look B bk k e l (j + 1) (put t o.dst .any) with h | ⟨h1, h2⟩
      · exact .inl h
      · rw [lget_put] at h1
        by_cases hd : o.dst = some e ∧ e < t.length
        · rw [if_pos hd] at h1
          exact .inl h1
        · rw [if_neg hd] at h1
          refine .inr ⟨h1, fun m o' ho' g1 g2 g3 g4 => ?_⟩
          cases m with
          | zero =>
            simp only [List.getElem?_cons_zero, Option.some.injEq] at ho'
            subst ho'
            exact fun h3 => hd ⟨h3, g4⟩
          | succ m =>
            simp only [List.getElem?_cons_succ] at ho'
            rw [show j + (m + 1) = j + 1 + m by omega] at g1 g2 g3
            exact h2 m o' ho' g1 g2 g3 (by rw [put_length]; exact g4)
    · simp only [cond_true]
      rcases mask_look B bk k e l (j + 1) t with h | ⟨h1, h2⟩
      · exact .inl h
      · refine .inr ⟨h1, fun m o' ho' g1 g2 g3 g4 => ?_⟩
        cases m with
        | zero =>
          exfalso
          simp only [Nat.add_zero] at g1 g2 g3
          rw [g2, g3, beq_no g1] at hb
          cases hb
        | succ m =>
          simp only [List.getElem?_cons_succ] at ho'
          rw [show j + (m + 1) = j + 1 + m by omega] at g1 g2 g3
          exact h2 m o' ho' g1 g2 g3 g4
theorem dstOk_ok (B : List Nat) (bk k : Nat) (d : Option Nat) : ∀ (l : List Oper) (j : Nat), dstOk B bk k d l j = true → ∀ (m : Nat) (o : Oper), l[m]? = some o → j + m ≠ k → bk.testBit (j + m) = false → (B.getD (j + m) 0).testBit k = false → ∀ e, o.dst = some e → d ≠ some e
  | [], j, _, m, o, h, _, _, _, _, _ => by simp at h
  | o :: l, j, h, m, o', ho', g1, g2, g3, e, he => by
    simp only [dstOk, Bool.and_eq_true] at h
    cases m with
    | zero =>
      simp only [List.getElem?_cons_zero, Option.some.injEq] at ho'
      subst ho'
      simp only [Nat.add_zero] at g1 g2 g3
      rw [g2, g3, beq_no g1] at h
      intro hd
      rw [hd, he] at h
      simp [sameDst] at h
    | succ m =>
      simp only [List.getElem?_cons_succ] at ho'
      rw [show j + (m + 1) = j + 1 + m by omega] at g1 g2 g3
      exact dstOk_ok B bk k d l (j + 1) h.2 m o' ho' g1 g2 g3 e he
theorem pure_op {call : Call1} {t : Sl} {s s' : St} {o : Oper} {v : AV} (hp : isPure o.op = true) (h : opA E call t s o = some (v, s')) : s' = s ∧ ∀ s2, opA E call t s2 o = some (v, s2) := by
  unfold opA at h ⊢
  cases hop : o.op
  case call c =>
    rw [hop] at hp
    simp only [hop, Bool.cond_eq_ite] at h ⊢
    cases hc : c.callee with
    | value f => simp [isPure, hc] at hp
    | invoke r m => simp [isPure, hc] at hp
    | builtin b =>
      cases b <;> simp [isPure, hc] at hp <;> simp only [hc] at h ⊢ <;> (repeat' split at h) <;> first
        | (cases h; done)
        | (simp only [Option.some.injEq, Prod.mk.injEq] at h
           obtain ⟨rfl, rfl⟩ := h
           exact ⟨rfl, fun s2 => by simp_all⟩)
  case makeFunc fn first captured =>
    simp only [hop] at h ⊢
    cases fn with
    | func f =>
      simp only at h ⊢
      split at h
      · rename_i h1 h2
        simp only [Option.some.injEq, Prod.mk.injEq] at h
        obtain ⟨rfl, rfl⟩ := h
        exact ⟨rfl, fun s2 => rfl⟩
      · cases h
    | method n => cases h
    | methodOf t n => cases h
    | via t p f q => cases h
    | yield l => cases h
  all_goals (rw [hop] at hp)
  all_goals (try exact (Bool.false_ne_true hp).elim)
  all_goals (simp only [hop, Bool.cond_eq_ite] at h ⊢)
  all_goals ((repeat' split at h) <;> first
    | (cases h; done)
    | (simp only [Option.some.injEq, Prod.mk.injEq] at h
       obtain ⟨rfl, rfl⟩ := h
       exact ⟨rfl, fun s2 => by simp_all⟩))
end
end Ab
end Go.Proofs.Ytddiclnkfhldlaa
