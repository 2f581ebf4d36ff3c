/-
  Regions and code: what the interpreter says of them, they do.
  Conditions: none.
-/
import Derived.Test.YtbfppnppijcnlaaGreatAbsV
import Derived.Below
namespace Go.Proofs.YtbfppnppijcnlaaGreat
namespace Ab
set_option linter.unusedVariables false
set_option linter.unusedSimpArgs false
section
variable {P : Program} {V : Nat → Value} {E : Env}
noncomputable def Up (s s' : St) : Prop := s.next ≤ s'.next ∧ s.ncap ≤ s'.ncap
theorem Up.refl (s : St) : Up s s := ⟨Nat.le_refl _, Nat.le_refl _⟩
theorem Up.trans {a b c : St} (h : Up a b) (k : Up b c) : Up a c := ⟨Nat.le_trans h.1 k.1, Nat.le_trans h.2 k.2⟩
theorem storeA_up {s s' : St} {ty : Nat} {a v : AV} (h : storeA E s ty a v = some s') : Up s s' := by
  unfold storeA at h
  simp only [Bool.cond_eq_ite] at h
  (repeat' split at h) <;> first | cases h; done | (injection h with h; subst h; exact ⟨Nat.le_refl _, Nat.le_refl _⟩)
theorem sliceA_up {s s' : St} {ty : Nat} {x v : AV} {lo hi mx : Option AV} (h : sliceA E s ty x lo hi mx = some (v, s')) : Up s s' := by
  unfold sliceA at h
  simp only [Bool.cond_eq_ite] at h
  (repeat' split at h) <;> first | cases h; done | (simp only [Option.some.injEq, Prod.mk.injEq] at h; obtain ⟨_, rfl⟩ := h; exact ⟨by simp, by simp⟩)
theorem appendA_up {s s' : St} {tys : Array Nat} {x y v : AV} (h : appendA E s tys x y = some (v, s')) : Up s s' := by
  unfold appendA at h
  simp only [Bool.cond_eq_ite] at h
  (repeat' split at h) <;> first | cases h; done | (simp only [Option.some.injEq, Prod.mk.injEq] at h; obtain ⟨_, rfl⟩ := h; exact ⟨by simp [St.new], by simp [St.new]⟩)
theorem clearA_up {s s' : St} {tys : Array Nat} {x : AV} (h : clearA E s tys x = some s') : Up s s' := by
  unfold clearA at h
  simp only [Bool.cond_eq_ite] at h
  (repeat' split at h) <;> first | cases h; done | (simp only [Option.some.injEq] at h; subst h; exact ⟨by simp, by simp⟩)
theorem makeSliceA_up {s s' : St} {ty : Nat} {x y v : AV} (h : makeSliceA E s ty x y = some (v, s')) : Up s s' := by
  unfold makeSliceA at h
  (repeat' split at h) <;> first | cases h; done | (simp only [Option.some.injEq, Prod.mk.injEq] at h; obtain ⟨_, rfl⟩ := h; exact ⟨by simp [St.new], by simp [St.new]⟩)
theorem opA_up {call : Call1} (hc : CallUp call) {t : Sl} {s s' : St} {o : Oper} {v : AV} (h : opA E call t s o = some (v, s')) : Up s s' := by
  simp only [opA_eq] at h
  unfold opA0 at h
  simp only [Bool.cond_eq_ite] at h
  (repeat' split at h) <;> first
    | (cases h; done)
    | exact hc _ _ _ _ _ h
    | exact makeSliceA_up h
    | exact sliceA_up h
    | exact appendA_up h
    | (simp only [Option.some.injEq, Prod.mk.injEq] at h; obtain ⟨_, rfl⟩ := h; first | exact Up.refl _ | exact ⟨by simp [St.new], by simp [St.new]⟩ | exact storeA_up (by assumption) | exact clearA_up (by assumption))
theorem stepA_up {call : Call1} (hc : CallUp call) {ops : Array Oper} {t : Sl} {s s' : St} {o : Oper} {v : AV} (h : stepA E call ops t s o = some (v, s')) : Up s s' := by
  simp only [stepA_eq] at h
  unfold stepA0 at h
  split at h
  · exact opA_up hc h
  · simp only [Option.some.injEq, Prod.mk.injEq] at h
    obtain ⟨_, rfl⟩ := h
    exact Up.refl _
  · cases h
theorem opsA_up {call : Call1} (hc : CallUp call) {ops : Array Oper} : ∀ (l : List Oper) {t t' : Sl} {s s' : St}, opsA E call ops l t s = some (t', s') → Up s s'
  | [], t, t', s, s', h => by
    simp only [opsA, Option.some.injEq, Prod.mk.injEq] at h
    obtain ⟨_, rfl⟩ := h
    exact Up.refl _
  | o :: l, t, t', s, s', h => by
    simp only [opsA] at h
    split at h
    · rename_i v s1 h1
      exact (stepA_up hc h1).trans (opsA_up hc l h)
    · cases h
/-- The slots behind a write. -/
theorem tr_put {ρ : Rho} {t : Sl} {a : Act} {v : AV} {c : Value} (ht : TR V ρ t a) (hv : VR V ρ v c) (d : Option Nat) : TR V ρ (put t d v) (a.put d c) := by
  cases d with
  | none => exact ht
  | some d =>
    refine ⟨by simp [put, Act.put, lset_length, ht.z], fun e => ?_, ht.df⟩
    simp only [put, Act.put, lget_lset]
    by_cases h1 : e = d ∧ d < t.length
    · rw [if_pos h1]
      have : (a.tmps.setIfInBounds d c).getD e undef = c := by
        obtain ⟨rfl, h2⟩ := h1
        have h3 : e < a.tmps.size := by rw [ht.z]; exact h2
        simp [Array.getD, h3]
      rw [this]
      exact hv
    · rw [if_neg h1]
      have : (a.tmps.setIfInBounds d c).getD e undef = a.tmps.getD e undef := by
        by_cases h2 : e = d
        · subst h2
          have h3 : ¬ e < t.length := fun h => h1 ⟨rfl, h⟩
          have h4 : ¬ e < a.tmps.size := by rw [ht.z]; exact h3
          simp [Array.getD, h4]
        · simp only [Array.getD_eq_getD_getElem?, Array.getElem?_setIfInBounds, if_neg (Ne.symm h2)]
      rw [this]
      exact ht.v e
/-- Whether an operation is wanted. -/
theorem want_ok {ρ : Rho} {ops : Array Oper} {t : Sl} {a : Act} {o : Oper} {b : Bool} (ht : TR V ρ t a) (h : wantA ops t o = some b) : Region.wanted o (yielded ops a.tmps) = b := by
  simp only [wantA_eq] at h
  unfold wantA0 at h
  unfold Region.wanted
  cases hg : o.guard with
  | none =>
    simp only [hg, Option.some.injEq] at h
    exact h
  | some jb =>
    obtain ⟨j, wnt⟩ := jb
    simp only [hg] at h ⊢
    cases hd : (ops[j]?).bind (·.dst) with
    | none =>
      simp only [hd, Option.some.injEq] at h
      subst h
      simp [yielded, hd]
    | some d =>
      simp only [hd] at h
      have hv := ht.v d
      split at h
      · rename_i b' he
        rw [he] at hv
        have hv : a.tmps.getD d undef = .bool b' := hv
        simp only [Option.some.injEq] at h
        subst h
        have : a.tmps[d]? = some (.bool b') := by
          by_cases h3 : d < a.tmps.size
          · simp [Array.getD, h3] at hv
            simp [h3, hv]
          · simp [Array.getD, h3, undef] at hv
        simp [yielded, hd, this]
      · rename_i he
        rw [he] at hv
        have hv : a.tmps.getD d undef = undef := hv
        simp only [Option.some.injEq] at h
        subst h
        have : ∀ q, a.tmps[d]? ≠ some (.bool q) := by
          intro q hq
          have h3 := (Array.getElem?_eq_some_iff.1 hq)
          obtain ⟨h3, h4⟩ := h3
          simp [Array.getD, h3] at hv
          rw [hv] at h4
          cases h4
        have hy : yielded ops a.tmps j = none := by
          unfold yielded
          rw [hd]
          simp only [Option.bind_some]
        rw [hy]
        try rfl
      · cases h
/-- One operation of a region. -/
theorem step_ok (hE : EnvOK P V E) {call : Call1} (hcall : CallOK P V call) (hfn : CallFn E call) {ops : Array Oper} {t : Sl} {s s' : St} {i : Nat} {o : Oper} {v : AV} (hi : ops[i]? = some o) (h : stepA E call ops t s o = some (v, s')) {ρ : Rho} {a : Act} {w : World} (ht : TR V ρ t a) (hr : Rep V ρ s w) (hf : Free ρ s s')
    {K : Act → World → Prop} {Q : Exit → Act → World → Prop} (hK : ∀ ρ' c w', Goes V ρ s w s' w' ρ' → VR V ρ' v c → K (a.put o.dst c) w') : wpOp P ops Q i K a w := by
  unfold wpOp
  rw [hi]
  simp only
  simp only [stepA_eq] at h
  unfold stepA0 at h
  split at h
  · rename_i hw
    rw [want_ok ht hw, if_pos rfl]
    exact .inl (opA_ok hE hcall hfn h ρ a w ht hr hf K Q hK)
  · rename_i hw
    rw [want_ok ht hw]
    simp only [Option.some.injEq, Prod.mk.injEq] at h
    obtain ⟨rfl, rfl⟩ := h
    simp only [Bool.false_eq_true, if_false]
    exact hK ρ undef w (Goes.refl V hr) rfl
  · cases h
/-- A region in its own order. -/
theorem ops_ok (hE : EnvOK P V E) {call : Call1} (hcall : CallOK P V call) (hfn : CallFn E call) (hup : CallUp call) {ops : Array Oper} {Q : Exit → Act → World → Prop} : ∀ (l : List Oper) (k : Nat), ops.toList.drop k = l → ∀ {t t' : Sl} {s s' : St}, opsA E call ops l t s = some (t', s') → ∀ {ρ : Rho} {a : Act} {w : World}, TR V ρ t a → Rep V ρ s w → Free ρ s s' →
    (∀ ρ' a' w', Goes V ρ s w s' w' ρ' → TR V ρ' t' a' → Q .normal a' w') → wpOps P ops Q (List.range' k l.length) a w
  | [], k, hk, t, t', s, s', h, ρ, a, w, ht, hr, hf, hQ => by
    simp only [opsA, Option.some.injEq, Prod.mk.injEq] at h
    obtain ⟨rfl, rfl⟩ := h
    exact hQ ρ a w (Goes.refl V hr) ht
  | o :: l, k, hk, t, t', s, s', h, ρ, a, w, ht, hr, hf, hQ => by
    simp only [opsA] at h
    split at h
    · rename_i v s1 h1
      have hi : ops[k]? = some o := by
        have := congrArg (fun l : List Oper => l[0]?) hk
        simpa using this
      have hk' : ops.toList.drop (k + 1) = l := by
        rw [← List.drop_drop, hk]
        rfl
      have hup1 := opsA_up hup l h
      rw [List.length_cons, List.range'_succ, wpOps_cons]
      refine step_ok hE hcall hfn hi h1 ht hr (hf.left hup1.1 hup1.2) ?_
      intro ρ1 c w1 hg hv
      refine ops_ok hE hcall hfn hup l (k + 1) hk' h (tr_put (ht.mono V hg.2.2) hv o.dst) hg.1 (hf.right hg.2.1) ?_
      intro ρ2 a2 w2 hg2 ht2
      exact hQ ρ2 a2 w2 (hg.trans V hg2) ht2
    · cases h
/-- How code ends. -/
noncomputable def AEx : AE → Exit
  | .normal => .normal
  | .ret => .ret
  | .exit id => .exit id
abbrev Draw1 := Array Oper → Sl → St → Option (Sl × St)
noncomputable def DrawOK (P : Program) (V : Nat → Value) (dr : Draw1) : Prop :=
  ∀ ops t s t' s', dr ops t s = some (t', s') → ∀ id ρ a w, TR V ρ t a → Rep V ρ s w → Free ρ s s' → ∀ Q : Exit → Act → World → Prop, (∀ ρ' a' w', Goes V ρ s w s' w' ρ' → TR V ρ' t' a' → Q .normal a' w') → (Code.region id ops true).wp P Q a w
noncomputable def DrawUp (dr : Draw1) : Prop := ∀ ops t s t' s', dr ops t s = some (t', s') → Up s s'
theorem codeA_up {call : Call1} {dr : Draw1} (hc : CallUp call) (hd : DrawUp dr) : ∀ (n : Nat) (c : Code) {t t' : Sl} {s s' : St} {e : AE}, codeA E call dr n c t s = some (e, t', s') → Up s s'
  | 0, c, t, t', s, s', e, h => by simp [codeA] at h
  | n + 1, c, t, t', s, s', e, h => by
    cases c with
    | skip =>
      simp only [codeA, Option.some.injEq, Prod.mk.injEq] at h
      obtain ⟨_, _, rfl⟩ := h
      exact Up.refl _
    | region id ops draw =>
      simp only [codeA] at h
      split at h
      · rename_i t1 s1 h1
        simp only [Option.some.injEq, Prod.mk.injEq] at h
        obtain ⟨_, _, rfl⟩ := h
        cases draw
        · exact opsA_up hc _ h1
        · exact hd _ _ _ _ _ h1
      · cases h
    | seq x y =>
      simp only [codeA] at h
      split at h
      · rename_i t1 s1 h1
        exact (codeA_up hc hd n x h1).trans (codeA_up hc hd n y h)
      · exact codeA_up hc hd n x h
    | cond b x y =>
      simp only [codeA] at h
      split at h
      · exact codeA_up hc hd n _ h
      · cases h
    | block id b =>
      simp only [codeA] at h
      split at h
      · rename_i j t1 s1 h1
        have := codeA_up hc hd n b h1
        split at h
        · simp only [Option.some.injEq, Prod.mk.injEq] at h
          obtain ⟨_, _, rfl⟩ := h
          exact this
        · simp only [Option.some.injEq, Prod.mk.injEq] at h
          obtain ⟨_, _, rfl⟩ := h
          exact this
      · exact codeA_up hc hd n b h
    | loop b =>
      simp only [codeA] at h
      split at h
      · rename_i t1 s1 h1
        exact (codeA_up hc hd n b h1).trans (codeA_up hc hd n _ h)
      · exact codeA_up hc hd n b h
    | exit id =>
      simp only [codeA, Option.some.injEq, Prod.mk.injEq] at h
      obtain ⟨_, _, rfl⟩ := h
      exact Up.refl _
    | ret =>
      simp only [codeA, Option.some.injEq, Prod.mk.injEq] at h
      obtain ⟨_, _, rfl⟩ := h
      exact Up.refl _
    | rangeFunc _ _ _ _ => simp [codeA] at h
    | scope _ => simp [codeA] at h
    | label _ => simp [codeA] at h
    | goto _ => simp [codeA] at h
    | refuse _ => simp [codeA] at h
/-- A loop, from its round's beginning. -/
noncomputable def LoopWp (P : Program) (c : Code) (Q : Exit → Act → World → Prop) (a : Act) (w : World) : Prop :=
  ∀ (b : Frame) (k : List Item) (cs : List Frame), ∃ e a' w', Q e a' w' ∧ Arrives P (lone (b.at a (.code c :: .inLoop c :: k)) cs w) b k cs e a' w'
theorem wp_of_loop {c : Code} {a : Act} {w : World} {Q : Exit → Act → World → Prop} (h : LoopWp P c Q a w) : (Code.loop c).wp P Q a w := by
  intro b k cs
  obtain ⟨e, a', w', hq, harr⟩ := h b k cs
  exact ⟨e, a', w', hq, .of_steps (.one step_loop) harr⟩
theorem loop_one {c : Code} {a : Act} {w : World} {Q : Exit → Act → World → Prop} (h : c.wp P (Exit.then (LoopWp P c Q) Q) a w) : LoopWp P c Q a w := by
  intro b k cs
  obtain ⟨e, a1, w1, hq, harr⟩ := h b (.inLoop c :: k) cs
  cases e with
  | normal =>
    obtain ⟨e2, a2, w2, hq2, harr2⟩ := hq b k cs
    exact ⟨e2, a2, w2, hq2, .of_steps (Steps.trans harr (.one step_inLoop)) harr2⟩
  | exit id => exact ⟨_, a1, w1, hq, .pass (x := .inLoop c) rfl (fun _ _ => .inl (by simp)) harr⟩
  | goto l => exact ⟨_, a1, w1, hq, .pass (x := .inLoop c) rfl (fun _ _ => .inl (by simp)) harr⟩
  | ret => exact ⟨_, a1, w1, hq, .pass (x := .inLoop c) rfl (fun _ _ => .inl (by simp)) harr⟩
  | panic ch => exact ⟨_, a1, w1, hq, .pass (x := .inLoop c) rfl (fun _ _ => .inl (by simp)) harr⟩
  | outgrown => exact ⟨_, a1, w1, hq, .pass (x := .inLoop c) rfl (fun _ _ => .inl (by simp)) harr⟩
/-- What code gives. -/
noncomputable def After (V : Nat → Value) (ρ : Rho) (s : St) (w : World) (e : AE) (t' : Sl) (s' : St) (Q : Exit → Act → World → Prop) : Prop :=
  ∀ ρ' a' w', Goes V ρ s w s' w' ρ' → TR V ρ' t' a' → Q (AEx e) a' w'
theorem After.then {ρ ρ1 : Rho} {s s1 s' : St} {w w1 : World} {e : AE} {t' : Sl} {Q : Exit → Act → World → Prop} (h : After V ρ s w e t' s' Q) (g : Goes V ρ s w s1 w1 ρ1) : After V ρ1 s1 w1 e t' s' Q :=
  fun ρ' a' w' g' ht => h ρ' a' w' (g.trans V g') ht
theorem code_ok (hE : EnvOK P V E) {call : Call1} (hcall : CallOK P V call) (hfn : CallFn E call) (hup : CallUp call) {dr : Draw1} (hdr : DrawOK P V dr) (hdu : DrawUp dr) : ∀ (n : Nat),
    (∀ (c : Code) {t t' : Sl} {s s' : St} {e : AE}, codeA E call dr n c t s = some (e, t', s') → ∀ {ρ : Rho} {a : Act} {w : World}, TR V ρ t a → Rep V ρ s w → Free ρ s s' → ∀ Q, After V ρ s w e t' s' Q → c.wp P Q a w) ∧
    (∀ (c : Code) {t t' : Sl} {s s' : St} {e : AE}, codeA E call dr n (.loop c) t s = some (e, t', s') → ∀ {ρ : Rho} {a : Act} {w : World}, TR V ρ t a → Rep V ρ s w → Free ρ s s' → ∀ Q, After V ρ s w e t' s' Q → LoopWp P c Q a w)
  | 0 => ⟨fun c _ _ _ _ _ h => by simp [codeA] at h, fun c _ _ _ _ _ h => by simp [codeA] at h⟩
  | n + 1 => by
    obtain ⟨ih1, ih2⟩ := code_ok hE hcall hfn hup hdr hdu n
    have hloop : (∀ (c : Code) {t t' : Sl} {s s' : St} {e : AE}, codeA E call dr (n + 1) (.loop c) t s = some (e, t', s') → ∀ {ρ : Rho} {a : Act} {w : World}, TR V ρ t a → Rep V ρ s w → Free ρ s s' → ∀ Q, After V ρ s w e t' s' Q → LoopWp P c Q a w) := by
      intro c t t' s s' e h ρ a w ht hr hf Q hQ
      simp only [codeA] at h
      refine loop_one ?_
      split at h
      · rename_i t1 s1 h1
        have hu := codeA_up hup hdu n _ h
        refine ih1 c h1 ht hr (hf.left hu.1 hu.2) _ ?_
        intro ρ1 a1 w1 hg ht1
        exact ih2 c h ht1 hg.1 (hf.right hg.2.1) Q (hQ.then hg)
      · rename_i hne
        refine ih1 c h ht hr hf _ ?_
        intro ρ1 a1 w1 hg ht1
        cases e with
        | normal => exact absurd h (hne _ _)
        | ret => exact hQ ρ1 a1 w1 hg ht1
        | exit id => exact hQ ρ1 a1 w1 hg ht1
    refine ⟨?_, hloop⟩
    intro c t t' s s' e h ρ a w ht hr hf Q hQ
    cases c with
    | skip =>
      simp only [codeA, Option.some.injEq, Prod.mk.injEq] at h
      obtain ⟨rfl, rfl, rfl⟩ := h
      exact wp_skip (hQ ρ a w (Goes.refl V hr) ht)
    | region id ops draw =>
      simp only [codeA] at h
      split at h
      · rename_i t1 s1 h1
        simp only [Option.some.injEq, Prod.mk.injEq] at h
        obtain ⟨rfl, rfl, rfl⟩ := h
        cases draw
        · have := ops_ok hE hcall hfn hup (Q := Q) ops.toList 0 (by simp) h1 ht hr hf (fun ρ' a' w' g t => hQ ρ' a' w' g t)
          rw [← List.range_eq_range', Array.length_toList] at this
          exact wp_region this
        · exact hdr ops t s t1 s1 h1 id ρ a w ht hr hf Q (fun ρ' a' w' g t => hQ ρ' a' w' g t)
      · cases h
    | seq x y =>
      simp only [codeA] at h
      refine wp_seq ?_
      split at h
      · rename_i t1 s1 h1
        have hu := codeA_up hup hdu n _ h
        refine ih1 x h1 ht hr (hf.left hu.1 hu.2) _ ?_
        intro ρ1 a1 w1 hg ht1
        exact ih1 y h ht1 hg.1 (hf.right hg.2.1) Q (hQ.then hg)
      · rename_i hne
        refine ih1 x h ht hr hf _ ?_
        intro ρ1 a1 w1 hg ht1
        cases e with
        | normal => exact absurd h (hne _ _)
        | ret => exact hQ ρ1 a1 w1 hg ht1
        | exit id => exact hQ ρ1 a1 w1 hg ht1
    | cond b x y =>
      simp only [codeA] at h
      split at h
      · rename_i k hk
        have hb := eval_ok ht b
        rw [hk] at hb
        have hb : a.eval b = .bool k := hb
        refine wp_cond hb ?_
        have := ih1 _ h ht hr hf Q hQ
        cases k <;> simpa using this
      · cases h
    | block id b =>
      simp only [codeA] at h
      refine wp_block ?_
      split at h
      · rename_i j t1 s1 h1
        split at h
        · rename_i hj
          simp only [Option.some.injEq, Prod.mk.injEq] at h
          obtain ⟨rfl, rfl, rfl⟩ := h
          refine ih1 b h1 ht hr hf _ ?_
          intro ρ1 a1 w1 hg ht1
          show (if j = id then _ else _)
          rw [if_pos hj]
          exact hQ ρ1 a1 w1 hg ht1
        · rename_i hj
          simp only [Option.some.injEq, Prod.mk.injEq] at h
          obtain ⟨rfl, rfl, rfl⟩ := h
          refine ih1 b h1 ht hr hf _ ?_
          intro ρ1 a1 w1 hg ht1
          show (if j = id then _ else _)
          rw [if_neg hj]
          exact hQ ρ1 a1 w1 hg ht1
      · rename_i hne
        refine ih1 b h ht hr hf _ ?_
        intro ρ1 a1 w1 hg ht1
        cases e with
        | normal => exact hQ ρ1 a1 w1 hg ht1
        | ret => exact hQ ρ1 a1 w1 hg ht1
        | exit id' => exact absurd h (hne _ _ _)
    | loop b => exact wp_of_loop (hloop b h ht hr hf Q hQ)
    | exit id =>
      simp only [codeA, Option.some.injEq, Prod.mk.injEq] at h
      obtain ⟨rfl, rfl, rfl⟩ := h
      exact wp_exit (hQ ρ a w (Goes.refl V hr) ht)
    | ret =>
      simp only [codeA, Option.some.injEq, Prod.mk.injEq] at h
      obtain ⟨rfl, rfl, rfl⟩ := h
      exact wp_ret (hQ ρ a w (Goes.refl V hr) ht)
    | rangeFunc _ _ _ _ => simp [codeA] at h
    | scope _ => simp [codeA] at h
    | label _ => simp [codeA] at h
    | goto _ => simp [codeA] at h
    | refuse _ => simp [codeA] at h
end
end Ab
end Go.Proofs.YtbfppnppijcnlaaGreat
namespace Go.Proofs.YtbfppnppijcnlaaGreat
namespace Ab
set_option linter.unusedVariables false
set_option linter.unusedSimpArgs false
section
variable {P : Program} {V : Nat → Value} {E : Env}
theorem closeA_ok : ∀ (l : List Edge) (acc : List Nat) (k b : Nat), closeA l acc k = some b → (∀ e ∈ l, Region.binds .any e = true → e.on < k) ∧ ∀ j, b.testBit j = true → ∃ e ∈ l, Region.binds .any e = true ∧ ∃ be, acc[e.on]? = some be ∧ (j = e.on ∨ be.testBit j = true)
  | [], acc, k, b, h => by
    simp only [closeA, Option.some.injEq] at h
    subst h
    refine ⟨fun e he => (by cases he), fun j hj => ?_⟩
    simp at hj
  | e :: l, acc, k, b, h => by
    simp only [closeA] at h
    cases hr : closeA l acc k with
    | none => simp [hr] at h
    | some x =>
      obtain ⟨h1, h2⟩ := closeA_ok l acc k x hr
      simp only [hr] at h
      cases hb : Region.binds .any e
      · simp only [hb, cond_false, Option.some.injEq] at h
        subst h
        refine ⟨fun e' he' hb' => ?_, fun j hj => ?_⟩
        · cases he' with
          | head => rw [hb] at hb'; cases hb'
          | tail _ he' => exact h1 e' he' hb'
        · obtain ⟨e', q1, q2⟩ := h2 j hj
          exact ⟨e', List.mem_cons_of_mem _ q1, q2⟩
      · simp only [hb, cond_true] at h
        cases hl : Nat.blt e.on k
        · simp [hl] at h
        · simp only [hl, cond_true] at h
          cases ha : acc[e.on]? with
          | none => simp [ha] at h
          | some be =>
            simp only [ha, Option.some.injEq] at h
            subst h
            have hlt : e.on < k := by
              have := Nat.le_of_ble_eq_true (show Nat.ble (e.on + 1) k = true from hl)
              omega
            refine ⟨fun e' he' hb' => ?_, fun j hj => ?_⟩
            · cases he' with
              | head => exact hlt
              | tail _ he' => exact h1 e' he' hb'
            · rw [Nat.testBit_or, Nat.testBit_or, Nat.testBit_two_pow] at hj
              simp only [Bool.or_eq_true, decide_eq_true_eq] at hj
              rcases hj with (hj | hj) | hj
              · exact ⟨e, by simp, hb, be, ha, .inr hj⟩
              · exact ⟨e, by simp, hb, be, ha, .inl hj.symm⟩
              · obtain ⟨e', q1, q2⟩ := h2 j hj
                exact ⟨e', List.mem_cons_of_mem _ q1, q2⟩
/-- What the table of predecessors says. -/
noncomputable def BOK (ops : Array Oper) (B : List Nat) : Prop := ∀ k o, ops[k]? = some o → (∀ e ∈ o.after, Region.binds .any e = true → e.on < k) ∧ ∀ j, (B.getD k 0).testBit j = true → ∃ e ∈ o.after, Region.binds .any e = true ∧ (j = e.on ∨ (B.getD e.on 0).testBit j = true)
theorem beforeA_ok : ∀ (l : List Oper) (acc : List Nat) (k : Nat) (B : List Nat), acc.length = k → beforeA l acc k = some B → (∃ more, B = acc ++ more) ∧ ∀ (i : Nat) (o : Oper), l[i]? = some o → (∀ e ∈ o.after, Region.binds .any e = true → e.on < k + i) ∧ ∀ j, (B.getD (k + i) 0).testBit j = true → ∃ e ∈ o.after, Region.binds .any e = true ∧ (j = e.on ∨ (B.getD e.on 0).testBit j = true)
  | [], acc, k, B, hk, h => by
    simp only [beforeA, Option.some.injEq] at h
    subst h
    exact ⟨⟨[], by simp⟩, fun i o h => by simp at h⟩
  | o :: l, acc, k, B, hk, h => by
    simp only [beforeA] at h
    cases hc : closeA o.after.toList acc k with
    | none => simp [hc] at h
    | some b =>
      simp only [hc] at h
      obtain ⟨⟨more, hm⟩, h2⟩ := beforeA_ok l (acc ++ [b]) (k + 1) B (by simp [hk]) h
      obtain ⟨c1, c2⟩ := closeA_ok _ _ _ _ hc
      refine ⟨⟨b :: more, by rw [hm]; simp⟩, fun i o' ho' => ?_⟩
      cases i with
      | zero =>
        simp only [List.getElem?_cons_zero, Option.some.injEq] at ho'
        subst ho'
        refine ⟨fun e he hb => c1 e (by simpa using he) hb, fun j hj => ?_⟩
        have hB : B.getD (k + 0) 0 = b := by
          rw [hm, ← hk]
          simp
        rw [hB] at hj
        obtain ⟨e, q1, q2, be, q3, q4⟩ := c2 j hj
        refine ⟨e, by simpa using q1, q2, ?_⟩
        have hlt : e.on < acc.length := (List.getElem?_eq_some_iff.1 q3).1
        have : B.getD e.on 0 = be := by
          rw [hm, List.append_assoc, List.getD_eq_getElem?_getD, List.getElem?_append_left hlt, q3]
          rfl
        rw [this]
        exact q4
      | succ i =>
        simp only [List.getElem?_cons_succ] at ho'
        have := h2 i o' ho'
        rw [show k + 1 + i = k + (i + 1) by omega] at this
        exact this
theorem bok {ops : Array Oper} {B : List Nat} (h : beforeA ops.toList [] 0 = some B) : BOK ops B := by
  intro k o ho
  have := (beforeA_ok _ [] 0 _ rfl h).2 k o (by simpa using ho)
  rw [Nat.zero_add] at this
  exact this
/-- A step of the run, for the proof. -/
structure PR where
  i : Nat
  o : Oper
  n : Nat
  c : Nat
  s1 : St
  v : AV
  W : List Nat
  ids : List Nat
noncomputable def viewT (ops : Array Oper) (B : List Nat) (bk k : Nat) (D : DS) : Sl := maskA B bk k ops.toList 0 D.t
noncomputable def viewS (bk : Nat) (D : DS) : St := { D.s with heap := hideA (hiddenOf bk D.recs) D.s.heap, dirty := [] }
noncomputable def DS.then (D : DS) (r : PR) : DS :=
  { t := put D.t r.o.dst r.v, s := { heap := layNew D.s.next r.s1.heap (layW r.s1.heap r.W D.s.heap), next := r.s1.next, ncap := r.s1.ncap, dirty := r.W ++ D.s.dirty }, recs := ⟨r.i, r.ids⟩ :: D.recs, bits := D.bits ||| 2 ^ r.i }
/-- The conditions of a step. -/
structure SC (E : Env) (call : Call1) (ops : Array Oper) (B : List Nat) (D : DS) (r : PR) (bk : Nat) : Prop where
  ho : ops[r.i]? = some r.o
  hb : B[r.i]? = some bk
  nb : D.bits.testBit r.i = false
  su : bk &&& D.bits = bk
  ds : dstOk B bk r.i r.o.dst ops.toList 0 = true
  st : stepA E call ops (viewT ops B bk r.i D) (viewS bk D) r.o = some (r.v, r.s1)
  n : r.n = D.s.next
  c : r.c = D.s.ncap
  W : r.W = r.s1.dirty.filter (fun i => Nat.blt i D.s.next)
  ids : r.ids = r.W ++ newIds D.s.next r.s1.heap []
  pp : r.W = [] ∨ purePast ops bk D.recs = true
inductive Trace (E : Env) (call : Call1) (ops : Array Oper) (B : List Nat) (t : Sl) (s : St) : DS → List PR → Prop
  | nil : Trace E call ops B t s ⟨t, s, [], 0⟩ []
  | cons {D : DS} {L : List PR} {r : PR} {bk : Nat} (h : Trace E call ops B t s D L) (k : SC E call ops B D r bk) : Trace E call ops B t s (D.then r) (r :: L)
theorem drawStep_trace {call : Call1} {ops : Array Oper} {B : List Nat} {t : Sl} {s : St} {k : Nat} {D D' : DS} {L : List PR} (h : Trace E call ops B t s D L) (hs : drawStep E call ops B k D = some D') : ∃ L', Trace E call ops B t s D' L' ∧ (∀ j, D.bits.testBit j = true → D'.bits.testBit j = true) ∧ (k < ops.size → k < B.length → D'.bits.testBit k = true) := by
  rcases drawStep_of hs with ⟨rfl, hb⟩ | hs
  · exact ⟨L, h, fun j hj => hj, fun _ _ => hb⟩
  unfold drawStep0 at hs
  split at hs
  · rename_i o bk ho hb
    cases hbit : D.bits.testBit k
    · simp only [hbit, cond_false] at hs
      cases h1 : Nat.beq (bk &&& D.bits) bk
      · simp [h1] at hs
      · simp only [h1, Bool.not_true, cond_false] at hs
        cases h2 : dstOk B bk k o.dst ops.toList 0
        · simp [h2] at hs
        · simp only [h2, Bool.not_true, cond_false] at hs
          split at hs
          · cases hs
          · rename_i v s1 hst
            have key : ∀ b : Bool, b = ((s1.dirty.filter (fun i => Nat.blt i D.s.next)).isEmpty || purePast ops bk D.recs) → b = true →
                ∃ L', Trace E call ops B t s (D.then ⟨k, o, D.s.next, D.s.ncap, s1, v, s1.dirty.filter (fun i => Nat.blt i D.s.next), s1.dirty.filter (fun i => Nat.blt i D.s.next) ++ newIds D.s.next s1.heap []⟩) L' := by
              intro b hb1 hb2
              refine ⟨_, .cons h (bk := bk) ⟨ho, hb, hbit, Nat.eq_of_beq_eq_true h1, h2, hst, rfl, rfl, rfl, rfl, ?_⟩⟩
              rw [hb2] at hb1
              have hb1 := hb1.symm
              simp only [Bool.or_eq_true] at hb1
              rcases hb1 with hb1 | hb1
              · exact .inl (List.isEmpty_iff.1 hb1)
              · exact .inr hb1
            cases hc : ((s1.dirty.filter (fun i => Nat.blt i D.s.next)).isEmpty || purePast ops bk D.recs)
            · simp [hc] at hs
            · simp only [hc, cond_true, Option.some.injEq] at hs
              subst hs
              obtain ⟨L', hL'⟩ := key _ rfl hc
              refine ⟨L', hL', fun j hj => ?_, fun _ _ => ?_⟩
              · show (D.bits ||| 2 ^ k).testBit j = true
                rw [Nat.testBit_or, hj]
                rfl
              · show (D.bits ||| 2 ^ k).testBit k = true
                rw [Nat.testBit_or, Nat.testBit_two_pow_self]
                simp
    · simp only [hbit, cond_true, Option.some.injEq] at hs
      subst hs
      exact ⟨L, h, fun j hj => hj, fun _ _ => hbit⟩
  · cases hs
theorem drawList_trace {call : Call1} {ops : Array Oper} {B : List Nat} {t : Sl} {s : St} : ∀ (l : List Nat) {D D' : DS} {L : List PR}, Trace E call ops B t s D L → drawList E call ops B l D = some D' → ∃ L', Trace E call ops B t s D' L' ∧ (∀ j, D.bits.testBit j = true → D'.bits.testBit j = true) ∧ (∀ k ∈ l, k < ops.size → k < B.length → D'.bits.testBit k = true)
  | [], D, D', L, h, hs => by
    simp only [drawList, Option.some.injEq] at hs
    subst hs
    exact ⟨L, h, fun j hj => hj, fun k hk => by cases hk⟩
  | k :: l, D, D', L, h, hs => by
    simp only [drawList] at hs
    split at hs
    · rename_i D1 h1
      obtain ⟨L1, g1, g2, g3⟩ := drawStep_trace h h1
      obtain ⟨L2, k1, k2, k3⟩ := drawList_trace l g1 hs
      refine ⟨L2, k1, fun j hj => k2 j (g2 j hj), fun j hj h1 h2 => ?_⟩
      cases hj with
      | head => exact k2 _ (g3 h1 h2)
      | tail _ hj => exact k3 j hj h1 h2
    · cases hs
theorem beforeA_length : ∀ (l : List Oper) (acc : List Nat) (k : Nat) (B : List Nat), beforeA l acc k = some B → B.length = acc.length + l.length
  | [], acc, k, B, h => by
    simp only [beforeA, Option.some.injEq] at h
    subst h
    rfl
  | o :: l, acc, k, B, h => by
    simp only [beforeA] at h
    split at h
    · rename_i b hb
      have := beforeA_length l _ _ B h
      simp at this ⊢
      omega
    · cases h
/-- What a trace is, in short. -/
structure TF (ops : Array Oper) (B : List Nat) (s : St) (D : DS) (L : List PR) : Prop where
  recs : D.recs = L.map (fun r => ⟨r.i, r.ids⟩)
  bits : ∀ j, D.bits.testBit j = true ↔ ∃ r ∈ L, r.i = j
  up : ∀ r ∈ L, r.s1.next ≤ D.s.next ∧ r.s1.ncap ≤ D.s.ncap ∧ s.next ≤ r.n ∧ s.ncap ≤ r.c ∧ r.n ≤ r.s1.next ∧ r.c ≤ r.s1.ncap
  s : s.next ≤ D.s.next ∧ s.ncap ≤ D.s.ncap
theorem trace_tf {call : Call1} (hup : CallUp call) {ops : Array Oper} {B : List Nat} {t : Sl} {s : St} {D : DS} {L : List PR} (h : Trace E call ops B t s D L) : TF ops B s D L := by
  induction h with
  | nil => exact ⟨rfl, fun j => (by simp), fun r hr => (by cases hr), Nat.le_refl _, Nat.le_refl _⟩
  | @cons D L r bk h k ih =>
    have hu := stepA_up hup k.st
    have hu1 : D.s.next ≤ r.s1.next := hu.1
    have hu2 : D.s.ncap ≤ r.s1.ncap := hu.2
    refine ⟨by simp [DS.then, ih.recs], fun j => ?_, fun r' hr' => ?_, Nat.le_trans ih.s.1 hu1, Nat.le_trans ih.s.2 hu2⟩
    · show (D.bits ||| 2 ^ r.i).testBit j = true ↔ _
      rw [Nat.testBit_or, Nat.testBit_two_pow, Bool.or_eq_true, ih.bits j]
      simp only [List.mem_cons, decide_eq_true_eq]
      constructor
      · rintro (⟨r', h1, h2⟩ | h1)
        · exact ⟨r', .inr h1, h2⟩
        · exact ⟨r, .inl rfl, h1⟩
      · rintro ⟨r', h1 | h1, h2⟩
        · subst h1
          exact .inr h2
        · exact .inl ⟨r', h1, h2⟩
    · cases hr' with
      | head =>
        refine ⟨Nat.le_refl _, Nat.le_refl _, ?_, ?_, ?_, ?_⟩
        · rw [k.n]; exact ih.s.1
        · rw [k.c]; exact ih.s.2
        · rw [k.n]; exact hu1
        · rw [k.c]; exact hu2
      | tail _ hr' =>
        obtain ⟨a1, a2, a3, a4, a5, a6⟩ := ih.up r' hr'
        exact ⟨Nat.le_trans a1 hu1, Nat.le_trans a2 hu2, a3, a4, a5, a6⟩
/-- A step in the middle of a trace. -/
theorem trace_at {call : Call1} (hup : CallUp call) {ops : Array Oper} {B : List Nat} {t : Sl} {s : St} {r : PR} {O : List PR} : ∀ (N : List PR) {D : DS}, Trace E call ops B t s D (N ++ r :: O) → ∃ D0 bk, Trace E call ops B t s D0 O ∧ SC E call ops B D0 r bk ∧
    ∀ r' ∈ N, r'.i ≠ r.i ∧ r.s1.next ≤ r'.n ∧ r.s1.ncap ≤ r'.c ∧ (r'.W = [] ∨ (B.getD r'.i 0).testBit r.i = true ∨ isPure r.o.op = true) ∧ bk.testBit r'.i = false
  | [], D, h => by
    cases h with
    | cons h k => exact ⟨_, _, h, k, fun r' hr' => by cases hr'⟩
  | p :: N, D, h => by
    cases h with
    | @cons D1 _ _ bk1 h k =>
      obtain ⟨D0, bk, g1, g2, g3⟩ := trace_at hup N h
      refine ⟨D0, bk, g1, g2, fun r' hr' => ?_⟩
      cases hr' with
      | head =>
        have tf := trace_tf hup h
        have hr : r ∈ N ++ r :: O := by simp
        have hne : p.i ≠ r.i := by
          intro e
          have := (tf.bits p.i).2 ⟨r, hr, e.symm⟩
          rw [k.nb] at this
          cases this
        have hu := tf.up r hr
        refine ⟨hne, by rw [k.n]; exact hu.1, by rw [k.c]; exact hu.2.1, ?_, ?_⟩
        · rcases k.pp with h1 | h1
          · exact .inl h1
          · right
            rw [tf.recs] at h1
            have hB : B.getD p.i 0 = bk1 := by rw [List.getD_eq_getElem?_getD, k.hb]; rfl
            rw [hB]
            have : ∀ l : List PR, purePast ops bk1 (l.map (fun r => (⟨r.i, r.ids⟩ : Rec))) = true → ∀ q ∈ l, bk1.testBit q.i = true ∨ (match ops[q.i]? with | some o => isPure o.op | none => false) = true := by
              intro l
              induction l with
              | nil => intro _ q hq; cases hq
              | cons x l ih =>
                intro hp q hq
                simp only [List.map_cons, purePast, Bool.and_eq_true, Bool.or_eq_true] at hp
                cases hq with
                | head => exact hp.1
                | tail _ hq => exact ih hp.2 q hq
            rcases this _ h1 r hr with h2 | h2
            · exact .inl h2
            · rw [g2.ho] at h2
              exact .inr h2
        · cases hbt : bk.testBit p.i
          · rfl
          · exfalso
            have h1 : D0.bits.testBit p.i = true := by
              have := congrArg (fun z => z.testBit p.i) g2.su
              simp only [Nat.testBit_and, hbt, Bool.true_and] at this
              exact this
            obtain ⟨q, hq, he⟩ := ((trace_tf hup g1).bits p.i).1 h1
            have := (tf.bits p.i).2 ⟨q, by simp [hq], he⟩
            rw [k.nb] at this
            cases this
      | tail _ hr' => exact g3 r' hr'
end
end Ab
end Go.Proofs.YtbfppnppijcnlaaGreat
namespace Go.Proofs.YtbfppnppijcnlaaGreat
namespace Ab
set_option linter.unusedVariables false
set_option linter.unusedSimpArgs false
section
variable {P : Program} {V : Nat → Value} {E : Env}
/-- What is known of a block behind some steps, the latest first. -/
noncomputable def Hist (s : St) : List PR → Nat → Blk → Prop
  | [], i, B => look s.heap i = some B
  | r :: L, i, B => (i ∈ r.ids ∧ look r.s1.heap i = some B) ∨ (i ∉ r.W ∧ Hist s L i B)
noncomputable def tfold (t : Sl) : List PR → Sl
  | [] => t
  | r :: L => put (tfold t L) r.o.dst r.v
theorem newIds_acc (n : Nat) : ∀ (H : List (Nat × Blk)) (acc : List Nat) (i : Nat), i ∈ newIds n H acc ↔ i ∈ acc ∨ i ∈ newIds n H []
  | [], acc, i => by simp [newIds]
  | x :: r, acc, i => by
    simp only [newIds]
    cases hb : Nat.ble n x.1
    · simp
    · simp only [cond_true]
      rw [newIds_acc n r (x.1 :: acc), newIds_acc n r [x.1]]
      simp only [List.mem_cons, List.not_mem_nil, or_false]
      constructor
      · rintro ((h | h) | h)
        · exact .inr (.inl h)
        · exact .inl h
        · exact .inr (.inr h)
      · rintro (h | h | h)
        · exact .inl (.inr h)
        · exact .inl (.inl h)
        · exact .inr h
theorem newIds_ge (n : Nat) : ∀ (H : List (Nat × Blk)) (i : Nat), i ∈ newIds n H [] → n ≤ i
  | [], i, h => by simp [newIds] at h
  | x :: r, i, h => by
    simp only [newIds] at h
    cases hb : Nat.ble n x.1
    · simp [hb] at h
    · simp only [hb, cond_true] at h
      rw [newIds_acc] at h
      rcases h with h | h
      · simp only [List.mem_cons, List.not_mem_nil, or_false] at h
        rw [h]
        exact Nat.le_of_ble_eq_true hb
      · exact newIds_ge n r i h
theorem layNew_look (n : Nat) (H : List (Nat × Blk)) : ∀ (H' : List (Nat × Blk)) (i : Nat) (B : Blk), look (layNew n H' H) i = some B → (i ∈ newIds n H' [] ∧ look H' i = some B) ∨ look H i = some B
  | [], i, B, h => .inr h
  | x :: r, i, B, h => by
    simp only [layNew] at h
    cases hb : Nat.ble n x.1
    · simp only [hb, cond_false] at h
      exact .inr h
    · simp only [hb, cond_true] at h
      simp only [newIds, hb, cond_true]
      rw [newIds_acc]
      rw [look_cons] at h ⊢
      by_cases hx : x.1 = i
      · rw [if_pos hx] at h ⊢
        exact .inl ⟨.inl (by simp [hx]), h⟩
      · rw [if_neg hx] at h ⊢
        rcases layNew_look n H r i B h with ⟨h1, h2⟩ | h1
        · exact .inl ⟨.inr h1, h2⟩
        · exact .inr h1
theorem layW_look (H' : List (Nat × Blk)) : ∀ (W : List Nat) (H : List (Nat × Blk)) (j : Nat) (B : Blk), look (layW H' W H) j = some B → (j ∈ W ∧ look H' j = some B) ∨ (j ∉ W ∧ look H j = some B)
  | [], H, j, B, h => .inr ⟨by simp, h⟩
  | i :: r, H, j, B, h => by
    simp only [layW] at h
    split at h
    · rename_i B0 h0
      rcases layW_look H' r _ j B h with ⟨h1, h2⟩ | ⟨h1, h2⟩
      · exact .inl ⟨List.mem_cons_of_mem _ h1, h2⟩
      · rw [look_upd] at h2
        by_cases hj : j = i
        · subst hj
          rw [if_pos rfl] at h2
          cases hq : look H j with
          | none => simp [hq] at h2
          | some C =>
            simp only [hq, Option.map_some, Option.some.injEq] at h2
            subst h2
            exact .inl ⟨by simp, h0⟩
        · rw [if_neg hj] at h2
          exact .inr ⟨by simp [hj, h1], h2⟩
    · rename_i h0
      rcases layW_look H' r _ j B h with ⟨h1, h2⟩ | ⟨h1, h2⟩
      · exact .inl ⟨List.mem_cons_of_mem _ h1, h2⟩
      · rw [look_del] at h2
        by_cases hj : j = i
        · simp [hj] at h2
        · rw [if_neg hj] at h2
          exact .inr ⟨by simp [hj, h1], h2⟩
theorem trace_hist {call : Call1} {ops : Array Oper} {B : List Nat} {t : Sl} {s : St} {D : DS} {L : List PR} (h : Trace E call ops B t s D L) : D.t = tfold t L ∧ (∀ i C, look D.s.heap i = some C → Hist s L i C) ∧ (∀ j ∈ D.s.dirty, j ∈ s.dirty ∨ ∃ r ∈ L, j ∈ r.W) ∧ (∀ r ∈ L, ∀ j ∈ r.W, j ∈ D.s.dirty) ∧ (∀ j ∈ s.dirty, j ∈ D.s.dirty) := by
  induction h with
  | nil => exact ⟨rfl, fun i C h => h, fun j h => .inl h, fun r hr => (by cases hr), fun j h => h⟩
  | @cons D L r bk h k ih =>
    obtain ⟨h1, h2, h3, h4, h5⟩ := ih
    refine ⟨by simp [DS.then, tfold, h1], fun i C hC => ?_, fun j hj => ?_, fun r' hr' j hj => ?_, fun j hj => List.mem_append_right _ (h5 j hj)⟩
    · rcases layNew_look _ _ _ i C hC with ⟨g1, g2⟩ | g1
      · exact .inl ⟨by rw [k.ids]; exact List.mem_append_right _ g1, g2⟩
      · rcases layW_look _ _ _ i C g1 with ⟨g2, g3⟩ | ⟨g2, g3⟩
        · exact .inl ⟨by rw [k.ids]; exact List.mem_append_left _ g2, g3⟩
        · exact .inr ⟨g2, h2 i C g3⟩
    · rcases List.mem_append.1 hj with hj | hj
      · exact .inr ⟨r, by simp, hj⟩
      · rcases h3 j hj with h6 | ⟨r', h6, h7⟩
        · exact .inl h6
        · exact .inr ⟨r', by simp [h6], h7⟩
    · cases hr' with
      | head => exact List.mem_append_left _ hj
      | tail _ hr' => exact List.mem_append_right _ (h4 r' hr' j hj)
theorem hasN_iff : ∀ (l : List Nat) (i : Nat), hasN l i = true ↔ i ∈ l
  | [], i => by simp [hasN_n, hasN_c]
  | x :: r, i => by
    simp only [hasN_n, hasN_c]
    by_cases h : x = i
    · subst h
      simp
    · simp only [beq_no h, cond_false, hasN_iff r i, List.mem_cons]
      constructor
      · exact .inr
      · rintro (h1 | h1)
        · exact absurd h1.symm h
        · exact h1
theorem hide_look (l : List Nat) : ∀ (H : List (Nat × Blk)) (i : Nat) (B : Blk), look (hideA l H) i = some B → i ∉ l ∧ look H i = some B
  | [], i, B, h => by simp [hideA, look_n, look_c] at h
  | x :: r, i, B, h => by
    simp only [hideA] at h
    cases hb : hasN l x.1
    · simp only [hb, cond_false] at h
      rw [look_cons] at h ⊢
      by_cases hx : x.1 = i
      · rw [if_pos hx] at h ⊢
        refine ⟨fun hm => ?_, h⟩
        rw [hx, (hasN_iff l i).2 hm] at hb
        cases hb
      · rw [if_neg hx] at h ⊢
        exact hide_look l r i B h
    · simp only [hb, cond_true] at h
      obtain ⟨h1, h2⟩ := hide_look l r i B h
      have hm := (hasN_iff l x.1).1 hb
      refine ⟨h1, ?_⟩
      rw [look_cons, if_neg (show ¬ x.1 = i from fun e => h1 (by rw [← e]; exact hm))]
      exact h2
theorem hidden_iff (bk : Nat) : ∀ (L : List PR) (i : Nat), i ∉ hiddenOf bk (L.map (fun r => (⟨r.i, r.ids⟩ : Rec))) → ∀ r ∈ L, bk.testBit r.i = true ∨ i ∉ r.ids
  | [], i, _, r, hr => by cases hr
  | x :: L, i, h, r, hr => by
    simp only [List.map_cons, hiddenOf] at h
    cases hb : bk.testBit x.i
    · simp only [hb, cond_false, List.mem_append, not_or] at h
      cases hr with
      | head => exact .inr h.1
      | tail _ hr => exact hidden_iff bk L i h.2 r hr
    · simp only [hb, cond_true] at h
      cases hr with
      | head => exact .inl hb
      | tail _ hr => exact hidden_iff bk L i h r hr
/-- The steps of a set. -/
noncomputable def only (X : Nat → Bool) (L : List PR) : List PR := L.filter (fun r => X r.i)
theorem hist_only {s : St} {bk : Nat} {X : Nat → Bool} : ∀ (L : List PR) (i : Nat) (B : Blk), Hist s L i B → (∀ r ∈ L, bk.testBit r.i = true ∨ i ∉ r.ids) → (∀ r ∈ L, bk.testBit r.i = true → X r.i = true) → Hist s (only X L) i B
  | [], i, B, h, _, _ => h
  | r :: L, i, B, h, h1, h2 => by
    unfold only
    rcases h with ⟨g1, g2⟩ | ⟨g1, g2⟩
    · have hx : X r.i = true := by
        rcases h1 r (by simp) with h3 | h3
        · exact h2 r (by simp) h3
        · exact absurd g1 h3
      rw [List.filter_cons_of_pos (by exact hx)]
      exact .inl ⟨g1, g2⟩
    · have ih := hist_only (X := X) L i B g2 (fun r' hr' => h1 r' (by simp [hr'])) (fun r' hr' => h2 r' (by simp [hr']))
      cases hx : X r.i
      · rw [List.filter_cons_of_neg (by simp [hx])]
        exact ih
      · rw [List.filter_cons_of_pos (by exact hx)]
        exact .inr ⟨g1, ih⟩
theorem hist_newer {s : St} : ∀ (N O : List PR) (i : Nat) (B : Blk), Hist s O i B → (∀ r ∈ N, i ∉ r.W) → Hist s (N ++ O) i B
  | [], O, i, B, h, _ => h
  | r :: N, O, i, B, h, h1 => .inr ⟨h1 r (by simp), hist_newer N O i B h (fun r' hr' => h1 r' (by simp [hr']))⟩
/-- Where a fact comes from. -/
theorem hist_split {s : St} : ∀ (N O : List PR) (i : Nat) (B : Blk), Hist s (N ++ O) i B → (∃ r ∈ N, i ∈ r.ids) ∨ ((∀ r ∈ N, i ∉ r.W) ∧ Hist s O i B)
  | [], O, i, B, h => .inr ⟨fun r hr => (by cases hr), h⟩
  | r :: N, O, i, B, h => by
    rcases h with ⟨h1, _⟩ | ⟨h1, h2⟩
    · exact .inl ⟨r, by simp, h1⟩
    · rcases hist_split N O i B h2 with ⟨r', h3, h4⟩ | ⟨h3, h4⟩
      · exact .inl ⟨r', by simp [h3], h4⟩
      · refine .inr ⟨fun r' hr' => ?_, h4⟩
        cases hr' with
        | head => exact h1
        | tail _ hr' => exact h3 r' hr'
/-- A step laid in the middle changes nothing of what the later ones touched. -/
theorem hist_mid {s : St} (r : PR) : ∀ (N O : List PR) (i : Nat) (B : Blk), Hist s (N ++ r :: O) i B → (i ∈ r.ids ∧ look r.s1.heap i = some B ∧ ∀ r' ∈ N, i ∉ r'.W) ∨ (Hist s (N ++ O) i B ∧ (i ∉ r.W ∨ ∃ r' ∈ N, i ∈ r'.ids))
  | [], O, i, B, h => by
    rcases h with ⟨h1, h2⟩ | ⟨h1, h2⟩
    · exact .inl ⟨h1, h2, fun r' hr' => (by cases hr')⟩
    · exact .inr ⟨h2, .inl h1⟩
  | q :: N, O, i, B, h => by
    rcases h with ⟨h1, h2⟩ | ⟨h1, h2⟩
    · exact .inr ⟨.inl ⟨h1, h2⟩, .inr ⟨q, by simp, h1⟩⟩
    · rcases hist_mid r N O i B h2 with ⟨g1, g2, g3⟩ | ⟨g1, g2⟩
      · refine .inl ⟨g1, g2, fun r' hr' => ?_⟩
        cases hr' with
        | head => exact h1
        | tail _ hr' => exact g3 r' hr'
      · refine .inr ⟨.inr ⟨h1, g1⟩, ?_⟩
        rcases g2 with g2 | ⟨r', g2, g3⟩
        · exact .inl g2
        · exact .inr ⟨r', by simp [g2], g3⟩
theorem lget_put (t : Sl) (d : Option Nat) (v : AV) (e : Nat) : lget (put t d v) e = if d = some e ∧ e < t.length then v else lget t e := by
  cases d with
  | none => simp [put]
  | some d =>
    simp only [put, lget_lset, Option.some.injEq]
    by_cases h : e = d
    · subst h
      simp
    · rw [if_neg (by simp [h]), if_neg (by simp [Ne.symm h])]
theorem tfold_length (t : Sl) : ∀ L, (tfold t L).length = t.length
  | [] => rfl
  | r :: L => by rw [tfold, put_length, tfold_length t L]
theorem tfold_mid (t : Sl) (r : PR) (e : Nat) : ∀ (N O : List PR), (∀ r' ∈ N, ∀ d, r'.o.dst = some d → r.o.dst ≠ some d) → lget (tfold t (N ++ r :: O)) e = lget (put (tfold t (N ++ O)) r.o.dst r.v) e
  | [], O, _ => rfl
  | q :: N, O, h => by
    have ih := tfold_mid t r e N O (fun r' hr' => h r' (by simp [hr']))
    show lget (put (tfold t (N ++ r :: O)) q.o.dst q.v) e = lget (put (put (tfold t (N ++ O)) q.o.dst q.v) r.o.dst r.v) e
    rw [lget_put, lget_put, lget_put, ih, lget_put, put_length, tfold_length, tfold_length]
    by_cases h1 : q.o.dst = some e ∧ e < t.length
    · have h2 := h q (by simp) e h1.1
      rw [if_pos h1, if_neg (fun h3 => h2 h3.1), if_pos h1]
    · rw [if_neg h1, if_neg h1]
/-- A slot that no step outside writes. -/
theorem tfold_only (t : Sl) (X : Nat → Bool) (e : Nat) : ∀ (L : List PR), (∀ r ∈ L, X r.i = false → r.o.dst ≠ some e) → lget (tfold t (only X L)) e = lget (tfold t L) e
  | [], _ => rfl
  | r :: L, h => by
    have ih := tfold_only t X e L (fun r' hr' => h r' (by simp [hr']))
    unfold only at ih ⊢
    cases hx : X r.i
    · rw [List.filter_cons_of_neg (by simp [hx]), ih]
      show _ = lget (put (tfold t L) r.o.dst r.v) e
      rw [lget_put, if_neg (fun h1 => h r (by simp) hx h1.1)]
    · rw [List.filter_cons_of_pos (by exact hx)]
      show lget (put (tfold t (L.filter _)) r.o.dst r.v) e = lget (put (tfold t L) r.o.dst r.v) e
      rw [lget_put, lget_put, ih, tfold_length, tfold_length]
theorem tfold_newer (t : Sl) (e : Nat) : ∀ (N O : List PR), (∀ r ∈ N, r.o.dst ≠ some e) → lget (tfold t (N ++ O)) e = lget (tfold t O) e
  | [], O, _ => rfl
  | r :: N, O, h => by
    show lget (put (tfold t (N ++ O)) r.o.dst r.v) e = _
    rw [lget_put, if_neg (fun h1 => h r (by simp) h1.1)]
    exact tfold_newer t e N O (fun r' hr' => h r' (by simp [hr']))
/-- The masked slots. -/
theorem mask_look (B : List Nat) (bk k e : Nat) : ∀ (l : List Oper) (j : Nat) (t : Sl), lget (maskA B bk k l j t) e = .any ∨ (lget (maskA B bk k l j t) e = lget t e ∧ ∀ (m : Nat) (o : Oper), l[m]? = some o → j + m ≠ k → bk.testBit (j + m) = false → (B.getD (j + m) 0).testBit k = false → e < t.length → o.dst ≠ some e)
  | [], j, t => .inr ⟨rfl, fun m o h => by simp at h⟩
  | o :: l, j, t => by
    rw [maskA_cons]
    cases hb : (Nat.beq j k || bk.testBit j || (B.getD j 0).testBit k)
    · simp only [cond_false]
      rcases mask_look B bk k e l (j + 1) (put t o.dst .any) with h | ⟨h1, h2⟩
      · exact .inl h
      · rw [lget_put] at h1
        by_cases hd : o.dst = some e ∧ e < t.length
        · rw [if_pos hd] at h1
          exact .inl h1
        · rw [if_neg hd] at h1
          refine .inr ⟨h1, fun m o' ho' g1 g2 g3 g4 => ?_⟩
          cases m with
          | zero =>
            simp only [List.getElem?_cons_zero, Option.some.injEq] at ho'
            subst ho'
            exact fun h3 => hd ⟨h3, g4⟩
          | succ m =>
            simp only [List.getElem?_cons_succ] at ho'
            rw [show j + (m + 1) = j + 1 + m by omega] at g1 g2 g3
            exact h2 m o' ho' g1 g2 g3 (by rw [put_length]; exact g4)
    · simp only [cond_true]
      rcases mask_look B bk k e l (j + 1) t with h | ⟨h1, h2⟩
      · exact .inl h
      · refine .inr ⟨h1, fun m o' ho' g1 g2 g3 g4 => ?_⟩
        cases m with
        | zero =>
          exfalso
          simp only [Nat.add_zero] at g1 g2 g3
          rw [g2, g3, beq_no g1] at hb
          cases hb
        | succ m =>
          simp only [List.getElem?_cons_succ] at ho'
          rw [show j + (m + 1) = j + 1 + m by omega] at g1 g2 g3
          exact h2 m o' ho' g1 g2 g3 g4
theorem dstOk_ok (B : List Nat) (bk k : Nat) (d : Option Nat) : ∀ (l : List Oper) (j : Nat), dstOk B bk k d l j = true → ∀ (m : Nat) (o : Oper), l[m]? = some o → j + m ≠ k → bk.testBit (j + m) = false → (B.getD (j + m) 0).testBit k = false → ∀ e, o.dst = some e → d ≠ some e
  | [], j, _, m, o, h, _, _, _, _, _ => by simp at h
  | o :: l, j, h, m, o', ho', g1, g2, g3, e, he => by
    simp only [dstOk_c, Bool.and_eq_true] at h
    cases m with
    | zero =>
      simp only [List.getElem?_cons_zero, Option.some.injEq] at ho'
      subst ho'
      simp only [Nat.add_zero] at g1 g2 g3
      rw [g2, g3, beq_no g1] at h
      intro hd
      rw [hd, he] at h
      simp [sameDst] at h
    | succ m =>
      simp only [List.getElem?_cons_succ] at ho'
      rw [show j + (m + 1) = j + 1 + m by omega] at g1 g2 g3
      exact dstOk_ok B bk k d l (j + 1) h.2 m o' ho' g1 g2 g3 e he
theorem pure_op {call : Call1} {t : Sl} {s s' : St} {o : Oper} {v : AV} (hp : isPure o.op = true) (h : opA E call t s o = some (v, s')) : s' = s ∧ ∀ s2, opA E call t s2 o = some (v, s2) := by
  simp only [opA_eq] at h ⊢
  unfold opA0 at h ⊢
  cases hop : o.op
  case call c =>
    rw [hop] at hp
    simp only [hop, Bool.cond_eq_ite] at h ⊢
    cases hc : c.callee with
    | value f => simp [isPure, hc] at hp
    | invoke r m => simp [isPure, hc] at hp
    | builtin b =>
      cases b <;> simp [isPure, hc] at hp <;> simp only [hc] at h ⊢ <;> (repeat' split at h) <;> first
        | (cases h; done)
        | (simp only [Option.some.injEq, Prod.mk.injEq] at h
           obtain ⟨rfl, rfl⟩ := h
           exact ⟨rfl, fun s2 => by simp_all⟩)
  case makeFunc fn first captured =>
    simp only [hop] at h ⊢
    cases fn with
    | func f =>
      simp only at h ⊢
      split at h
      · rename_i h1 h2
        simp only [Option.some.injEq, Prod.mk.injEq] at h
        obtain ⟨rfl, rfl⟩ := h
        exact ⟨rfl, fun s2 => rfl⟩
      · cases h
    | method n => cases h
    | methodOf t n => cases h
    | via t p f q => cases h
    | yield l => cases h
  all_goals (rw [hop] at hp)
  all_goals (try exact (Bool.false_ne_true hp).elim)
  all_goals (simp only [hop, Bool.cond_eq_ite] at h ⊢)
  all_goals ((repeat' split at h) <;> first
    | (cases h; done)
    | (simp only [Option.some.injEq, Prod.mk.injEq] at h
       obtain ⟨rfl, rfl⟩ := h
       exact ⟨rfl, fun s2 => by simp_all⟩))
end
end Ab
end Go.Proofs.YtbfppnppijcnlaaGreat
namespace Go.Proofs.YtbfppnppijcnlaaGreat
namespace Ab
set_option linter.unusedVariables false
set_option linter.unusedSimpArgs false
section
variable {P : Program} {V : Nat → Value} {E : Env}
/-- The state of things when the steps of a set have been made. -/
structure Inv (V : Nat → Value) (ρ0 : Rho) (s : St) (w0 : World) (t : Sl) (L : List PR) (D : DS) (X : Nat → Bool) (ρ : Rho) (a : Act) (w : World) : Prop where
  tr : TR V ρ (tfold t (only X L)) a
  h : ∀ i B, Hist s (only X L) i B → ∃ b cs, ρ.blk i = some b ∧ w.heap[b]? = some (.cells cs B.ty (0, 0)) ∧ BR V ρ b B cs
  inj : ∀ i j B C b, Hist s (only X L) i B → Hist s (only X L) j C → ρ.blk i = some b → ρ.blk j = some b → i = j
  bnd : ∀ i b, ρ.blk i = some b → b < w.heap.size
  dom : ∀ i b, ρ.blk i = some b → ρ0.blk i = some b ∨ ∃ r ∈ L, X r.i = true ∧ r.n ≤ i ∧ i < r.s1.next
  domc : ∀ i b, ρ.cap i = some b → ρ0.cap i = some b ∨ ∃ r ∈ L, X r.i = true ∧ r.c ≤ i ∧ i < r.s1.ncap
  old : ∀ i, (i < s.next ∨ D.s.next ≤ i) → ρ.blk i = ρ0.blk i
  oldc : ∀ i, (i < s.ncap ∨ D.s.ncap ≤ i) → ρ.cap i = ρ0.cap i
  le : Le ρ0 ρ
  fr : ∀ b, b < w0.heap.size → (∀ i ∈ D.s.dirty, i < s.next → ρ0.blk i ≠ some b) → w.heap[b]? = w0.heap[b]?
  new : ∀ i b, s.next ≤ i → i < D.s.next → ρ.blk i = some b → w0.heap.size ≤ b ∨ ∃ j ∈ D.s.dirty, j < s.next ∧ ρ0.blk j = some b
  os : w.os = w0.os
  tape : w.tape = w0.tape
  out : w.output = w0.output
  size : w0.heap.size ≤ w.heap.size
  rokW : ∀ r ∈ L, X r.i = true → ∀ j ∈ r.W, j < r.n ∧ (s.next ≤ j ∨ (look s.heap j).isSome = true)
  rokL : ∀ r ∈ L, X r.i = true → ∀ i B, look r.s1.heap i = some B → i < r.s1.next
/-- What a step's run gives. -/
structure SF (V : Nat → Value) (s : St) (L : List PR) (X : Nat → Bool) (r : PR) (ρ : Rho) (w : World) (ρ' : Rho) (w' : World) (c : Value) : Prop where
  blk : ∀ i, (i < r.n ∨ r.s1.next ≤ i) → ρ'.blk i = ρ.blk i
  cap : ∀ i, (i < r.c ∨ r.s1.ncap ≤ i) → ρ'.cap i = ρ.cap i
  le : Le ρ ρ'
  fr : ∀ b, b < w.heap.size → (∀ j ∈ r.W, ρ.blk j ≠ some b) → w'.heap[b]? = w.heap[b]?
  new : ∀ i b, r.n ≤ i → i < r.s1.next → ρ'.blk i = some b → w.heap.size ≤ b ∨ ∃ j ∈ r.W, ρ.blk j = some b
  kn : ∀ j ∈ r.W, j < r.n ∧ ∃ C, Hist s (only X L) j C
  h : ∀ i B, i ∈ r.ids → look r.s1.heap i = some B → ∃ b cs, ρ'.blk i = some b ∧ w'.heap[b]? = some (.cells cs B.ty (0, 0)) ∧ BR V ρ' b B cs
  inj : ∀ i j B C b, i ∈ r.ids → j ∈ r.ids → look r.s1.heap i = some B → look r.s1.heap j = some C → ρ'.blk i = some b → ρ'.blk j = some b → i = j
  lt : ∀ i B, look r.s1.heap i = some B → i < r.s1.next
  bnd : ∀ i b, ρ'.blk i = some b → b < w'.heap.size
  os : w'.os = w.os
  tape : w'.tape = w.tape
  out : w'.output = w.output
  size : w.heap.size ≤ w'.heap.size
  v : VR V ρ' r.v c
  free : ∀ i, r.n ≤ i → i < r.s1.next → ρ.blk i = none
  pw : isPure r.o.op = true → r.W = []
theorem only_append (X : Nat → Bool) (N O : List PR) : only X (N ++ O) = only X N ++ only X O := List.filter_append ..
theorem only_mem {X : Nat → Bool} {L : List PR} {r : PR} : r ∈ only X L ↔ r ∈ L ∧ X r.i = true := List.mem_filter
theorem only_cons_no {X : Nat → Bool} {r : PR} {O : List PR} (h : X r.i = false) : only X (r :: O) = only X O := by
  unfold only
  rw [List.filter_cons_of_neg (by simp [h])]
theorem only_cons_yes {X : Nat → Bool} {r : PR} {O : List PR} (h : X r.i = true) : only X (r :: O) = r :: only X O := by
  unfold only
  rw [List.filter_cons_of_pos (by exact h)]
theorem only_congr {X Y : Nat → Bool} : ∀ {L : List PR}, (∀ r ∈ L, X r.i = Y r.i) → only X L = only Y L
  | [], _ => rfl
  | r :: L, h => by
    have ih := only_congr (L := L) (fun r' hr' => h r' (by simp [hr']))
    cases hx : X r.i
    · rw [only_cons_no hx, only_cons_no (by rw [← h r (by simp)]; exact hx), ih]
    · rw [only_cons_yes hx, only_cons_yes (by rw [← h r (by simp)]; exact hx), ih]
/-- One step, whatever has gone before, out of what is known of its operation. -/
theorem step_sfG {call : Call1} (hup : CallUp call) {ops : Array Oper} {B : List Nat} (hB : BOK ops B) {t : Sl} {s : St} {D : DS} {N O : List PR} {r : PR} (ht : Trace E call ops B t s D (N ++ r :: O))
    {X : Nat → Bool} (hX : ∀ i j, X i = true → (B.getD i 0).testBit j = true → X j = true) (hk : X r.i = false) (hBk : ∀ j, (B.getD r.i 0).testBit j = true → X j = true) (hs0 : ∀ i C, look s.heap i = some C → i < s.next)
    {ρ0 ρ : Rho} {w0 w : World} {a : Act} (hI : Inv V ρ0 s w0 t (N ++ r :: O) D X ρ a w) (hfree : ∀ i, s.next ≤ i → i < D.s.next → ρ0.blk i = none) (hfreec : ∀ i, s.ncap ≤ i → i < D.s.ncap → ρ0.cap i = none)
    {Z : Value → World → Prop} {K : Act → World → Prop} {Q : Exit → Act → World → Prop}
    (hst : ∀ {t' : Sl} {s' s1 : St} {v : AV}, stepA E call ops t' s' r.o = some (v, s1) → TR V ρ t' a → Rep V ρ s' w → Free ρ s' s1 → ∀ {K : Act → World → Prop}, (∀ ρ' c w', Goes V ρ s' w s1 w' ρ' → VR V ρ' v c → Z c w' → K (a.put r.o.dst c) w') → wpOp P ops Q r.i K a w)
    (hK : ∀ ρ' c w', SF V s (N ++ r :: O) X r ρ w ρ' w' c → Z c w' → K (a.put r.o.dst c) w') : wpOp P ops Q r.i K a w := by
  obtain ⟨D0, bk, tr0, sc, hN⟩ := trace_at hup N ht
  have hbk : B.getD r.i 0 = bk := by rw [List.getD_eq_getElem?_getD, sc.hb]; rfl
  rw [hbk] at hBk
  have tf0 := trace_tf hup tr0
  have tfD := trace_tf hup ht
  obtain ⟨hT0, hH0, hD1, hD2, hD3⟩ := trace_hist tr0
  -- the later steps that have been made are not ordered against this one
  have hNX : ∀ r' ∈ N, X r'.i = true → r'.i ≠ r.i ∧ bk.testBit r'.i = false ∧ (B.getD r'.i 0).testBit r.i = false := by
    intro r' hr' hx
    obtain ⟨h1, _, _, _, h2⟩ := hN r' hr'
    refine ⟨h1, h2, ?_⟩
    cases hb : (B.getD r'.i 0).testBit r.i
    · rfl
    · rw [hX _ _ hx hb] at hk
      cases hk
  have hOi : ∀ r' ∈ O, r'.i ≠ r.i := by
    intro r' hr' e
    have := (tf0.bits r.i).2 ⟨r', hr', e⟩
    rw [sc.nb] at this
    cases this
  have hOB : ∀ r' ∈ O, (B.getD r'.i 0).testBit r.i = false := by
    intro r' hr'
    cases hb : (B.getD r'.i 0).testBit r.i
    · rfl
    · exfalso
      obtain ⟨O1, O2, rfl⟩ := List.append_of_mem hr'
      obtain ⟨D1, bk1, tr1, sc1, _⟩ := trace_at hup O1 tr0
      have hb1 : B.getD r'.i 0 = bk1 := by rw [List.getD_eq_getElem?_getD, sc1.hb]; rfl
      rw [hb1] at hb
      have h1 : D1.bits.testBit r.i = true := by
        have := congrArg (fun z => z.testBit r.i) sc1.su
        simp only [Nat.testBit_and, hb, Bool.true_and] at this
        exact this
      obtain ⟨q, hq, he⟩ := ((trace_tf hup tr1).bits r.i).1 h1
      exact hOi q (by simp [hq]) he
  -- the record of every step has its operation
  have hrec : ∀ r' ∈ N ++ r :: O, ops[r'.i]? = some r'.o := by
    intro r' hr'
    obtain ⟨L1, L2, e⟩ := List.append_of_mem hr'
    have ht' := ht
    rw [e] at ht'
    obtain ⟨_, _, _, sc1, _⟩ := trace_at hup L1 ht'
    exact sc1.ho
  have hmaskN : ∀ r' ∈ N, X r'.i = true → ∀ e, r'.o.dst = some e → r.o.dst ≠ some e := by
    intro r' hr' hx e he
    obtain ⟨h1, h2, h3⟩ := hNX r' hr' hx
    have := dstOk_ok B bk r.i r.o.dst ops.toList 0 sc.ds r'.i r'.o (by simpa using hrec r' (by simp [hr'])) (by omega) (by simpa using h2) (by simpa using h3) e he
    exact this
  -- the slots
  have htv : TR V ρ (viewT ops B bk r.i D0) a := by
    have hlen : (viewT ops B bk r.i D0).length = t.length := by
      have : ∀ (l : List Oper) (j : Nat) (u : Sl), (maskA B bk r.i l j u).length = u.length := by
        intro l
        induction l with
        | nil => intro j u; rfl
        | cons o l ih =>
          intro j u
          rw [maskA_cons]
          rw [ih]
          cases (Nat.beq j r.i || bk.testBit j || (B.getD j 0).testBit r.i) <;> simp [put_length]
      unfold viewT
      rw [this, hT0, tfold_length]
    refine ⟨by rw [hlen, hI.tr.z, tfold_length], fun e => ?_, hI.tr.df⟩
    rcases mask_look B bk r.i e ops.toList 0 D0.t with h1 | ⟨h1, h2⟩
    · unfold viewT
      rw [h1]
      exact trivial
    · unfold viewT
      rw [h1]
      have hv := hI.tr.v e
      by_cases he : e < t.length
      · have hno : ∀ r' ∈ N ++ r :: O, r'.i ≠ r.i → bk.testBit r'.i = false → (B.getD r'.i 0).testBit r.i = false → r'.o.dst ≠ some e := by
          intro r' hr' g1 g2 g3
          exact h2 r'.i r'.o (by simpa using hrec r' hr') (by omega) (by simpa using g2) (by simpa using g3) (by rw [hT0, tfold_length]; exact he)
        have e1 : lget (tfold t (only X (N ++ r :: O))) e = lget (tfold t O) e := by
          rw [only_append, only_cons_no hk, tfold_newer]
          · refine tfold_only t X e O (fun r' hr' hx => ?_)
            refine hno r' (by simp [hr']) (hOi r' hr') ?_ (hOB r' hr')
            cases hb : bk.testBit r'.i
            · rfl
            · rw [hBk _ hb] at hx
              cases hx
          · intro r' hr'
            rw [only_mem] at hr'
            obtain ⟨g1, g2, g3⟩ := hNX r' hr'.1 hr'.2
            exact hno r' (by simp [hr'.1]) g1 g2 g3
        rw [hT0, ← e1]
        exact hv
      · have e1 : ∀ u : Sl, u.length = t.length → lget u e = .undef := fun u hu => lget_far (by rw [hu]; exact he)
        rw [e1 _ (by rw [tfold_length])] at hv
        rw [e1 _ (by rw [hT0, tfold_length])]
        exact hv
  -- what the view knows
  have hview : ∀ i C, look (viewS bk D0).heap i = some C → Hist s (only X O) i C := by
    intro i C hC
    obtain ⟨g1, g2⟩ := hide_look _ _ _ _ hC
    rw [tf0.recs] at g1
    exact hist_only (bk := bk) O i C (hH0 i C g2) (hidden_iff bk O i g1) (fun r' hr' hb => hBk _ hb)
  have hlt : ∀ (M : List PR), (∀ r' ∈ M, r' ∈ O ∧ X r'.i = true) → ∀ i C, Hist s M i C → i < D0.s.next := by
    intro M
    induction M with
    | nil =>
      intro _ i C hC
      exact Nat.lt_of_lt_of_le (hs0 i C hC) tf0.s.1
    | cons q M ih =>
      intro hM i C hC
      rcases hC with ⟨_, h2⟩ | ⟨_, h2⟩
      · obtain ⟨g1, g2⟩ := hM q (by simp)
        exact Nat.lt_of_lt_of_le (hI.rokL q (by simp [g1]) g2 i C h2) (tf0.up q g1).1
      · exact ih (fun r' hr' => hM r' (by simp [hr'])) i C h2
  have hviewlt : ∀ i C, look (viewS bk D0).heap i = some C → i < D0.s.next := fun i C hC => hlt (only X O) (fun r' hr' => only_mem.1 hr') i C (hview i C hC)
  have hstep := stepA_up hup sc.st
  have hst1 : D0.s.next ≤ r.s1.next := hstep.1
  have hst2 : D0.s.ncap ≤ r.s1.ncap := hstep.2
  have hrin : r ∈ N ++ r :: O := by simp
  have hfr : ∀ i, D0.s.next ≤ i → i < r.s1.next → ρ.blk i = none := by
    intro i h1 h2
    cases hb : ρ.blk i with
    | none => rfl
    | some b =>
      exfalso
      rcases hI.dom i b hb with h3 | ⟨r', h3, h4, h5, h6⟩
      · have := hfree i (Nat.le_trans tf0.s.1 h1) (Nat.lt_of_lt_of_le h2 (tfD.up r hrin).1)
        rw [this] at h3
        cases h3
      · rcases List.mem_append.1 h3 with h7 | h7
        · have := (hN r' h7).2.1
          omega
        · cases h7 with
          | head => rw [h4] at hk; cases hk
          | tail _ h7 =>
            have := (tf0.up r' h7).1
            omega
  have hfrc : ∀ i, D0.s.ncap ≤ i → i < r.s1.ncap → ρ.cap i = none := by
    intro i h1 h2
    cases hb : ρ.cap i with
    | none => rfl
    | some b =>
      exfalso
      rcases hI.domc i b hb with h3 | ⟨r', h3, h4, h5, h6⟩
      · have := hfreec i (Nat.le_trans tf0.s.2 h1) (Nat.lt_of_lt_of_le h2 (tfD.up r hrin).2.1)
        rw [this] at h3
        cases h3
      · rcases List.mem_append.1 h3 with h7 | h7
        · have := (hN r' h7).2.2.1
          omega
        · cases h7 with
          | head => rw [h4] at hk; cases hk
          | tail _ h7 =>
            have := (tf0.up r' h7).2.1
            omega
  have hWlt : ∀ j ∈ r.W, j < r.n := by
    intro j hj
    rw [sc.W] at hj
    have := (List.mem_filter.1 hj).2
    rw [sc.n]
    have := Nat.le_of_ble_eq_true (show Nat.ble (j + 1) D0.s.next = true from this)
    omega
  have hids : ∀ i ∈ r.ids, i ∈ r.W ∨ r.n ≤ i := by
    intro i hi
    rw [sc.ids] at hi
    rcases List.mem_append.1 hi with hi | hi
    · exact .inl hi
    · exact .inr (by rw [sc.n]; exact newIds_ge _ _ _ hi)
  by_cases hp : isPure r.o.op = true
  · -- an operation that asks nothing of memory
    have hps : r.s1 = viewS bk D0 ∧ ∀ s2, stepA E call ops (viewT ops B bk r.i D0) s2 r.o = some (r.v, s2) := by
      have h := sc.st
      simp only [stepA_eq] at h ⊢
      unfold stepA0 at h ⊢
      split at h
      · rename_i hw
        exact pure_op hp h
      · rename_i hw
        simp only [Option.some.injEq, Prod.mk.injEq] at h
        exact ⟨h.2.symm, fun s2 => by rw [h.1]⟩
      · cases h
    obtain ⟨hp1, hp2⟩ := hps
    have hW0 : r.W = [] := by
      rw [sc.W, hp1]
      rfl
    have hr0 : Rep V ρ { (viewS bk D0) with heap := [] } w := ⟨fun i C hC => (by simp [look_n, look_c] at hC), fun i j C D b hC => (by simp [look_n, look_c] at hC), hI.bnd, fun i C hC => (by simp [look_n, look_c] at hC)⟩
    refine hst (hp2 { (viewS bk D0) with heap := [] }) htv hr0 ⟨fun i h1 h2 => absurd h2 (by omega), fun i h1 h2 => absurd h2 (by omega)⟩ ?_
    intro ρ' c w' hg hv hz
    obtain ⟨g1, g2, g3⟩ := hg
    have hb : ∀ i, ρ'.blk i = ρ.blk i := fun i => g2.blk i (by omega)
    have hc : ∀ i, ρ'.cap i = ρ.cap i := fun i => g2.cap i (by omega)
    have hvac : ∀ i C, i ∈ r.ids → look r.s1.heap i = some C → False := by
      intro i C hi hC
      rw [hp1] at hC
      have h1 := hviewlt i C hC
      rcases hids i hi with h2 | h2
      · rw [hW0] at h2
        cases h2
      · rw [sc.n] at h2
        omega
    refine hK ρ' c w' ⟨fun i _ => hb i, fun i _ => hc i, g3, fun b h1 _ => g2.fr b h1 (fun i hi _ => by cases hi), fun i b h1 h2 h3 => ?_, fun j hj => (by rw [hW0] at hj; cases hj), fun i C h1 h2 => (hvac i C h1 h2).elim, fun i j C D b h1 _ h2 => (hvac i C h1 h2).elim, fun i C hC => ?_, g1.bnd, g2.os, g2.tape, g2.out, g2.size, hv, fun i h1 h2 => hfr i (by rw [sc.n] at h1; exact h1) h2, fun _ => hW0⟩ hz
    · rw [hp1] at h2
      rw [sc.n] at h1
      exact absurd h2 (by
        show ¬ i < D0.s.next
        omega)
    · rw [hp1] at hC ⊢
      exact hviewlt i C hC
  · -- an operation that looks at memory
    have hNW : ∀ r' ∈ N, X r'.i = true → r'.W = [] := by
      intro r' hr' hx
      obtain ⟨_, _, g3⟩ := hNX r' hr' hx
      rcases (hN r' hr').2.2.2.1 with h1 | h1 | h1
      · exact h1
      · rw [g3] at h1
        cases h1
      · exact absurd h1 hp
    have hup2 : ∀ i C, Hist s (only X O) i C → Hist s (only X (N ++ r :: O)) i C := by
      intro i C hC
      rw [only_append, only_cons_no hk]
      refine hist_newer _ _ i C hC (fun r' hr' => ?_)
      rw [only_mem] at hr'
      rw [hNW r' hr'.1 hr'.2]
      simp
    have hr0 : Rep V ρ (viewS bk D0) w := ⟨fun i C hC => hI.h i C (hup2 i C (hview i C hC)), fun i j C D b hC hD => hI.inj i j C D b (hup2 i C (hview i C hC)) (hup2 j D (hview j D hD)), hI.bnd, hviewlt⟩
    refine hst sc.st htv hr0 ⟨hfr, hfrc⟩ ?_
    intro ρ' c w' hg hv hz
    obtain ⟨g1, g2, g3⟩ := hg
    have hWi : ∀ j, j ∈ r.s1.dirty → j < D0.s.next → j ∈ r.W := by
      intro j h1 h2
      rw [sc.W]
      refine List.mem_filter.2 ⟨h1, ?_⟩
      exact Nat.ble_eq_true_of_le (show j + 1 ≤ D0.s.next from h2)
    refine hK ρ' c w' ⟨fun i h1 => g2.blk i (by rw [sc.n] at h1; exact h1), fun i h1 => g2.cap i (by rw [sc.c] at h1; exact h1), g3, fun b h1 h2 => g2.fr b h1 (fun i hi hl => h2 i (hWi i hi hl)), fun i b h1 h2 h3 => ?_, fun j hj => ⟨hWlt j hj, ?_⟩, fun i C h1 h2 => g1.h i C h2, fun i j C D b _ _ h1 h2 => g1.inj i j C D b h1 h2, g1.lt, g1.bnd, g2.os, g2.tape, g2.out, g2.size, hv, fun i h1 h2 => hfr i (by rw [sc.n] at h1; exact h1) h2, fun h => absurd h hp⟩ hz
    · rw [sc.n] at h1
      rcases g2.new i b h1 h2 h3 with h4 | ⟨j, h4, h5, h6⟩
      · exact .inl h4
      · exact .inr ⟨j, hWi j h4 h5, h6⟩
    · have hjl := hWlt j hj
      rw [sc.n] at hjl
      rw [sc.W] at hj
      rcases g2.own j (List.mem_filter.1 hj).1 with h1 | h1 | h1
      · cases h1
      · exact absurd hjl (by
          show ¬ j < D0.s.next
          have h1 : D0.s.next ≤ j := h1
          omega)
      · obtain ⟨C, hC⟩ := Option.isSome_iff_exists.1 h1
        exact ⟨C, hup2 j C (hview j C hC)⟩
/-- One step, whatever has gone before. -/
theorem step_sf (hE : EnvOK P V E) {call : Call1} (hcall : CallOK P V call) (hfn : CallFn E call) (hup : CallUp call) {ops : Array Oper} {B : List Nat} (hB : BOK ops B) {t : Sl} {s : St} {D : DS} {N O : List PR} {r : PR} (ht : Trace E call ops B t s D (N ++ r :: O))
    {X : Nat → Bool} (hX : ∀ i j, X i = true → (B.getD i 0).testBit j = true → X j = true) (hk : X r.i = false) (hBk : ∀ j, (B.getD r.i 0).testBit j = true → X j = true) (hs0 : ∀ i C, look s.heap i = some C → i < s.next)
    {ρ0 ρ : Rho} {w0 w : World} {a : Act} (hI : Inv V ρ0 s w0 t (N ++ r :: O) D X ρ a w) (hfree : ∀ i, s.next ≤ i → i < D.s.next → ρ0.blk i = none) (hfreec : ∀ i, s.ncap ≤ i → i < D.s.ncap → ρ0.cap i = none)
    {K : Act → World → Prop} {Q : Exit → Act → World → Prop} (hK : ∀ ρ' c w', SF V s (N ++ r :: O) X r ρ w ρ' w' c → K (a.put r.o.dst c) w') : wpOp P ops Q r.i K a w := by
  obtain ⟨D0, bk, tr0, sc, hN⟩ := trace_at hup N ht
  refine step_sfG (Z := fun _ _ => True) hup hB ht hX hk hBk hs0 hI hfree hfreec ?_ (fun ρ' c w' h _ => hK ρ' c w' h)
  intro t' s' s1 v h1 h2 h3 h4 K hK
  exact step_ok hE hcall hfn sc.ho h1 h2 h3 h4 (fun ρ' c w' g1 g2 => hK ρ' c w' g1 g2 trivial)
/-- The state of things behind a step. -/
theorem inv_step {call : Call1} (hup : CallUp call) {ops : Array Oper} {B : List Nat} (hB : BOK ops B) {t : Sl} {s : St} {D : DS} {N O : List PR} {r : PR} (ht : Trace E call ops B t s D (N ++ r :: O))
    {X : Nat → Bool} (hX : ∀ i j, X i = true → (B.getD i 0).testBit j = true → X j = true) (hk : X r.i = false)
    {ρ0 ρ ρ' : Rho} {w0 w w' : World} {a : Act} {c : Value} (hI : Inv V ρ0 s w0 t (N ++ r :: O) D X ρ a w) (hf : SF V s (N ++ r :: O) X r ρ w ρ' w' c) {Y : Nat → Bool} (hY : ∀ j, Y j = if j = r.i then true else X j) :
    Inv V ρ0 s w0 t (N ++ r :: O) D Y ρ' (a.put r.o.dst c) w' := by
  obtain ⟨D0, bk, tr0, sc, hN⟩ := trace_at hup N ht
  have tf0 := trace_tf hup tr0
  have tfD := trace_tf hup ht
  have hrin : r ∈ N ++ r :: O := by simp
  have hur := tfD.up r hrin
  have hOi : ∀ r' ∈ O, r'.i ≠ r.i := by
    intro r' hr' e
    have := (tf0.bits r.i).2 ⟨r', hr', e⟩
    rw [sc.nb] at this
    cases this
  have hYr : Y r.i = true := by rw [hY, if_pos rfl]
  have hYo : ∀ j, j ≠ r.i → Y j = X j := fun j hj => by rw [hY, if_neg hj]
  have hYX : ∀ j, X j = true → Y j = true := fun j hj => by
    by_cases h : j = r.i
    · rw [h]; exact hYr
    · rw [hYo j h]; exact hj
  have eN : only Y N = only X N := only_congr fun r' hr' => hYo _ (hN r' hr').1
  have eO : only Y O = only X O := only_congr fun r' hr' => hYo _ (hOi r' hr')
  have eY : only Y (N ++ r :: O) = only X N ++ r :: only X O := by rw [only_append, only_cons_yes hYr, eN, eO]
  have eX : only X (N ++ r :: O) = only X N ++ only X O := by rw [only_append, only_cons_no hk]
  have hrec : ∀ r' ∈ N ++ r :: O, ops[r'.i]? = some r'.o := by
    intro r' hr'
    obtain ⟨L1, L2, e⟩ := List.append_of_mem hr'
    have ht' := ht
    rw [e] at ht'
    obtain ⟨_, _, _, sc1, _⟩ := trace_at hup L1 ht'
    exact sc1.ho
  have hNX : ∀ r' ∈ N, X r'.i = true → bk.testBit r'.i = false ∧ (B.getD r'.i 0).testBit r.i = false := by
    intro r' hr' hx
    refine ⟨(hN r' hr').2.2.2.2, ?_⟩
    cases hb : (B.getD r'.i 0).testBit r.i
    · rfl
    · rw [hX _ _ hx hb] at hk
      cases hk
  have hmaskN : ∀ r' ∈ only X N, ∀ d, r'.o.dst = some d → r.o.dst ≠ some d := by
    intro r' hr' e he
    obtain ⟨hr', hx⟩ := only_mem.1 hr'
    obtain ⟨h2, h3⟩ := hNX r' hr' hx
    have h1 := (hN r' hr').1
    exact dstOk_ok B bk r.i r.o.dst ops.toList 0 sc.ds r'.i r'.o (by simpa using hrec r' (by simp [hr'])) (by omega) (by simpa using h2) (by simpa using h3) e he
  have hidsG : ∀ r' ∈ N ++ r :: O, ∀ i ∈ r'.ids, i ∈ r'.W ∨ r'.n ≤ i := by
    intro r' hr' i hi
    obtain ⟨L1, L2, e⟩ := List.append_of_mem hr'
    have ht' := ht
    rw [e] at ht'
    obtain ⟨_, _, _, sc1, _⟩ := trace_at hup L1 ht'
    rw [sc1.ids] at hi
    rcases List.mem_append.1 hi with hi | hi
    · exact .inl hi
    · exact .inr (by rw [sc1.n]; exact newIds_ge _ _ _ hi)
  have hLY : ∀ r' ∈ N ++ r :: O, Y r'.i = true → r' = r ∨ X r'.i = true := by
    intro r' hr' hy
    by_cases e : r'.i = r.i
    · rcases List.mem_append.1 hr' with h | h
      · exact absurd e (hN r' h).1
      · cases h with
        | head => exact .inl rfl
        | tail _ h => exact absurd e (hOi r' h)
    · exact .inr (by rw [← hYo _ e]; exact hy)
  -- what a fact is now: one of the step's own, or an old one that the step has not written
  have hfact : ∀ i C, Hist s (only Y (N ++ r :: O)) i C → (i ∈ r.ids ∧ look r.s1.heap i = some C) ∨ (Hist s (only X (N ++ r :: O)) i C ∧ i ∉ r.W) := by
    intro i C hC
    rw [eY] at hC
    rcases hist_mid r _ _ i C hC with ⟨h1, h2, _⟩ | ⟨h1, h2⟩
    · exact .inl ⟨h1, h2⟩
    · rw [← eX] at h1
      refine .inr ⟨h1, ?_⟩
      rcases h2 with h2 | ⟨r', h2, h3⟩
      · exact h2
      · obtain ⟨h4, hx⟩ := only_mem.1 h2
        obtain ⟨_, k2, _, k4, _⟩ := hN r' h4
        rcases hidsG r' (by simp [h4]) i h3 with h5 | h5
        · rcases k4 with k4 | k4 | k4
          · rw [k4] at h5
            cases h5
          · rw [(hNX r' h4 hx).2] at k4
            cases k4
          · rw [hf.pw k4]
            simp
        · intro h6
          have := (hf.kn i h6).1
          have := hur.2.2.2.2.1
          omega
  have hold : ∀ i C, Hist s (only X (N ++ r :: O)) i C → i ∉ r.W → ∃ b cs, ρ.blk i = some b ∧ ρ'.blk i = some b ∧ w'.heap[b]? = some (.cells cs C.ty (0, 0)) ∧ BR V ρ' b C cs := by
    intro i C h1 h2
    obtain ⟨b, cs, q1, q2, q3⟩ := hI.h i C h1
    refine ⟨b, cs, q1, hf.le.1 _ _ q1, (hf.fr b (hI.bnd i b q1) ?_).trans q2, q3.mono V hf.le⟩
    intro j hj e
    obtain ⟨_, C', hC'⟩ := hf.kn j hj
    exact h2 (hI.inj i j C C' b h1 hC' q1 e ▸ hj)
  have hcross : ∀ i j C C' b, i ∈ r.ids → look r.s1.heap i = some C → Hist s (only X (N ++ r :: O)) j C' → j ∉ r.W → ρ'.blk i = some b → ρ'.blk j = some b → False := by
    intro i j C C' b h1 h2 h3 h4 h5 h6
    obtain ⟨bj, cs, q1, q2, _⟩ := hold j C' h3 h4
    rw [q2] at h6
    injection h6 with h6
    subst h6
    rcases hidsG r hrin i h1 with h7 | h7
    · obtain ⟨k1, C2, k2⟩ := hf.kn i h7
      have h8 : ρ.blk i = some bj := by rw [← hf.blk i (.inl k1)]; exact h5
      exact h4 (hI.inj i j C2 C' bj k2 h3 h8 q1 ▸ h7)
    · rcases hf.new i bj h7 (hf.lt i C h2) h5 with h8 | ⟨j', h8, h9⟩
      · have := hI.bnd j bj q1
        omega
      · obtain ⟨_, C2, k2⟩ := hf.kn j' h8
        exact h4 (hI.inj j' j C2 C' bj k2 h3 h9 q1 ▸ h8)
  have hWD : ∀ j ∈ r.W, j ∈ D.s.dirty := (trace_hist ht).2.2.2.1 r hrin
  have hown : ∀ M : List PR, (∀ r' ∈ M, r' ∈ N ++ r :: O ∧ X r'.i = true) → ∀ i C, Hist s M i C → s.next ≤ i ∨ (look s.heap i).isSome = true := by
    intro M
    induction M with
    | nil =>
      intro _ i C hC
      exact .inr (by rw [show look s.heap i = some C from hC]; rfl)
    | cons q M ih =>
      intro hM i C hC
      obtain ⟨g1, g2⟩ := hM q (by simp)
      rcases hC with ⟨h1, _⟩ | ⟨_, h2⟩
      · rcases hidsG q g1 i h1 with h3 | h3
        · exact (hI.rokW q g1 g2 i h3).2
        · exact .inl (Nat.le_trans (tfD.up q g1).2.2.1 h3)
      · exact ih (fun r' hr' => hM r' (by simp [hr'])) i C h2
  constructor
  · have hp := tr_put (hI.tr.mono V hf.le) hf.v r.o.dst
    refine ⟨by rw [hp.z, put_length, tfold_length, tfold_length], fun e => ?_, hp.df⟩
    rw [eY, tfold_mid t r e _ _ hmaskN, ← eX]
    exact hp.v e
  · intro i C hC
    rcases hfact i C hC with ⟨h1, h2⟩ | ⟨h1, h2⟩
    · exact hf.h i C h1 h2
    · obtain ⟨b, cs, _, q2, q3, q4⟩ := hold i C h1 h2
      exact ⟨b, cs, q2, q3, q4⟩
  · intro i j C C' b hC hD h1 h2
    rcases hfact i C hC with ⟨g1, g2⟩ | ⟨g1, g2⟩
    · rcases hfact j C' hD with ⟨k1, k2⟩ | ⟨k1, k2⟩
      · exact hf.inj i j C C' b g1 k1 g2 k2 h1 h2
      · exact (hcross i j C C' b g1 g2 k1 k2 h1 h2).elim
    · rcases hfact j C' hD with ⟨k1, k2⟩ | ⟨k1, k2⟩
      · exact (hcross j i C' C b k1 k2 g1 g2 h2 h1).elim
      · obtain ⟨b1, _, q1, q2, _⟩ := hold i C g1 g2
        obtain ⟨b2, _, p1, p2, _⟩ := hold j C' k1 k2
        rw [q2] at h1
        rw [p2] at h2
        injection h1 with h1
        injection h2 with h2
        subst h1
        subst h2
        exact hI.inj i j C C' _ g1 k1 q1 p1
  · exact hf.bnd
  · intro i b h
    by_cases h1 : i < r.n ∨ r.s1.next ≤ i
    · rw [hf.blk i h1] at h
      rcases hI.dom i b h with h2 | ⟨r', h2, h3, h4⟩
      · exact .inl h2
      · exact .inr ⟨r', h2, hYX _ h3, h4⟩
    · exact .inr ⟨r, hrin, hYr, by omega, by omega⟩
  · intro i b h
    by_cases h1 : i < r.c ∨ r.s1.ncap ≤ i
    · rw [hf.cap i h1] at h
      rcases hI.domc i b h with h2 | ⟨r', h2, h3, h4⟩
      · exact .inl h2
      · exact .inr ⟨r', h2, hYX _ h3, h4⟩
    · exact .inr ⟨r, hrin, hYr, by omega, by omega⟩
  · intro i h
    rw [hf.blk i (by have := hur.1; have := hur.2.2.1; omega)]
    exact hI.old i h
  · intro i h
    rw [hf.cap i (by have := hur.2.1; have := hur.2.2.2.1; omega)]
    exact hI.oldc i h
  · exact hI.le.trans hf.le
  · intro b hb hd
    refine (hf.fr b (Nat.lt_of_lt_of_le hb hI.size) (fun j hj e => ?_)).trans (hI.fr b hb hd)
    have hjn := (hf.kn j hj).1
    by_cases h1 : j < s.next
    · exact hd j (hWD j hj) h1 (by rw [← hI.old j (.inl h1)]; exact e)
    · rcases hI.new j b (by omega) (by have := hur.1; have := hur.2.2.2.2.1; omega) e with h2 | ⟨j', h2, h3, h4⟩
      · omega
      · exact hd j' h2 h3 h4
  · intro i b h1 h2 h3
    by_cases h4 : i < r.n ∨ r.s1.next ≤ i
    · rw [hf.blk i h4] at h3
      exact hI.new i b h1 h2 h3
    · rcases hf.new i b (by omega) (by omega) h3 with h5 | ⟨j, h5, h6⟩
      · exact .inl (Nat.le_trans hI.size h5)
      · have hjn := (hf.kn j h5).1
        by_cases h7 : j < s.next
        · exact .inr ⟨j, hWD j h5, h7, by rw [← hI.old j (.inl h7)]; exact h6⟩
        · exact hI.new j b (by omega) (by have := hur.1; have := hur.2.2.2.2.1; omega) h6
  · exact hf.os.trans hI.os
  · exact hf.tape.trans hI.tape
  · exact hf.out.trans hI.out
  · exact Nat.le_trans hI.size hf.size
  · intro r' hr' hy j hj
    rcases hLY r' hr' hy with rfl | hx
    · obtain ⟨k1, C, k2⟩ := hf.kn j hj
      exact ⟨k1, hown _ (fun q hq => only_mem.1 hq) j C k2⟩
    · exact hI.rokW r' hr' hx j hj
  · intro r' hr' hy
    rcases hLY r' hr' hy with rfl | hx
    · exact hf.lt
    · exact hI.rokL r' hr' hx
end
end Ab
end Go.Proofs.YtbfppnppijcnlaaGreat
namespace Go.Proofs.YtbfppnppijcnlaaGreat
namespace Ab
set_option linter.unusedVariables false
set_option linter.unusedSimpArgs false
section
variable {P : Program} {V : Nat → Value} {E : Env}
theorem getD_set (listed : Array Bool) (k j : Nat) (hk : k < listed.size) : (listed.setIfInBounds k true).getD j false = if j = k then true else listed.getD j false := by
  by_cases h : j = k
  · subst h
    simp [Array.getD, hk]
  · rw [if_neg h]
    simp only [Array.getD_eq_getD_getElem?, Array.getElem?_setIfInBounds, if_neg (Ne.symm h)]
/-- Whatever the order. -/
theorem any_ok (hE : EnvOK P V E) {call : Call1} (hcall : CallOK P V call) (hfn : CallFn E call) (hup : CallUp call) {ops : Array Oper} {B : List Nat} (hB : BOK ops B) {t : Sl} {s : St} {D : DS} {L : List PR} (ht : Trace E call ops B t s D L)
    (hall : ∀ k, k < ops.size → ∃ r ∈ L, r.i = k) (hs0 : ∀ i C, look s.heap i = some C → i < s.next) {ρ0 : Rho} {w0 : World} (hfree : ∀ i, s.next ≤ i → i < D.s.next → ρ0.blk i = none) (hfreec : ∀ i, s.ncap ≤ i → i < D.s.ncap → ρ0.cap i = none)
    {Q : Exit → Act → World → Prop} (hQ : ∀ ρ' a' w', Goes V ρ0 s w0 D.s w' ρ' → TR V ρ' D.t a' → Q .normal a' w') : ∀ (fuel : Nat) (listed : Array Bool) (ρ : Rho) (a : Act) (w : World), listed.size = ops.size → (∃ l : List Nat, l.length ≤ fuel ∧ ∀ j, j < ops.size → listed.getD j false = false → j ∈ l) →
    (∀ i j, listed.getD i false = true → (B.getD i 0).testBit j = true → listed.getD j false = true) → Inv V ρ0 s w0 t L D (fun j => listed.getD j false) ρ a w → wpAny P .any ops Q fuel listed a w := by
  have tf := trace_tf hup ht
  obtain ⟨hT, hH, hD1, hD2, hD3⟩ := trace_hist ht
  have hrec : ∀ r ∈ L, ops[r.i]? = some r.o ∧ r.i < ops.size := by
    intro r' hr'
    obtain ⟨L1, L2, e⟩ := List.append_of_mem hr'
    have ht' := ht
    rw [e] at ht'
    obtain ⟨_, _, _, sc1, _⟩ := trace_at hup L1 ht'
    exact ⟨sc1.ho, (Array.getElem?_eq_some_iff.1 sc1.ho).1⟩
  -- the end
  have hend : ∀ (listed : Array Bool) (ρ : Rho) (a : Act) (w : World), (∀ j, j < ops.size → listed.getD j false = true) → Inv V ρ0 s w0 t L D (fun j => listed.getD j false) ρ a w → Q .normal a w := by
    intro listed ρ a w hl hI
    have eL : only (fun j => listed.getD j false) L = L := List.filter_eq_self.2 fun r hr => hl _ (hrec r hr).2
    obtain ⟨i1, i2, i3, i4, i5, i6, i7, i8, i9, i10, i11, i12, i13, i14, i15, i16, i17⟩ := hI
    rw [eL] at i1 i2 i3
    have hids : ∀ r ∈ L, ∀ i ∈ r.ids, i ∈ r.W ∨ r.n ≤ i := by
      intro r' hr' i hi
      obtain ⟨L1, L2, e⟩ := List.append_of_mem hr'
      have ht' := ht
      rw [e] at ht'
      obtain ⟨_, _, _, sc1, _⟩ := trace_at hup L1 ht'
      rw [sc1.ids] at hi
      rcases List.mem_append.1 hi with hi | hi
      · exact .inl hi
      · exact .inr (by rw [sc1.n]; exact newIds_ge _ _ _ hi)
    have hsub : ∀ M : List PR, (∀ r ∈ M, r ∈ L) → ∀ i C, Hist s M i C → i < D.s.next ∧ (s.next ≤ i ∨ (look s.heap i).isSome = true) := by
      intro M
      induction M with
      | nil =>
        intro _ i C hC
        have hC : look s.heap i = some C := hC
        exact ⟨Nat.lt_of_lt_of_le (hs0 i C hC) tf.s.1, .inr (by rw [hC]; rfl)⟩
      | cons q M ih =>
        intro hM i C hC
        have g1 := hM q (by simp)
        rcases hC with ⟨h1, h2⟩ | ⟨_, h2⟩
        · refine ⟨Nat.lt_of_lt_of_le (i17 q g1 (hl _ (hrec q g1).2) i C h2) (tf.up q g1).1, ?_⟩
          rcases hids q g1 i h1 with h3 | h3
          · exact (i16 q g1 (hl _ (hrec q g1).2) i h3).2
          · exact .inl (Nat.le_trans (tf.up q g1).2.2.1 h3)
        · exact ih (fun r' hr' => hM r' (by simp [hr'])) i C h2
    refine hQ ρ a w ⟨⟨fun i C hC => i2 i C (hH i C hC), fun i j C C' b hC hD => i3 i j C C' b (hH i C hC) (hH j C' hD), i4, fun i C hC => (hsub L (fun _ h => h) i C (hH i C hC)).1⟩, ?_, i9⟩ (by rw [hT]; exact i1)
    refine ⟨i7, i8, tf.s.1, tf.s.2, hD3, i10, i11, ?_, ?_, i12, i13, i14, i15⟩
    · intro j hj
      rcases hD1 j hj with h | ⟨r, h1, h2⟩
      · exact .inl h
      · exact .inr (i16 r h1 (hl _ (hrec r h1).2) j h2).2
    · intro j hj h
      obtain ⟨C, hC⟩ := Option.isSome_iff_exists.1 h
      rcases (hsub L (fun _ h => h) j C (hH j C hC)).2 with h1 | h1
      · omega
      · exact h1
  -- nothing ready: all made
  have hnone : ∀ (listed : Array Bool), listed.size = ops.size → Region.ready .any ops listed = [] → ∀ j, j < ops.size → listed.getD j false = true := by
    intro listed hz hr j
    induction j using Nat.strongRecOn with
    | _ j ih =>
      intro hj
      cases hb : listed.getD j false
      · exfalso
        have hm : j ∈ Region.ready .any ops listed := by
          rw [mem_ready]
          refine ⟨?_, ops[j], by simp [hj], fun e he hbd => ?_⟩
          · have hj' : j < listed.size := by omega
            simp [Array.getD, hj'] at hb ⊢
            exact hb
          · have := (hB j ops[j] (by simp [hj])).1 e he hbd
            exact ih e.on this (by omega)
        rw [hr] at hm
        cases hm
      · rfl
  intro fuel
  induction fuel with
  | zero =>
    intro listed ρ a w hz hc hcl hI
    obtain ⟨l, h1, h2⟩ := hc
    have hl : ∀ j, j < ops.size → listed.getD j false = true := by
      intro j hj
      cases hb : listed.getD j false
      · have := h2 j hj hb
        have hl0 : l = [] := List.eq_nil_of_length_eq_zero (by omega)
        rw [hl0] at this
        cases this
      · rfl
    refine ⟨?_, hend listed ρ a w hl hI⟩
    apply List.eq_nil_iff_forall_not_mem.2
    intro j hj
    rw [mem_ready] at hj
    obtain ⟨g1, o, g2, _⟩ := hj
    have hj' := (Array.getElem?_eq_some_iff.1 g2).1
    have := hl j hj'
    have hj2 : j < listed.size := by omega
    simp [Array.getD, hj2] at this g1
    rw [this] at g1
    cases g1
  | succ fuel ih =>
    intro listed ρ a w hz hc hcl hI
    refine ⟨fun hr => hend listed ρ a w (hnone listed hz hr) hI, ?_⟩
    intro k hk
    rw [mem_ready] at hk
    obtain ⟨g1, o, g2, g3⟩ := hk
    have hkz := (Array.getElem?_eq_some_iff.1 g2).1
    have hk2 : k < listed.size := by omega
    have hkf : listed.getD k false = false := by
      simp [Array.getD, hk2] at g1 ⊢
      exact g1
    obtain ⟨r, hr, rfl⟩ := hall k hkz
    obtain ⟨N, O, rfl⟩ := List.append_of_mem hr
    have hBk : ∀ j, (B.getD r.i 0).testBit j = true → listed.getD j false = true := by
      intro j hj
      obtain ⟨e, q1, q2, q3⟩ := (hB r.i o g2).2 j hj
      rcases q3 with rfl | q3
      · exact g3 e q1 q2
      · exact hcl _ _ (g3 e q1 q2) q3
    refine step_sf hE hcall hfn hup hB ht hcl hkf hBk hs0 hI hfree hfreec ?_
    intro ρ' c w' hf
    have hset := fun j => getD_set listed r.i j hk2
    have hI' := inv_step hup hB ht hcl hkf hI hf (Y := fun j => (listed.setIfInBounds r.i true).getD j false) hset
    refine ih _ ρ' _ w' (by simp [hz]) ?_ ?_ hI'
    · obtain ⟨l, h1, h2⟩ := hc
      refine ⟨l.erase r.i, ?_, fun j hj hb => ?_⟩
      · have := h2 r.i hkz hkf
        rw [List.length_erase_of_mem this]
        omega
      · rw [hset] at hb
        by_cases e : j = r.i
        · rw [if_pos e] at hb
          cases hb
        · rw [if_neg e] at hb
          exact (List.mem_erase_of_ne e).2 (h2 j hj hb)
    · intro i j h1 h2
      rw [hset] at h1 ⊢
      by_cases e : j = r.i
      · rw [if_pos e]
      · rw [if_neg e]
        by_cases e2 : i = r.i
        · rw [e2] at h2
          exact hBk j h2
        · rw [if_neg e2] at h1
          exact hcl i j h1 h2
theorem drawA_up {call : Call1} (hup : CallUp call) : DrawUp (drawA E call) := by
  intro ops t s t' s' h
  unfold drawA at h
  rw [beforeF_eq] at h
  split at h
  · cases h
  · rename_i B hB
    split at h
    · rename_i D hD
      simp only [Option.some.injEq, Prod.mk.injEq] at h
      obtain ⟨rfl, rfl⟩ := h
      obtain ⟨L, hL, _⟩ := drawList_trace _ (Trace.nil (E := E) (call := call) (ops := ops) (B := B) (t := t) (s := s)) hD
      exact (trace_tf hup hL).s
    · cases h
theorem draw_ok (hE : EnvOK P V E) {call : Call1} (hcall : CallOK P V call) (hfn : CallFn E call) (hup : CallUp call) : DrawOK P V (drawA E call) := by
  intro ops t s t' s' h id ρ a w ht hr hf Q hQ
  unfold drawA at h
  rw [beforeF_eq] at h
  split at h
  · cases h
  · rename_i B hB
    split at h
    · rename_i D hD
      simp only [Option.some.injEq, Prod.mk.injEq] at h
      obtain ⟨rfl, rfl⟩ := h
      obtain ⟨L, hL, _, hbits⟩ := drawList_trace _ (Trace.nil (E := E) (call := call) (ops := ops) (B := B) (t := t) (s := s)) hD
      have tf := trace_tf hup hL
      have hBl : B.length = ops.size := by
        have := beforeA_length _ _ _ _ hB
        simpa using this
      refine wp_region_any hE.mixed ?_
      refine any_ok hE hcall hfn hup (bok hB) hL (fun k hk => (tf.bits k).1 (hbits k (by simp [hk]) hk (by omega))) hr.lt (w0 := w) hf.b hf.c (fun ρ' a' w' hg h => hQ ρ' a' w' hg h) ops.size _ ρ a _ (by simp) ⟨List.range ops.size, by simp, fun j hj _ => by simp [hj]⟩ ?_ ?_
      · intro i j h
        by_cases hi : i < ops.size <;> simp [Array.getD, hi] at h
      · have e0 : ∀ M : List PR, only (fun j => (Array.replicate ops.size false).getD j false) M = [] := by
          intro M
          apply List.filter_eq_nil_iff.2
          intro r _
          by_cases hi : r.i < ops.size <;> simp [Array.getD, hi]
        have ef : ∀ j, (Array.replicate ops.size false).getD j false = false := by
          intro j
          by_cases hi : j < ops.size <;> simp [Array.getD, hi]
        refine ⟨by rw [e0]; exact ht, ?_, ?_, hr.bnd, fun i b hb => .inl hb, fun i b hb => .inl hb, fun _ _ => rfl, fun _ _ => rfl, Le.refl _, fun _ _ _ => rfl, ?_, rfl, rfl, rfl, Nat.le_refl _, fun r _ h => ?_, fun r _ h => ?_⟩
        · rw [e0]
          exact hr.h
        · rw [e0]
          exact hr.inj
        · intro i b h1 h2 h3
          rw [hf.b i h1 h2] at h3
          cases h3
        · have := ef r.i
          simp only [this] at h
          cases h
        · have := ef r.i
          simp only [this] at h
          cases h
    · cases h
theorem keep_none (n : Nat) (seen : Nat) (i : Nat) (h1 : Nat.ble n i = true) (h2 : tb seen i = false) : ∀ (H : List (Nat × Blk)), look (keep n seen H) i = none
  | [] => rfl
  | x :: r => by
    have ih := keep_none n seen i h1 h2 r
    simp only [keep_n, keep_c]
    cases hb : Nat.ble n x.1
    · simp only [cond_false]
      rw [look_cons, if_neg (fun e => by rw [e, h1] at hb; cases hb)]
      exact ih
    · simp only [cond_true]
      cases hc : tb seen x.1
      · exact ih
      · simp only [cond_true]
        rw [look_cons, if_neg (fun e => by rw [e, h2] at hc; cases hc)]
        exact ih
theorem keep_look (n : Nat) (seen : Nat) : ∀ (H : List (Nat × Blk)) (i : Nat) (B : Blk), look (keep n seen H) i = some B → look H i = some B
  | [], i, B, h => h
  | x :: r, i, B, h => by
    simp only [keep_n, keep_c] at h
    cases hb : Nat.ble n x.1
    · simp only [hb, cond_false] at h
      rw [look_cons] at h ⊢
      by_cases hx : x.1 = i
      · rw [if_pos hx] at h ⊢
        exact h
      · rw [if_neg hx] at h ⊢
        exact keep_look n seen r i B h
    · simp only [hb, cond_true] at h
      cases hc : tb seen x.1
      · simp only [hc, cond_false] at h
        rw [look_cons]
        by_cases hx : x.1 = i
        · rw [← hx, keep_none n seen x.1 hb hc r] at h
          cases h
        · rw [if_neg hx]
          exact keep_look n seen r i B h
      · simp only [hc, cond_true] at h
        rw [look_cons] at h ⊢
        by_cases hx : x.1 = i
        · rw [if_pos hx] at h ⊢
          exact h
        · rw [if_neg hx] at h ⊢
          exact keep_look n seen r i B h
noncomputable def lgetL : List AV → Nat → AV
  | [], _ => .undef
  | x :: _, 0 => x
  | _ :: r, n + 1 => lgetL r n
theorem padT_get : ∀ (l : List AV) (k : Nat) (t : Sq) (d : Nat), tget (padT l k t) d = if k ≤ d ∧ d < k + l.length then lgetL l (d - k) else tget t d
  | [], k, t, d => by
    rw [if_neg (by simp)]
    rfl
  | x :: l, k, t, d => by
    show tget (padT l (k + 1) (tset (k + 1) t k x)) d = _
    rw [padT_get l (k + 1) _ d, tget_tset x (k + 1) t k d (by omega)]
    simp only [List.length_cons]
    by_cases h1 : k + 1 ≤ d ∧ d < k + 1 + l.length
    · rw [if_pos h1, if_pos (by omega)]
      obtain ⟨m, rfl⟩ : ∃ m, d = k + 1 + m := ⟨d - (k + 1), by omega⟩
      rw [show k + 1 + m - (k + 1) = m by omega, show k + 1 + m - k = m + 1 by omega]
      rfl
    · rw [if_neg h1]
      by_cases h2 : d = k
      · rw [if_pos h2, if_pos (by omega), h2, Nat.sub_self]
        rfl
      · rw [if_neg h2, if_neg (by omega)]
theorem lgetL_far : ∀ (l : List AV) (d : Nat), l.length ≤ d → lgetL l d = .undef
  | [], _, _ => rfl
  | _ :: l, 0, h => by simp at h
  | _ :: l, d + 1, h => lgetL_far l d (by simpa using h)
theorem pad_look (n : Nat) (l : List AV) (d : Nat) (h : l.length ≤ n) : lget (pad n l) d = lgetL l d := by
  rw [lget_eq]
  unfold pad
  simp only
  by_cases hd : d < n
  · rw [blt_yes hd]
    simp only [cond_true]
    rw [padT_get]
    by_cases hl : d < l.length
    · rw [if_pos (by omega), Nat.sub_zero]
    · rw [if_neg (by omega), lgetL_far l d (by omega)]
      rfl
  · rw [blt_no hd, lgetL_far l d (by omega)]
    rfl
theorem pad_length (n : Nat) (l : List AV) : (pad n l).length = n := rfl
theorem lget_F2 {ρ : Rho} : ∀ {l : List AV} {m : List Value}, F2 (VR V ρ) l m → ∀ d, VR V ρ (lgetL l d) (m.getD d undef)
  | [], [], _, d => by
    cases d <;> exact rfl
  | x :: l, y :: m, h, 0 => h.1
  | x :: l, y :: m, h, d + 1 => lget_F2 h.2 d
  | [], _ :: _, h, _ => h.elim
  | _ :: _, [], h, _ => h.elim
theorem a1_ok {ρ : Rho} {x : AV} {y : A1} {u : Value} (h : a1Of x = some y) (hx : VR V ρ x u) : V1R V ρ y u := by
  unfold a1Of at h
  split at h
  · injection h with h
    subst h
    exact hx
  · cases h
theorem results_ok (hE : EnvOK P V E) {t : Sl} {s : St} {ρ : Rho} {a : Act} {w : World} (ht : TR V ρ t a) (hr : Rep V ρ s w) : ∀ (l : List ResultVar) (rs : List A1), resultsA E t s l = some rs →
    ∃ vs : List Value, (l.mapM (fun | .tmp t => pure (a.tmps.getD t undef) | .cell c t => do loadVar t (← asAddr (a.tmps.getD c undef)) : ResultVar → Sem Value)).run P w = .ok vs w ∧ F2 (V1R V ρ) rs vs
  | [], rs, h => by
    simp only [resultsA, Option.some.injEq] at h
    subst h
    exact ⟨[], by simp, trivial⟩
  | x :: l, rs, h => by
    simp only [resultsA] at h
    split at h
    · rename_i y r h1 h2
      injection h with h
      subst h
      obtain ⟨vs, g1, g2⟩ := results_ok hE ht hr l r h2
      cases x with
      | tmp u =>
        refine ⟨a.tmps.getD u undef :: vs, ?_, a1_ok h1 (ht.v u), g2⟩
        rw [List.mapM_cons]
        simp only [Sem.run_bind, Sem.run_pure, Result.andThen_ok, g1]
      | cell c ty =>
        simp only [resultA] at h1
        split at h1
        · rename_i z hz
          injection h1 with h1
          subst h1
          obtain ⟨ad, v, k1, k2, k3⟩ := load_ok hE hz hr (ht.v c)
          refine ⟨v :: vs, ?_, k3, g2⟩
          have ha : (asAddr (a.tmps.getD c undef)).run P w = .ok ad w := by rw [k1]; rfl
          rw [List.mapM_cons]
          simp only [Sem.run_bind, ha, Sem.run_pure, Result.andThen_ok, k2, g1]
        · cases h1
    · cases h
theorem wrap_ok {ρ : Rho} {rs : List A1} {vs : List Value} (h : F2 (V1R V ρ) rs vs) : VR V ρ (wrapA rs) (if h : vs.toArray.size = 1 then vs.toArray[0] else .tuple vs.toArray) := by
  match rs, vs, h with
  | [], [], _ => exact ⟨#[], by simp, trivial⟩
  | [x], [v], h => exact h.1
  | x :: y :: l, v :: u :: m, h => exact ⟨(v :: u :: m).toArray, by simp, by simpa using h⟩
/-- The contracts that are given beside the program's code. -/
structure ExtOK (P : Program) (V : Nat → Value) (E : Env) : Prop where
  ok : CallOK P V E.ext
  up : CallUp E.ext
  fn : CallFn E E.ext
theorem fnA_fn (hx : CallFn E E.ext) : ∀ n, CallFn E (fnA E n)
  | 0 => fun f args s r h => by simp [fnA_z] at h
  | n + 1 => fun f args s r h => by
    simp only [fnA_z, fnA_s] at h
    split at h
    · rename_i r' hr'
      exact hx _ _ _ _ hr'
    split at h
    · cases h
    · rename_i fn hfn
      exact ⟨fn, hfn⟩
theorem tidy_up (n : Nat) (rs : List A1) (s : St) : (tidy n rs s).next = s.next ∧ (tidy n rs s).ncap = s.ncap := ⟨rfl, rfl⟩
theorem fnA_up (hx : CallUp E.ext) : ∀ n, CallUp (fnA E n)
  | 0 => fun f args s v s' h => by simp [fnA_z] at h
  | n + 1 => fun f args s v s' h => by
    simp only [fnA_z, fnA_s, Bool.cond_eq_ite] at h
    split at h
    · rename_i r' hr'
      simp only [Option.some.injEq] at h
      subst h
      exact hx _ _ _ _ _ hr'
    split at h
    · cases h
    · rename_i fn hfn
      split at h
      · cases h
      · rename_i c hc
        split at h
        · cases h
        · split at h
          · rename_i t' s1 h1
            have := codeA_up (fnA_up hx n) (drawA_up (fnA_up hx n)) _ _ h1
            split at h
            · simp only [Option.some.injEq, Prod.mk.injEq] at h
              obtain ⟨_, rfl⟩ := h
              exact this
            · cases h
          · rename_i t' s1 h1
            have := codeA_up (fnA_up hx n) (drawA_up (fnA_up hx n)) _ _ h1
            split at h
            · simp only [Option.some.injEq, Prod.mk.injEq] at h
              obtain ⟨_, rfl⟩ := h
              exact this
            · cases h
          · cases h
/-- A call's end: what is kept. -/
theorem tidy_ok {ρ ρ' : Rho} {s s1 : St} {w w' : World} (rs : List A1) (h : Goes V ρ { s with dirty := [] } w s1 w' ρ') : Goes V ρ s w { (tidy s.next rs s1) with dirty := (tidy s.next rs s1).dirty ++ s.dirty } w' ρ' := by
  obtain ⟨h1, h2, h3⟩ := h
  have hfl : ∀ i, i ∈ s1.dirty → i < s.next → i ∈ (tidy s.next rs s1).dirty ++ s.dirty := by
    intro i hi hl
    refine List.mem_append_left _ (List.mem_filter.2 ⟨hi, ?_⟩)
    exact Nat.ble_eq_true_of_le (show i + 1 ≤ s.next from hl)
  have hfl2 : ∀ i, i ∈ (tidy s.next rs s1).dirty → i ∈ s1.dirty := fun i hi => (List.mem_filter.1 hi).1
  refine ⟨⟨fun i B hB => h1.h i B (keep_look _ _ _ i B hB), fun i j B C b hB hC => h1.inj i j B C b (keep_look _ _ _ i B hB) (keep_look _ _ _ j C hC), h1.bnd, fun i B hB => h1.lt i B (keep_look _ _ _ i B hB)⟩, ⟨h2.blk, h2.cap, h2.n, h2.c, fun i hi => List.mem_append_right _ hi, fun b hb hd => h2.fr b hb (fun i hi hl => hd i (hfl i hi hl) hl), ?_, ?_, ?_, h2.os, h2.tape, h2.out, h2.size⟩, h3⟩
  · intro i b g1 g2 g3
    rcases h2.new i b g1 g2 g3 with g4 | ⟨j, g4, g5, g6⟩
    · exact .inl g4
    · exact .inr ⟨j, hfl j g4 g5, g5, g6⟩
  · intro j hj
    rcases List.mem_append.1 hj with hj | hj
    · rcases h2.own j (hfl2 j hj) with g | g
      · cases g
      · exact .inr g
    · exact .inl hj
  · intro j hj g
    obtain ⟨C, hC⟩ := Option.isSome_iff_exists.1 g
    exact h2.sub j hj (by rw [keep_look _ _ _ j C hC]; rfl)
theorem fnA_ok (hE : EnvOK P V E) (hx : ExtOK P V E) : ∀ n, CallOK P V (fnA E n)
  | 0 => fun f args s v s' h => by simp [fnA_z] at h
  | n + 1 => by
    have ih := fnA_ok hE hx n
    intro f args s v s' h ρ w vals hargs hr hf
    have hup := fnA_up (E := E) hx.up n
    simp only [fnA_z, fnA_s, Bool.cond_eq_ite] at h
    split at h
    · rename_i r' hr'
      simp only [Option.some.injEq] at h
      subst h
      exact hx.ok _ _ _ _ _ hr' ρ w vals hargs hr hf
    split at h
    · cases h
    · rename_i fn hfn
      obtain ⟨hF, _⟩ := hE.fn f fn hfn
      split at h
      · cases h
      · rename_i c hc
        split at h
        · cases h
        · rename_i hle
          have hle : args.length ≤ fn.ntmps := by
            cases hb : Nat.ble args.length fn.ntmps
            · simp [hb] at hle
            · exact Nat.le_of_ble_eq_true hb
          have hvl : vals.size = args.length := by rw [← Array.length_toList, ← hargs.length]
          have ht : TR V ρ (pad fn.ntmps args) { tmps := vals ++ Array.replicate (fn.ntmps - vals.size) undef, defers := [] } := by
            refine ⟨by rw [pad_length]; simp; omega, fun d => ?_, rfl⟩
            rw [pad_look _ _ _ hle]
            have h1 := lget_F2 hargs d
            have h2 : (vals ++ Array.replicate (fn.ntmps - vals.size) undef).getD d undef = vals.toList.getD d undef := by
              simp only [Array.getD_eq_getD_getElem?, List.getD_eq_getElem?_getD, Array.getElem?_append, Array.getElem?_toList]
              by_cases hd : d < vals.size
              · rw [if_pos hd]
              · rw [if_neg hd, Array.getElem?_eq_none (by omega : vals.size ≤ d), Array.getElem?_replicate]
                split <;> rfl
            show VR V ρ _ ((vals ++ Array.replicate (fn.ntmps - vals.size) undef).getD d undef)
            rw [h2]
            exact h1
          have hr0 : Rep V ρ { s with dirty := [] } w := ⟨hr.h, hr.inj, hr.bnd, hr.lt⟩
          have fin : ∀ (e : AE) (t' : Sl) (s1 : St) (rs : List A1), codeA E (fnA E n) (drawA E (fnA E n)) 100000 c (pad fn.ntmps args) { s with dirty := [] } = some (e, t', s1) → (e = .normal ∨ e = .ret) → resultsA E t' s1 fn.results.toList = some rs →
              v = wrapA rs → s' = { (tidy s.next rs s1) with dirty := (tidy s.next rs s1).dirty ++ s.dirty } → Calls P f vals w fun e w' => ∃ c ρ', e = .returned c ∧ Goes V ρ s w s' w' ρ' ∧ VR V ρ' v c := by
            intro e t' s1 rs h1 he h2 hv hs
            subst hv
            subst hs
            refine calls_of_wp hF hc ?_
            refine (code_ok hE ih (fnA_fn hx.fn n) hup (draw_ok hE ih (fnA_fn hx.fn n) hup) (drawA_up hup) 100000).1 c h1 ht hr0 ⟨hf.b, hf.c⟩ _ ?_
            intro ρ' a' w' hg ht'
            obtain ⟨vs, g1, g2⟩ := results_ok hE ht' hg.1 _ _ h2
            have hres : (results fn a'.tmps).run P w' = .ok (if h : vs.toArray.size = 1 then vs.toArray[0] else .tuple vs.toArray) w' := by
              unfold results
              rw [Array.mapM_eq_mapM_toList]
              simp only [Sem.run_bind, Sem.run_map, Sem.run_pure]
              generalize hX : Sem.run P (List.mapM _ fn.results.toList) w' = Y
              have hY : Y = .ok vs w' := hX.symm.trans g1
              rw [hY]
              simp only [Result.andThen_ok]
            have : bodyPost P fn (fun e w' => ∃ c ρ', e = .returned c ∧ Goes V ρ s w { (tidy s.next rs s1) with dirty := (tidy s.next rs s1).dirty ++ s.dirty } w' ρ' ∧ VR V ρ' (wrapA rs) c) (AEx e) a' w' := by
              rcases he with rfl | rfl
              · exact ⟨ht'.df, _, hres, _, ρ', rfl, tidy_ok rs hg, wrap_ok g2⟩
              · exact ⟨ht'.df, _, hres, _, ρ', rfl, tidy_ok rs hg, wrap_ok g2⟩
            exact this
          split at h
          · rename_i t' s1 h1
            split at h
            · rename_i rs h2
              simp only [Option.some.injEq, Prod.mk.injEq] at h
              exact fin _ _ _ rs h1 (.inl rfl) h2 h.1.symm h.2.symm
            · cases h
          · rename_i t' s1 h1
            split at h
            · rename_i rs h2
              simp only [Option.some.injEq, Prod.mk.injEq] at h
              exact fin _ _ _ rs h1 (.inr rfl) h2 h.1.symm h.2.symm
            · cases h
          · cases h
/-- No contracts. -/
noncomputable def noExt : Nat → List AV → St → Option (AV × St) := fun _ _ _ => none
theorem noExt_ok (h : E.ext = noExt) : ExtOK P V E := ⟨fun f args s v s' k => (by rw [h] at k; cases k), fun f args s v s' k => (by rw [h] at k; cases k), fun f args s r k => (by rw [h] at k; cases k)⟩
noncomputable def ρ0 : Rho := ⟨fun _ => none, fun _ => none⟩
noncomputable def st0 : St := ⟨[], 0, 0, []⟩
theorem rep0 (w : World) : Rep V ρ0 st0 w := ⟨fun i B h => (by cases h), fun i j B C b h => (by cases h), fun i b h => (by cases h), fun i B h => (by cases h)⟩
theorem goes_below {ρ' : Rho} {s' : St} {w w' : World} (h : Goes V ρ0 st0 w s' w' ρ') : RowKit.Below w.heap.size w w' :=
  ⟨h.2.1.os, h.2.1.tape, h.2.1.out, h.2.1.size, fun k hk => h.2.1.fr k hk (fun i _ hl => absurd hl (Nat.not_lt_zero _))⟩
/-- A run from nothing that yields true. -/
noncomputable def isTrue : Option (AV × St) → Bool
  | some (.one (.c (.bool true)), _) => true
  | _ => false
theorem run_true (hE : EnvOK P V E) (hx : ExtOK P V E) {n f : Nat} {args : List AV} {vals : Array Value} (h : isTrue (fnA E n f args st0) = true) (hargs : F2 (VR V ρ0) args vals.toList) (w : World) :
    Calls P f vals w fun e w' => e = .returned (.bool true) ∧ RowKit.Below w.heap.size w w' := by
  unfold isTrue at h
  split at h
  · rename_i s' hr
    refine (fnA_ok hE hx n f args st0 _ s' hr ρ0 w vals hargs (rep0 w) ⟨fun _ _ _ => rfl, fun _ _ _ => rfl⟩).mono ?_
    rintro e w' ⟨c, ρ', rfl, hg, hv⟩
    have hv : c = .bool true := hv
    subst hv
    exact ⟨rfl, goes_below hg⟩
  · cases h
end
end Ab
end Go.Proofs.YtbfppnppijcnlaaGreat
namespace Go.Proofs.YtbfppnppijcnlaaGreat
namespace Ab
set_option linter.unusedVariables false
set_option linter.unusedSimpArgs false
open Go.RowKit
section
variable {P : Program} {V : Nat → Value} {E : Env}
/-- What holds here: the state tells the world; all its blocks are new since w0. -/
noncomputable def Here (V : Nat → Value) (base : Nat) (w0 : World) (t : Sl) (s : St) (a : Act) (w : World) : Prop :=
  ∃ ρ, TR V ρ t a ∧ Rep V ρ s w ∧ (∀ i, s.next ≤ i → ρ.blk i = none) ∧ (∀ i, s.ncap ≤ i → ρ.cap i = none) ∧ (∀ i b, ρ.blk i = some b → base ≤ b) ∧ Below base w0 w ∧ base ≤ w.heap.size
theorem here_goes {base : Nat} {w0 w w' : World} {ρ ρ' : Rho} {t' : Sl} {s s' : St} {a' : Act} (hr : Rep V ρ s w) (h1 : ∀ i, s.next ≤ i → ρ.blk i = none) (h2 : ∀ i, s.ncap ≤ i → ρ.cap i = none) (h3 : ∀ i b, ρ.blk i = some b → base ≤ b) (h4 : Below base w0 w) (h5 : base ≤ w.heap.size)
    (hg : Goes V ρ s w s' w' ρ') (ht : TR V ρ' t' a') : Here V base w0 t' s' a' w' := by
  obtain ⟨g1, g2, g3⟩ := hg
  refine ⟨ρ', ht, g1, fun i hi => ?_, fun i hi => ?_, fun i b hb => ?_, h4.trans ⟨g2.os, g2.tape, g2.out, g2.size, fun k hk => g2.fr k (by omega) (fun i _ _ e => ?_)⟩, Nat.le_trans h5 g2.size⟩
  · rw [g2.blk i (.inr hi)]
    exact h1 i (Nat.le_trans g2.n hi)
  · rw [g2.cap i (.inr hi)]
    exact h2 i (Nat.le_trans g2.c hi)
  · by_cases hi : i < s.next ∨ s'.next ≤ i
    · rw [g2.blk i hi] at hb
      exact h3 i b hb
    · rcases g2.new i b (by omega) (by omega) hb with h | ⟨j, _, _, h⟩
      · omega
      · exact h3 j b h
  · have := h3 i k e
    omega
/-- A piece of code. -/
theorem code_here (hE : EnvOK P V E) (hx : ExtOK P V E) (m n : Nat) {c : Code} {t t' : Sl} {s s' : St} {e : AE} (h : codeA E (fnA E m) (drawA E (fnA E m)) n c t s = some (e, t', s')) {base : Nat} {w0 : World} {a : Act} {w : World} (hh : Here V base w0 t s a w)
    {Q : Exit → Act → World → Prop} (hQ : ∀ a' w', Here V base w0 t' s' a' w' → Q (AEx e) a' w') : c.wp P Q a w := by
  obtain ⟨ρ, ht, hr, h1, h2, h3, h4, h5⟩ := hh
  have hc := fnA_ok hE hx m
  have hf := fnA_fn (E := E) hx.fn m
  have hu := fnA_up (E := E) hx.up m
  refine (code_ok hE hc hf hu (draw_ok hE hc hf hu) (drawA_up hu) n).1 c h ht hr ⟨fun i hi _ => h1 i hi, fun i hi _ => h2 i hi⟩ Q ?_
  intro ρ' a' w' hg ht'
  exact hQ a' w' (here_goes hr h1 h2 h3 h4 h5 hg ht')
/-- The blocks of a number. -/
noncomputable def blocksOf (id : Nat) : Code → List Code
  | .seq a b => blocksOf id a ++ blocksOf id b
  | .cond _ a b => blocksOf id a ++ blocksOf id b
  | .block j b => (bif Nat.beq j id then [b] else []) ++ blocksOf id b
  | .loop b => blocksOf id b
  | _ => []
/-- Code, with contracts for some blocks; no loop else. -/
noncomputable def codeH (E : Env) (call : Call1) (hk : Nat → Sl → St → Option (AE × Sl × St)) : Code → Sl → St → Option (AE × Sl × St)
  | .seq a b, t, s => match codeH E call hk a t s with
    | some (.normal, t', s') => codeH E call hk b t' s'
    | r => r
  | .cond c a b, t, s => match eval t c with
    | .one (.c (.bool true)) => codeH E call hk a t s
    | .one (.c (.bool false)) => codeH E call hk b t s
    | _ => none
  | .block id b, t, s => match hk id t s with
    | some r => some r
    | none => match codeH E call hk b t s with
      | some (.exit j, t', s') => if j = id then some (.normal, t', s') else some (.exit j, t', s')
      | r => r
  | .loop _, _, _ => none
  | c, t, s => codeA E call (drawA E call) 2 c t s
noncomputable def HookOK (P : Program) (V : Nat → Value) (base : Nat) (w0 : World) (c0 : Code) (hk : Nat → Sl → St → Option (AE × Sl × St)) : Prop :=
  ∀ id b, b ∈ blocksOf id c0 → ∀ t s e t' s', hk id t s = some (e, t', s') → ∀ a w, Here V base w0 t s a w → ∀ Q : Exit → Act → World → Prop, (∀ a' w', Here V base w0 t' s' a' w' → Q (AEx e) a' w') → (Code.block id b).wp P Q a w
theorem codeH_ok (hE : EnvOK P V E) (hx : ExtOK P V E) (m : Nat) {hk : Nat → Sl → St → Option (AE × Sl × St)} {base : Nat} {w0 : World} {c0 : Code} (hH : HookOK P V base w0 c0 hk) : ∀ (c : Code), (∀ id b, b ∈ blocksOf id c → (∃ b', b' ∈ blocksOf id c0 ∧ b' = b)) → ∀ {t t' : Sl} {s s' : St} {e : AE}, codeH E (fnA E m) hk c t s = some (e, t', s') →
    ∀ {a : Act} {w : World}, Here V base w0 t s a w → ∀ Q : Exit → Act → World → Prop, (∀ a' w', Here V base w0 t' s' a' w' → Q (AEx e) a' w') → c.wp P Q a w := by
  intro c
  induction c with
  | seq x y ihx ihy =>
    intro hb t t' s s' e h a w hh Q hQ
    simp only [codeH] at h
    refine wp_seq ?_
    have hbx : ∀ id b, b ∈ blocksOf id x → ∃ b', b' ∈ blocksOf id c0 ∧ b' = b := fun id b hm => hb id b (List.mem_append_left _ hm)
    have hby : ∀ id b, b ∈ blocksOf id y → ∃ b', b' ∈ blocksOf id c0 ∧ b' = b := fun id b hm => hb id b (List.mem_append_right _ hm)
    split at h
    · rename_i t1 s1 h1
      exact ihx hbx h1 hh _ (fun a1 w1 g1 => ihy hby h g1 Q hQ)
    · rename_i hne
      refine ihx hbx h hh _ (fun a1 w1 g1 => ?_)
      cases e with
      | normal => exact absurd h (hne _ _)
      | ret => exact hQ a1 w1 g1
      | exit id => exact hQ a1 w1 g1
  | cond b x y ihx ihy =>
    intro hb t t' s s' e h a w hh Q hQ
    simp only [codeH] at h
    obtain ⟨ρ, ht, rest⟩ := hh
    have hv := eval_ok ht b
    split at h
    · rename_i he
      rw [he] at hv
      have hv : a.eval b = .bool true := hv
      exact wp_cond hv (ihx (fun id b hm => hb id b (List.mem_append_left _ hm)) h ⟨ρ, ht, rest⟩ Q hQ)
    · rename_i he
      rw [he] at hv
      have hv : a.eval b = .bool false := hv
      exact wp_cond hv (ihy (fun id b hm => hb id b (List.mem_append_right _ hm)) h ⟨ρ, ht, rest⟩ Q hQ)
    · cases h
  | block id b ih =>
    intro hb t t' s s' e h a w hh Q hQ
    simp only [codeH] at h
    split at h
    · rename_i r hr
      simp only [Option.some.injEq] at h
      subst h
      obtain ⟨b', h1, rfl⟩ := hb id b (by simp [blocksOf])
      exact hH id b' h1 t s e t' s' hr a w hh Q hQ
    · refine wp_block ?_
      have hbb : ∀ id' b', b' ∈ blocksOf id' b → ∃ b'', b'' ∈ blocksOf id' c0 ∧ b'' = b' := by
        intro id' b' hm
        exact hb id' b' (List.mem_append_right _ hm)
      split at h
      · rename_i j t1 s1 h1
        split at h
        · rename_i hj
          simp only [Option.some.injEq, Prod.mk.injEq] at h
          obtain ⟨rfl, rfl, rfl⟩ := h
          refine ih hbb h1 hh _ (fun a1 w1 g1 => ?_)
          show (if j = id then _ else _)
          rw [if_pos hj]
          exact hQ a1 w1 g1
        · rename_i hj
          simp only [Option.some.injEq, Prod.mk.injEq] at h
          obtain ⟨rfl, rfl, rfl⟩ := h
          refine ih hbb h1 hh _ (fun a1 w1 g1 => ?_)
          show (if j = id then _ else _)
          rw [if_neg hj]
          exact hQ a1 w1 g1
      · rename_i hne
        refine ih hbb h hh _ (fun a1 w1 g1 => ?_)
        cases e with
        | normal => exact hQ a1 w1 g1
        | ret => exact hQ a1 w1 g1
        | exit id' => exact absurd h (hne _ _ _)
  | loop b ih =>
    intro hb t t' s s' e h
    simp [codeH] at h
  | skip => intro hb t t' s s' e h a w hh Q hQ; exact code_here hE hx m 2 h hh hQ
  | region _ _ _ => intro hb t t' s s' e h a w hh Q hQ; exact code_here hE hx m 2 h hh hQ
  | exit _ => intro hb t t' s s' e h a w hh Q hQ; exact code_here hE hx m 2 h hh hQ
  | ret => intro hb t t' s s' e h a w hh Q hQ; exact code_here hE hx m 2 h hh hQ
  | rangeFunc _ _ _ _ _ _ => intro hb t t' s s' e h a w hh Q hQ; exact code_here hE hx m 2 h hh hQ
  | scope _ _ => intro hb t t' s s' e h a w hh Q hQ; exact code_here hE hx m 2 h hh hQ
  | label _ => intro hb t t' s s' e h a w hh Q hQ; exact code_here hE hx m 2 h hh hQ
  | goto _ => intro hb t t' s s' e h a w hh Q hQ; exact code_here hE hx m 2 h hh hQ
  | refuse _ => intro hb t t' s s' e h a w hh Q hQ; exact code_here hE hx m 2 h hh hQ
end
end Ab
end Go.Proofs.YtbfppnppijcnlaaGreat
namespace Go.Proofs.YtbfppnppijcnlaaGreat
namespace Ab
set_option linter.unusedVariables false
set_option linter.unusedSimpArgs false
open Go.RowKit
noncomputable def lkN : List (Nat × Nat) → Nat → Option Nat
  | [], _ => none
  | x :: r, i => bif Nat.beq x.1 i then some x.2 else lkN r i
noncomputable def isN (o : Option Nat) (i : Nat) : Bool := match o with | some j => Nat.beq j i | none => false
theorem isN_eq {o : Option Nat} {i : Nat} (h : isN o i = true) : o = some i := by
  unfold isN at h
  split at h
  · rw [Nat.eq_of_beq_eq_true h]
  · cases h
noncomputable def subCap (fc : List (Nat × Nat)) : Cap → Cap → Bool
  | .lit a, .lit b => Nat.beq a b
  | .sym i, .sym j => isN (lkN fc j) i
  | _, _ => false
noncomputable def subC (f fc : List (Nat × Nat)) : AC → AC → Bool
  | _, .any => true
  | .int k a, .int k' b => decide (k = k') && (a == b)
  | .bool a, .bool b => a == b
  | .sym i, .sym j => Nat.beq i j
  | .ptr none, .ptr none => true
  | .ptr (some (i, o)), .ptr (some (j, p)) => Nat.beq o p && isN (lkN f j) i
  | .slice none n c, .slice none m d => Nat.beq n m && subCap fc c d
  | .slice (some (i, o)) n c, .slice (some (j, p)) m d => Nat.beq o p && Nat.beq n m && isN (lkN f j) i && subCap fc c d
  | .void, .void => true
  | .nilFunc, .nilFunc => true
  | .nilIface, .nilIface => true
  | .fn a, .fn b => Nat.beq a b
  | .int k _, .num k' => decide (k = k')
  | .num k, .num k' => decide (k = k')
  | .bool _, .bo => true
  | .bo, .bo => true
  | .str a, .str b => decide (a = b)
  | .int k n, .rng m => decide (k = .i64) && (decide (0 ≤ n) && decide (n < m))
  | .rng n, .rng m => Nat.ble n m
  | .rng n, .num k => decide (k = .i64)
  | .int k n, .ivl k' lo hi => decide (k = k') && (decide (lo ≤ n) && decide (n ≤ hi))
  | .ivl k a b, .ivl k' lo hi => decide (k = k') && (decide (lo ≤ a) && decide (b ≤ hi))
  | .rng m, .ivl k' lo hi => decide (k' = .i64) && (decide (lo ≤ 0) && decide ((m : Int) - 1 ≤ hi))
  | .ivl k _ _, .num k' => decide (k = k')
  | .tag c i, .tag d j => Nat.beq i j && isN (lkN fc d) c
  | .tag _ i, .num k => decide (k = tagK i)
  | .nat c m, .nat d m' => Nat.ble m m' && isN (lkN fc d) c
  | .nat _ m, .rng m' => Nat.ble m m'
  | .nat _ _, .num k => decide (k = .i64)
  | .nat _ m, .ivl k' lo hi => decide (k' = .i64) && (decide (lo ≤ 0) && decide ((m : Int) - 1 ≤ hi))
  | .cv c, .cv d => isN (lkN fc d) c
  | _, _ => false
noncomputable def subL (f fc : List (Nat × Nat)) : List AC → List AC → Bool
  | [], [] => true
  | x :: r, y :: s => subC f fc x y && subL f fc r s
  | _, _ => false
noncomputable def sub1 (f fc : List (Nat × Nat)) : A1 → A1 → Bool
  | .c x, .c y => subC f fc x y
  | .agg l, .agg m => subL f fc l m
  | _, _ => false
noncomputable def subV (f fc : List (Nat × Nat)) : AV → AV → Bool
  | _, .any => true
  | .undef, .undef => true
  | .one x, .one y => sub1 f fc x y
  | _, _ => false
noncomputable def subT (f fc : List (Nat × Nat)) (t u : Sl) : Nat → Bool
  | 0 => true
  | d + 1 => subV f fc (lget t d) (lget u d) && subT f fc t u d
noncomputable def subM (fc : List (Nat × Nat)) : Option (Nat × Nat) → Option (Nat × Nat) → Bool
  | none, none => true
  | some (c, z), some (d, y) => Nat.beq z y && (bif Nat.beq z 0 then Nat.beq c d else isN (lkN fc d) c)
  | _, _ => false
noncomputable def subH (f fc : List (Nat × Nat)) (H : List (Nat × Blk)) : List (Nat × Blk) → Bool
  | [] => true
  | x :: r => (match lkN f x.1 with
    | some i => (match look H i with
      | some B => Nat.beq B.ty x.2.ty && subL f fc B.cells x.2.cells && subM fc B.more x.2.more
      | none => false)
    | none => false) && subH f fc H r
noncomputable def noDup : List Nat → Bool
  | [] => true
  | x :: r => !(hasN r x) && noDup r
noncomputable def allLt (n : Nat) : List (Nat × Nat) → Bool
  | [] => true
  | x :: r => Nat.blt x.1 n && allLt n r
noncomputable def subOK (f fc : List (Nat × Nat)) (t : Sl) (s : St) (u : Sl) (r : St) : Bool :=
  Nat.beq t.length u.length && subT f fc t u u.length && subH f fc s.heap r.heap && noDup (f.map (·.2)) && noDup (f.map (·.1)) && allLt r.next f && allLt r.ncap fc
section
variable {V : Nat → Value}
noncomputable def Rho.ren (ρ : Rho) (f fc : List (Nat × Nat)) : Rho := ⟨fun j => (lkN f j).bind ρ.blk, fun j => (lkN fc j).bind ρ.cap⟩
theorem subCap_ok {ρ : Rho} {f fc : List (Nat × Nat)} : ∀ {c d : Cap} {m : Nat}, subCap fc c d = true → CapR ρ c m → CapR (ρ.ren f fc) d m
  | .lit a, .lit b, m, h, hc => by
    have e := Nat.eq_of_beq_eq_true h
    subst e
    exact hc
  | .sym i, .sym j, m, h, hc => by
    have e := isN_eq h
    show (lkN fc j).bind ρ.cap = some m
    rw [e]
    exact hc
theorem subC_ok (hone : ∀ i, (V i).oneCell' = true) {ρ : Rho} {f fc : List (Nat × Nat)} {x y : AC} {v : Value} (h : subC f fc x y = true) (hx : CR V ρ x v) : CR V (ρ.ren f fc) y v := by
  unfold subC at h
  split at h
  · exact hx.one V hone
  · simp only [Bool.and_eq_true, decide_eq_true_eq, beq_iff_eq] at h
    obtain ⟨rfl, rfl⟩ := h
    exact hx
  · simp only [beq_iff_eq] at h
    subst h
    exact hx
  · have e := Nat.eq_of_beq_eq_true h
    subst e
    exact hx
  · exact hx
  · simp only [Bool.and_eq_true] at h
    have e1 := Nat.eq_of_beq_eq_true h.1
    have e2 := isN_eq h.2
    subst e1
    obtain ⟨b, h1, h2⟩ := hx
    exact ⟨b, by show (lkN f _).bind ρ.blk = some b; rw [e2]; exact h1, h2⟩
  · simp only [Bool.and_eq_true] at h
    have e1 := Nat.eq_of_beq_eq_true h.1
    subst e1
    obtain ⟨m, h1, h2, h3⟩ := hx
    exact ⟨m, subCap_ok h.2 h1, h2, h3⟩
  · simp only [Bool.and_eq_true] at h
    obtain ⟨⟨⟨e1, e2⟩, e3⟩, e4⟩ := h
    have e1 := Nat.eq_of_beq_eq_true e1
    have e2 := Nat.eq_of_beq_eq_true e2
    have e3 := isN_eq e3
    subst e1
    subst e2
    obtain ⟨b, m, h1, h2, h3, h4⟩ := hx
    exact ⟨b, m, by show (lkN f _).bind ρ.blk = some b; rw [e3]; exact h1, subCap_ok e4 h2, h3, h4⟩
  · exact hx
  · exact hx
  · exact hx
  · have e := Nat.eq_of_beq_eq_true h
    subst e
    exact hx
  · have e := of_decide_eq_true h
    subst e
    exact ⟨_, hx⟩
  · have e := of_decide_eq_true h
    subst e
    exact hx
  · exact ⟨_, hx⟩
  · exact hx
  · have e := of_decide_eq_true h
    subst e
    exact hx
  · rename_i k n m
    simp only [Bool.and_eq_true, decide_eq_true_eq] at h
    obtain ⟨rfl, h1, h2⟩ := h
    exact ⟨n.toNat, by omega, by rw [Int.toNat_of_nonneg h1]; exact hx⟩
  · have e := Nat.le_of_ble_eq_true h
    obtain ⟨n, h1, h2⟩ := hx
    exact ⟨n, by omega, h2⟩
  · have e := of_decide_eq_true h
    subst e
    obtain ⟨n, h1, h2⟩ := hx
    exact ⟨n, h2⟩
  · rename_i k n k' lo hi
    simp only [Bool.and_eq_true, decide_eq_true_eq] at h
    obtain ⟨rfl, h1, h2⟩ := h
    exact ⟨n, h1, h2, hx⟩
  · rename_i k a b k' lo hi
    simp only [Bool.and_eq_true, decide_eq_true_eq] at h
    obtain ⟨rfl, h1, h2⟩ := h
    obtain ⟨n, g1, g2, g3⟩ := hx
    exact ⟨n, by omega, by omega, g3⟩
  · rename_i m k' lo hi
    simp only [Bool.and_eq_true, decide_eq_true_eq] at h
    obtain ⟨rfl, h1, h2⟩ := h
    obtain ⟨n, g1, g3⟩ := hx
    exact ⟨n, by omega, by omega, g3⟩
  · have e := of_decide_eq_true h
    subst e
    obtain ⟨n, _, _, h2⟩ := hx
    exact ⟨n, h2⟩
  · rename_i c i d j
    simp only [Bool.and_eq_true] at h
    have e1 := Nat.eq_of_beq_eq_true h.1
    have e2 := isN_eq h.2
    subst e1
    obtain ⟨m, h1, h2⟩ := hx
    exact ⟨m, by show (lkN fc d).bind ρ.cap = some m; rw [e2]; exact h1, h2⟩
  · have e := of_decide_eq_true h
    subst e
    obtain ⟨m, _, _, h2⟩ := hx
    exact ⟨_, h2⟩
  · rename_i c m d m'
    simp only [Bool.and_eq_true] at h
    have e1 := Nat.le_of_ble_eq_true h.1
    have e2 := isN_eq h.2
    obtain ⟨x, h1, h2, h3⟩ := hx
    exact ⟨x, by show (lkN fc d).bind ρ.cap = some x; rw [e2]; exact h1, by omega, h3⟩
  · have e1 := Nat.le_of_ble_eq_true h
    obtain ⟨x, h1, h2, h3⟩ := hx
    exact ⟨x, by omega, h3⟩
  · have e := of_decide_eq_true h
    subst e
    obtain ⟨x, _, _, h3⟩ := hx
    exact ⟨_, h3⟩
  · rename_i c m k' lo hi
    simp only [Bool.and_eq_true, decide_eq_true_eq] at h
    obtain ⟨rfl, h1, h2⟩ := h
    obtain ⟨x, _, g1, g3⟩ := hx
    exact ⟨x, by omega, by omega, g3⟩
  · rename_i c d
    have e2 := isN_eq h
    obtain ⟨m, h1, h2⟩ := hx
    exact ⟨m, by show (lkN fc d).bind ρ.cap = some m; rw [e2]; exact h1, h2⟩
  · cases h
theorem subL_ok (hone : ∀ i, (V i).oneCell' = true) {ρ : Rho} {f fc : List (Nat × Nat)} : ∀ {x y : List AC} {v : List Value}, subL f fc x y = true → F2 (CR V ρ) x v → F2 (CR V (ρ.ren f fc)) y v
  | [], [], [], _, _ => trivial
  | x :: r, y :: s, v :: vs, h, hx => by
    simp only [subL, Bool.and_eq_true] at h
    exact ⟨subC_ok hone h.1 hx.1, subL_ok hone h.2 hx.2⟩
  | [], _ :: _, _, h, _ => by cases h
  | _ :: _, [], _, h, _ => by cases h
  | [], [], _ :: _, _, h => h.elim
  | _ :: _, _ :: _, [], _, h => h.elim
theorem subV_ok (hone : ∀ i, (V i).oneCell' = true) {ρ : Rho} {f fc : List (Nat × Nat)} {x y : AV} {v : Value} (h : subV f fc x y = true) (hx : VR V ρ x v) : VR V (ρ.ren f fc) y v := by
  unfold subV at h
  split at h
  · exact trivial
  · exact hx
  · unfold sub1 at h
    split at h
    · exact subC_ok hone h hx
    · obtain ⟨cs, h1, h2⟩ := hx
      exact ⟨cs, h1, subL_ok hone h h2⟩
    · cases h
  · cases h
theorem subT_ok {f fc : List (Nat × Nat)} {t u : Sl} : ∀ {n : Nat}, subT f fc t u n = true → ∀ d, d < n → subV f fc (lget t d) (lget u d) = true
  | n + 1, h, d, hd => by
    simp only [subT, Bool.and_eq_true] at h
    by_cases e : d = n
    · rw [e]
      exact h.1
    · exact subT_ok h.2 d (by omega)
theorem subH_ok {f fc : List (Nat × Nat)} {H : List (Nat × Blk)} : ∀ {G : List (Nat × Blk)}, subH f fc H G = true → ∀ j C, look G j = some C → ∃ i B, lkN f j = some i ∧ look H i = some B ∧ B.ty = C.ty ∧ subL f fc B.cells C.cells = true ∧ subM fc B.more C.more = true
  | [], _, j, C, h => by cases h
  | x :: r, h, j, C, hC => by
    simp only [subH, Bool.and_eq_true] at h
    rw [look_cons] at hC
    by_cases e : x.1 = j
    · rw [if_pos e, Option.some.injEq] at hC
      subst hC
      subst e
      obtain ⟨h1, _⟩ := h
      split at h1
      · rename_i i hi
        split at h1
        · rename_i B hB
          simp only [Bool.and_eq_true] at h1
          exact ⟨i, B, hi, hB, Nat.eq_of_beq_eq_true h1.1.1, h1.1.2, h1.2⟩
        · cases h1
      · cases h1
    · rw [if_neg e] at hC
      exact subH_ok h.2 j C hC
theorem lkN_mem : ∀ {f : List (Nat × Nat)} {j i : Nat}, lkN f j = some i → (j, i) ∈ f
  | x :: r, j, i, h => by
    simp only [lkN] at h
    by_cases e : x.1 = j
    · subst e
      simp only [Nat.beq_refl, cond_true, Option.some.injEq] at h
      subst h
      simp
    · simp only [beq_no e, cond_false] at h
      exact List.mem_cons_of_mem _ (lkN_mem h)
theorem allLt_ok {n : Nat} : ∀ {f : List (Nat × Nat)}, allLt n f = true → ∀ x ∈ f, x.1 < n
  | x :: r, h, y, hy => by
    simp only [allLt, Bool.and_eq_true] at h
    cases hy with
    | head =>
      have := Nat.le_of_ble_eq_true (show Nat.ble (x.1 + 1) n = true from h.1)
      omega
    | tail _ hy => exact allLt_ok h.2 y hy
theorem noDup_inj : ∀ {f : List (Nat × Nat)}, noDup (f.map (·.2)) = true → ∀ a b i, (a, i) ∈ f → (b, i) ∈ f → a = b
  | x :: r, h, a, b, i, ha, hb => by
    simp only [List.map_cons, noDup, Bool.and_eq_true, Bool.not_eq_true'] at h
    have hno : ∀ c, (c, x.2) ∉ r := by
      intro c hc
      have : x.2 ∈ r.map (·.2) := List.mem_map.2 ⟨(c, x.2), hc, rfl⟩
      rw [(hasN_iff _ _).2 this] at h
      cases h.1
    cases ha with
    | head =>
      cases hb with
      | head => rfl
      | tail _ hb => exact absurd hb (hno b)
    | tail _ ha =>
      cases hb with
      | head => exact absurd ha (hno a)
      | tail _ hb => exact noDup_inj h.2 a b i ha hb
/-- What holds here, the blocks named. -/
noncomputable def HereR (V : Nat → Value) (ρ : Rho) (base : Nat) (w0 : World) (t : Sl) (s : St) (a : Act) (w : World) : Prop :=
  TR V ρ t a ∧ Rep V ρ s w ∧ (∀ i, s.next ≤ i → ρ.blk i = none) ∧ (∀ i, s.ncap ≤ i → ρ.cap i = none) ∧ (∀ i b, ρ.blk i = some b → base ≤ b) ∧ Below base w0 w ∧ base ≤ w.heap.size
theorem here_subR (hone : ∀ i, (V i).oneCell' = true) {base : Nat} {w0 : World} {t u : Sl} {s r : St} {a : Act} {w : World} {ρ : Rho} (f fc : List (Nat × Nat)) (h : subOK f fc t s u r = true) (hh : HereR V ρ base w0 t s a w) : HereR V (ρ.ren f fc) base w0 u r a w := by
  unfold subOK at h
  simp only [Bool.and_eq_true] at h
  obtain ⟨⟨⟨⟨⟨⟨h1, h2⟩, h3⟩, h4⟩, h5⟩, h6⟩, h7⟩ := h
  have h1 := Nat.eq_of_beq_eq_true h1
  obtain ⟨ht, hr, g1, g2, g3, g4, g5⟩ := hh
  have hlt : ∀ j i, lkN f j = some i → j < r.next := fun j i hj => allLt_ok h6 _ (lkN_mem hj)
  have hltc : ∀ j i, lkN fc j = some i → j < r.ncap := fun j i hj => allLt_ok h7 _ (lkN_mem hj)
  have hblk : ∀ j b, (ρ.ren f fc).blk j = some b → ∃ i, lkN f j = some i ∧ ρ.blk i = some b := by
    intro j b hb
    have hb : (lkN f j).bind ρ.blk = some b := hb
    cases hj : lkN f j with
    | none => rw [hj] at hb; cases hb
    | some i => rw [hj] at hb; exact ⟨i, rfl, hb⟩
  refine ⟨⟨by rw [ht.z, h1], fun d => ?_, ht.df⟩, ⟨?_, ?_, ?_, ?_⟩, ?_, ?_, ?_, g4, g5⟩
  · by_cases hd : d < u.length
    · exact subV_ok hone (subT_ok h2 d hd) (ht.v d)
    · have := ht.v d
      rw [lget_far (by omega)] at this
      rw [lget_far hd]
      exact this
  · intro j C hC
    obtain ⟨i, B, k1, k2, k3, k4, k5⟩ := subH_ok h3 j C hC
    obtain ⟨b, cs, q1, q2, pre, post, q3, q4, q5⟩ := hr.h i B k2
    refine ⟨b, cs, by show (lkN f j).bind ρ.blk = some b; rw [k1]; exact q1, by rw [← k3]; exact q2, pre, post, q3, subL_ok hone k4 q4, ?_⟩
    unfold subM at k5
    unfold MR at q5 ⊢
    split at k5
    · rename_i hm1 hm2
      rw [hm1] at q5
      rw [hm2]
      exact q5
    · rename_i c z d y hm1 hm2
      rw [hm1] at q5
      rw [hm2]
      simp only [Bool.and_eq_true] at k5
      have e1 := Nat.eq_of_beq_eq_true k5.1
      subst e1
      by_cases hz : z = 0
      · subst hz
        have e2 := Nat.eq_of_beq_eq_true (show Nat.beq c d = true from k5.2)
        subst e2
        simp only [if_pos] at q5 ⊢
        obtain ⟨p1, p2⟩ := q5
        rw [p1] at k4
        refine ⟨?_, p2⟩
        cases hC' : C.cells with
        | nil => rfl
        | cons _ _ => rw [hC'] at k4; cases k4
      · simp only [beq_no hz, cond_false] at k5
        have e2 := isN_eq k5.2
        simp only [if_neg hz] at q5 ⊢
        obtain ⟨m, p1, p2⟩ := q5
        exact ⟨m, by show (lkN fc d).bind ρ.cap = some m; rw [e2]; exact p1, p2⟩
    · cases k5
  · intro i j C D b hC hD hi hj
    obtain ⟨i', B, k1, k2, _⟩ := subH_ok h3 i C hC
    obtain ⟨j', B', k1', k2', _⟩ := subH_ok h3 j D hD
    obtain ⟨i2, e1, e2⟩ := hblk i b hi
    obtain ⟨j2, e3, e4⟩ := hblk j b hj
    rw [k1] at e1
    rw [k1'] at e3
    injection e1 with e1
    injection e3 with e3
    subst e1
    subst e3
    have := hr.inj i' j' B B' b k2 k2' e2 e4
    subst this
    exact noDup_inj h4 i j i' (lkN_mem k1) (lkN_mem k1')
  · intro j b hb
    obtain ⟨i, _, e⟩ := hblk j b hb
    exact hr.bnd i b e
  · intro j C hC
    obtain ⟨i, B, k1, _⟩ := subH_ok h3 j C hC
    exact hlt j i k1
  · intro j hj
    cases hb : (ρ.ren f fc).blk j with
    | none => rfl
    | some b =>
      obtain ⟨i, e, _⟩ := hblk j b hb
      have := hlt j i e
      omega
  · intro j hj
    show (lkN fc j).bind ρ.cap = none
    cases hb : lkN fc j with
    | none => rfl
    | some i =>
      have := hltc j i hb
      omega
  · intro j b hb
    obtain ⟨i, _, e⟩ := hblk j b hb
    exact g3 i b e
theorem here_sub (hone : ∀ i, (V i).oneCell' = true) {base : Nat} {w0 : World} {t u : Sl} {s r : St} {a : Act} {w : World} (f fc : List (Nat × Nat)) (h : subOK f fc t s u r = true) (hh : Here V base w0 t s a w) : Here V base w0 u r a w := by
  obtain ⟨ρ, hh⟩ := hh
  exact ⟨_, here_subR hone f fc h hh⟩
/-- A call, from its beginning. -/
theorem here_call {P : Program} {E : Env} (hE : EnvOK P V E) (hx : ExtOK P V E) (m : Nat) {f : Nat} {fn : Func} {c : Code} (hf : P.funcs[f]? = some fn) (hc : fn.body = some c) {args : List AV} {vals : Array Value} (hargs : F2 (VR V ρ0) args vals.toList) (hle : args.length ≤ fn.ntmps) (w : World)
    {hk : Nat → Sl → St → Option (AE × Sl × St)} (hH : HookOK P V w.heap.size w c hk) {t' : Sl} {s' : St} {e : AE} (h : codeH E (fnA E m) hk c (pad fn.ntmps args) st0 = some (e, t', s')) (he : e = .normal ∨ e = .ret) (hres : resultsA E t' s' fn.results.toList = some [.c (.bool true)]) :
    Calls P f vals w fun e w' => e = .returned (.bool true) ∧ Below w.heap.size w w' := by
  have hvl : vals.size = args.length := by rw [← Array.length_toList, ← hargs.length]
  have ht : TR V ρ0 (pad fn.ntmps args) { tmps := vals ++ Array.replicate (fn.ntmps - vals.size) undef, defers := [] } := by
    refine ⟨by rw [pad_length]; simp; omega, fun d => ?_, rfl⟩
    rw [pad_look _ _ _ hle]
    have h1 := lget_F2 hargs d
    have h2 : (vals ++ Array.replicate (fn.ntmps - vals.size) undef).getD d undef = vals.toList.getD d undef := by
      simp only [Array.getD_eq_getD_getElem?, List.getD_eq_getElem?_getD, Array.getElem?_append, Array.getElem?_toList]
      by_cases hd : d < vals.size
      · rw [if_pos hd]
      · rw [if_neg hd, Array.getElem?_eq_none (by omega : vals.size ≤ d), Array.getElem?_replicate]
        split <;> rfl
    show VR V ρ0 _ ((vals ++ Array.replicate (fn.ntmps - vals.size) undef).getD d undef)
    rw [h2]
    exact h1
  refine calls_of_wp hf hc ?_
  refine codeH_ok hE hx m hH c (fun id b hb => ⟨b, hb, rfl⟩) h ⟨ρ0, ht, rep0 w, fun _ _ => rfl, fun _ _ => rfl, fun i b hb => (by cases hb), Below.refl _ _, Nat.le_refl _⟩ _ ?_
  rintro a' w' ⟨ρ', ht', hr', _, _, _, hb, _⟩
  obtain ⟨vs, g1, g2⟩ := results_ok hE ht' hr' _ _ hres
  have hr2 : (results fn a'.tmps).run P w' = .ok (if h : vs.toArray.size = 1 then vs.toArray[0] else .tuple vs.toArray) w' := by
    unfold results
    rw [Array.mapM_eq_mapM_toList]
    simp only [Sem.run_bind, Sem.run_map, Sem.run_pure]
    generalize hX : Sem.run P (List.mapM _ fn.results.toList) w' = Y
    have hY : Y = .ok vs w' := hX.symm.trans g1
    rw [hY]
    simp only [Result.andThen_ok]
  have hv : vs = [.bool true] := by
    match vs, g2 with
    | [v], g2 => rw [show v = .bool true from g2.1]
  subst hv
  rcases he with rfl | rfl
  · exact ⟨ht'.df, _, hr2, rfl, hb⟩
  · exact ⟨ht'.df, _, hr2, rfl, hb⟩
end
end Ab
end Go.Proofs.YtbfppnppijcnlaaGreat
