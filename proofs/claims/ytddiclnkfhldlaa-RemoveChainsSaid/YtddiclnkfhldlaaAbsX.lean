/-
  Regions and code: what the interpreter says of them, they do.
  Conditions: none.
-/
import Derived.Test.YtddiclnkfhldlaaAbsV
namespace Go.Proofs.Ytddiclnkfhldlaa
namespace Ab
set_option linter.unusedVariables false
set_option linter.unusedSimpArgs false
section
variable {P : Program} {V : Nat → Value} {E : Env}
def Up (s s' : St) : Prop := s.next ≤ s'.next ∧ s.ncap ≤ s'.ncap
theorem Up.refl (s : St) : Up s s := ⟨Nat.le_refl _, Nat.le_refl _⟩
theorem Up.trans {a b c : St} (h : Up a b) (k : Up b c) : Up a c := ⟨Nat.le_trans h.1 k.1, Nat.le_trans h.2 k.2⟩
theorem storeA_up {s s' : St} {ty : Nat} {a v : AV} (h : storeA E s ty a v = some s') : Up s s' := by
  unfold storeA at h
  simp only [Bool.cond_eq_ite] at h
  (repeat' split at h) <;> first | cases h; done | (injection h with h; subst h; exact ⟨Nat.le_refl _, Nat.le_refl _⟩)
theorem sliceA_up {s s' : St} {ty : Nat} {x v : AV} {lo hi mx : Option AV} (h : sliceA E s ty x lo hi mx = some (v, s')) : Up s s' := by
  unfold sliceA at h
  simp only [Bool.cond_eq_ite] at h
  (repeat' split at h) <;> first | cases h; done | (simp only [Option.some.injEq, Prod.mk.injEq] at h; obtain ⟨_, rfl⟩ := h; exact ⟨by simp, by simp⟩)
theorem appendA_up {s s' : St} {tys : Array Nat} {x y v : AV} (h : appendA E s tys x y = some (v, s')) : Up s s' := by
  unfold appendA at h
  simp only [Bool.cond_eq_ite] at h
  (repeat' split at h) <;> first | cases h; done | (simp only [Option.some.injEq, Prod.mk.injEq] at h; obtain ⟨_, rfl⟩ := h; exact ⟨by simp [St.new], by simp [St.new]⟩)
theorem clearA_up {s s' : St} {tys : Array Nat} {x : AV} (h : clearA E s tys x = some s') : Up s s' := by
  unfold clearA at h
  simp only [Bool.cond_eq_ite] at h
  (repeat' split at h) <;> first | cases h; done | (simp only [Option.some.injEq] at h; subst h; exact ⟨by simp, by simp⟩)
theorem makeSliceA_up {s s' : St} {ty : Nat} {x y v : AV} (h : makeSliceA E s ty x y = some (v, s')) : Up s s' := by
  unfold makeSliceA at h
  (repeat' split at h) <;> first | cases h; done | (simp only [Option.some.injEq, Prod.mk.injEq] at h; obtain ⟨_, rfl⟩ := h; exact ⟨by simp [St.new], by simp [St.new]⟩)
theorem opA_up {call : Call1} (hc : CallUp call) {t : Sl} {s s' : St} {o : Oper} {v : AV} (h : opA E call t s o = some (v, s')) : Up s s' := by
  unfold opA at h
  simp only [Bool.cond_eq_ite] at h
  (repeat' split at h) <;> first
    | (cases h; done)
    | exact hc _ _ _ _ _ h
    | exact makeSliceA_up h
    | exact sliceA_up h
    | exact appendA_up h
    | (simp only [Option.some.injEq, Prod.mk.injEq] at h; obtain ⟨_, rfl⟩ := h; first | exact Up.refl _ | exact ⟨by simp [St.new], by simp [St.new]⟩ | exact storeA_up (by assumption) | exact clearA_up (by assumption))
theorem stepA_up {call : Call1} (hc : CallUp call) {ops : Array Oper} {t : Sl} {s s' : St} {o : Oper} {v : AV} (h : stepA E call ops t s o = some (v, s')) : Up s s' := by
  unfold stepA at h
  split at h
  · exact opA_up hc h
  · simp only [Option.some.injEq, Prod.mk.injEq] at h
    obtain ⟨_, rfl⟩ := h
    exact Up.refl _
  · cases h
theorem opsA_up {call : Call1} (hc : CallUp call) {ops : Array Oper} : ∀ (l : List Oper) {t t' : Sl} {s s' : St}, opsA E call ops l t s = some (t', s') → Up s s'
  | [], t, t', s, s', h => by
    simp only [opsA, Option.some.injEq, Prod.mk.injEq] at h
    obtain ⟨_, rfl⟩ := h
    exact Up.refl _
  | o :: l, t, t', s, s', h => by
    simp only [opsA] at h
    split at h
    · rename_i v s1 h1
      exact (stepA_up hc h1).trans (opsA_up hc l h)
    · cases h
/-- The slots behind a write. -/
theorem tr_put {ρ : Rho} {t : Sl} {a : Act} {v : AV} {c : Value} (ht : TR V ρ t a) (hv : VR V ρ v c) (d : Option Nat) : TR V ρ (put t d v) (a.put d c) := by
  cases d with
  | none => exact ht
  | some d =>
    refine ⟨by simp [put, Act.put, lset_length, ht.z], fun e => ?_, ht.df⟩
    simp only [put, Act.put, lget_lset]
    by_cases h1 : e = d ∧ d < t.length
    · rw [if_pos h1]
      have : (a.tmps.setIfInBounds d c).getD e undef = c := by
        obtain ⟨rfl, h2⟩ := h1
        have h3 : e < a.tmps.size := by rw [ht.z]; exact h2
        simp [Array.getD, h3]
      rw [this]
      exact hv
    · rw [if_neg h1]
      have : (a.tmps.setIfInBounds d c).getD e undef = a.tmps.getD e undef := by
        by_cases h2 : e = d
        · subst h2
          have h3 : ¬ e < t.length := fun h => h1 ⟨rfl, h⟩
          have h4 : ¬ e < a.tmps.size := by rw [ht.z]; exact h3
          simp [Array.getD, h4]
        · simp only [Array.getD_eq_getD_getElem?, Array.getElem?_setIfInBounds, if_neg (Ne.symm h2)]
      rw [this]
      exact ht.v e
/-- Whether an operation is wanted. -/
theorem want_ok {ρ : Rho} {ops : Array Oper} {t : Sl} {a : Act} {o : Oper} {b : Bool} (ht : TR V ρ t a) (h : wantA ops t o = some b) : Region.wanted o (yielded ops a.tmps) = b := by
  unfold wantA at h
  unfold Region.wanted
  cases hg : o.guard with
  | none =>
    simp only [hg, Option.some.injEq] at h
    exact h
  | some jb =>
    obtain ⟨j, wnt⟩ := jb
    simp only [hg] at h ⊢
    cases hd : (ops[j]?).bind (·.dst) with
    | none =>
      simp only [hd, Option.some.injEq] at h
      subst h
      simp [yielded, hd]
    | some d =>
      simp only [hd] at h
      have hv := ht.v d
      split at h
      · rename_i b' he
        rw [he] at hv
        have hv : a.tmps.getD d undef = .bool b' := hv
        simp only [Option.some.injEq] at h
        subst h
        have : a.tmps[d]? = some (.bool b') := by
          by_cases h3 : d < a.tmps.size
          · simp [Array.getD, h3] at hv
            simp [h3, hv]
          · simp [Array.getD, h3, undef] at hv
        simp [yielded, hd, this]
      · rename_i he
        rw [he] at hv
        have hv : a.tmps.getD d undef = undef := hv
        simp only [Option.some.injEq] at h
        subst h
        have : ∀ q, a.tmps[d]? ≠ some (.bool q) := by
          intro q hq
          have h3 := (Array.getElem?_eq_some_iff.1 hq)
          obtain ⟨h3, h4⟩ := h3
          simp [Array.getD, h3] at hv
          rw [hv] at h4
          cases h4
        have hy : yielded ops a.tmps j = none := by
          unfold yielded
          rw [hd]
          simp only [Option.bind_some]
        rw [hy]
        try rfl
      · cases h
/-- One operation of a region. -/
theorem step_ok (hE : EnvOK P V E) {call : Call1} (hcall : CallOK P V call) (hfn : CallFn E call) {ops : Array Oper} {t : Sl} {s s' : St} {i : Nat} {o : Oper} {v : AV} (hi : ops[i]? = some o) (h : stepA E call ops t s o = some (v, s')) {ρ : Rho} {a : Act} {w : World} (ht : TR V ρ t a) (hr : Rep V ρ s w) (hf : Free ρ s s')
    {K : Act → World → Prop} {Q : Exit → Act → World → Prop} (hK : ∀ ρ' c w', Goes V ρ s w s' w' ρ' → VR V ρ' v c → K (a.put o.dst c) w') : wpOp P ops Q i K a w := by
  unfold wpOp
  rw [hi]
  simp only
  unfold stepA at h
  split at h
  · rename_i hw
    rw [want_ok ht hw, if_pos rfl]
    exact .inl (opA_ok hE hcall hfn h ρ a w ht hr hf K Q hK)
  · rename_i hw
    rw [want_ok ht hw]
    simp only [Option.some.injEq, Prod.mk.injEq] at h
    obtain ⟨rfl, rfl⟩ := h
    simp only [Bool.false_eq_true, if_false]
    exact hK ρ undef w (Goes.refl V hr) rfl
  · cases h
/-- A region in its own order. -/
theorem ops_ok (hE : EnvOK P V E) {call : Call1} (hcall : CallOK P V call) (hfn : CallFn E call) (hup : CallUp call) {ops : Array Oper} {Q : Exit → Act → World → Prop} : ∀ (l : List Oper) (k : Nat), ops.toList.drop k = l → ∀ {t t' : Sl} {s s' : St}, opsA E call ops l t s = some (t', s') → ∀ {ρ : Rho} {a : Act} {w : World}, TR V ρ t a → Rep V ρ s w → Free ρ s s' →
    (∀ ρ' a' w', Goes V ρ s w s' w' ρ' → TR V ρ' t' a' → Q .normal a' w') → wpOps P ops Q (List.range' k l.length) a w
  | [], k, hk, t, t', s, s', h, ρ, a, w, ht, hr, hf, hQ => by
    simp only [opsA, Option.some.injEq, Prod.mk.injEq] at h
    obtain ⟨rfl, rfl⟩ := h
    exact hQ ρ a w (Goes.refl V hr) ht
  | o :: l, k, hk, t, t', s, s', h, ρ, a, w, ht, hr, hf, hQ => by
    simp only [opsA] at h
    split at h
    · rename_i v s1 h1
      have hi : ops[k]? = some o := by
        have := congrArg (fun l : List Oper => l[0]?) hk
        simpa using this
      have hk' : ops.toList.drop (k + 1) = l := by
        rw [← List.drop_drop, hk]
        rfl
      have hup1 := opsA_up hup l h
      rw [List.length_cons, List.range'_succ, wpOps_cons]
      refine step_ok hE hcall hfn hi h1 ht hr (hf.left hup1.1 hup1.2) ?_
      intro ρ1 c w1 hg hv
      refine ops_ok hE hcall hfn hup l (k + 1) hk' h (tr_put (ht.mono V hg.2.2) hv o.dst) hg.1 (hf.right hg.2.1) ?_
      intro ρ2 a2 w2 hg2 ht2
      exact hQ ρ2 a2 w2 (hg.trans V hg2) ht2
    · cases h
/-- How code ends. -/
def AEx : AE → Exit
  | .normal => .normal
  | .ret => .ret
  | .exit id => .exit id
abbrev Draw1 := Array Oper → Sl → St → Option (Sl × St)
def DrawOK (P : Program) (V : Nat → Value) (dr : Draw1) : Prop :=
  ∀ ops t s t' s', dr ops t s = some (t', s') → ∀ id ρ a w, TR V ρ t a → Rep V ρ s w → Free ρ s s' → ∀ Q : Exit → Act → World → Prop, (∀ ρ' a' w', Goes V ρ s w s' w' ρ' → TR V ρ' t' a' → Q .normal a' w') → (Code.region id ops true).wp P Q a w
def DrawUp (dr : Draw1) : Prop := ∀ ops t s t' s', dr ops t s = some (t', s') → Up s s'
theorem codeA_up {call : Call1} {dr : Draw1} (hc : CallUp call) (hd : DrawUp dr) : ∀ (n : Nat) (c : Code) {t t' : Sl} {s s' : St} {e : AE}, codeA E call dr n c t s = some (e, t', s') → Up s s'
  | 0, c, t, t', s, s', e, h => by simp [codeA] at h
  | n + 1, c, t, t', s, s', e, h => by
    cases c with
    | skip =>
      simp only [codeA, Option.some.injEq, Prod.mk.injEq] at h
      obtain ⟨_, _, rfl⟩ := h
      exact Up.refl _
    | region id ops draw =>
      simp only [codeA] at h
      split at h
      · rename_i t1 s1 h1
        simp only [Option.some.injEq, Prod.mk.injEq] at h
        obtain ⟨_, _, rfl⟩ := h
        cases draw
        · exact opsA_up hc _ h1
        · exact hd _ _ _ _ _ h1
      · cases h
    | seq x y =>
      simp only [codeA] at h
      split at h
      · rename_i t1 s1 h1
        exact (codeA_up hc hd n x h1).trans (codeA_up hc hd n y h)
      · exact codeA_up hc hd n x h
    | cond b x y =>
      simp only [codeA] at h
      split at h
      · exact codeA_up hc hd n _ h
      · cases h
    | block id b =>
      simp only [codeA] at h
      split at h
      · rename_i j t1 s1 h1
        have := codeA_up hc hd n b h1
        split at h
        · simp only [Option.some.injEq, Prod.mk.injEq] at h
          obtain ⟨_, _, rfl⟩ := h
          exact this
        · simp only [Option.some.injEq, Prod.mk.injEq] at h
          obtain ⟨_, _, rfl⟩ := h
          exact this
      · exact codeA_up hc hd n b h
    | loop b =>
      simp only [codeA] at h
      split at h
      · rename_i t1 s1 h1
        exact (codeA_up hc hd n b h1).trans (codeA_up hc hd n _ h)
      · exact codeA_up hc hd n b h
    | exit id =>
      simp only [codeA, Option.some.injEq, Prod.mk.injEq] at h
      obtain ⟨_, _, rfl⟩ := h
      exact Up.refl _
    | ret =>
      simp only [codeA, Option.some.injEq, Prod.mk.injEq] at h
      obtain ⟨_, _, rfl⟩ := h
      exact Up.refl _
    | rangeFunc _ _ _ _ => simp [codeA] at h
    | scope _ => simp [codeA] at h
    | label _ => simp [codeA] at h
    | goto _ => simp [codeA] at h
    | refuse _ => simp [codeA] at h
/-- A loop, from its round's beginning. -/
def LoopWp (P : Program) (c : Code) (Q : Exit → Act → World → Prop) (a : Act) (w : World) : Prop :=
  ∀ (b : Frame) (k : List Item) (cs : List Frame), ∃ e a' w', Q e a' w' ∧ Arrives P (lone (b.at a (.code c :: .inLoop c :: k)) cs w) b k cs e a' w'
theorem wp_of_loop {c : Code} {a : Act} {w : World} {Q : Exit → Act → World → Prop} (h : LoopWp P c Q a w) : (Code.loop c).wp P Q a w := by
  intro b k cs
  obtain ⟨e, a', w', hq, harr⟩ := h b k cs
  exact ⟨e, a', w', hq, .of_steps (.one step_loop) harr⟩
theorem loop_one {c : Code} {a : Act} {w : World} {Q : Exit → Act → World → Prop} (h : c.wp P (Exit.then (LoopWp P c Q) Q) a w) : LoopWp P c Q a w := by
  intro b k cs
  obtain ⟨e, a1, w1, hq, harr⟩ := h b (.inLoop c :: k) cs
  cases e with
  | normal =>
    obtain ⟨e2, a2, w2, hq2, harr2⟩ := hq b k cs
    exact ⟨e2, a2, w2, hq2, .of_steps (Steps.trans harr (.one step_inLoop)) harr2⟩
  | exit id => exact ⟨_, a1, w1, hq, .pass (x := .inLoop c) rfl (fun _ _ => .inl (by simp)) harr⟩
  | goto l => exact ⟨_, a1, w1, hq, .pass (x := .inLoop c) rfl (fun _ _ => .inl (by simp)) harr⟩
  | ret => exact ⟨_, a1, w1, hq, .pass (x := .inLoop c) rfl (fun _ _ => .inl (by simp)) harr⟩
  | panic ch => exact ⟨_, a1, w1, hq, .pass (x := .inLoop c) rfl (fun _ _ => .inl (by simp)) harr⟩
  | outgrown => exact ⟨_, a1, w1, hq, .pass (x := .inLoop c) rfl (fun _ _ => .inl (by simp)) harr⟩
/-- What code gives. -/
def After (V : Nat → Value) (ρ : Rho) (s : St) (w : World) (e : AE) (t' : Sl) (s' : St) (Q : Exit → Act → World → Prop) : Prop :=
  ∀ ρ' a' w', Goes V ρ s w s' w' ρ' → TR V ρ' t' a' → Q (AEx e) a' w'
theorem After.then {ρ ρ1 : Rho} {s s1 s' : St} {w w1 : World} {e : AE} {t' : Sl} {Q : Exit → Act → World → Prop} (h : After V ρ s w e t' s' Q) (g : Goes V ρ s w s1 w1 ρ1) : After V ρ1 s1 w1 e t' s' Q :=
  fun ρ' a' w' g' ht => h ρ' a' w' (g.trans V g') ht
theorem code_ok (hE : EnvOK P V E) {call : Call1} (hcall : CallOK P V call) (hfn : CallFn E call) (hup : CallUp call) {dr : Draw1} (hdr : DrawOK P V dr) (hdu : DrawUp dr) : ∀ (n : Nat),
    (∀ (c : Code) {t t' : Sl} {s s' : St} {e : AE}, codeA E call dr n c t s = some (e, t', s') → ∀ {ρ : Rho} {a : Act} {w : World}, TR V ρ t a → Rep V ρ s w → Free ρ s s' → ∀ Q, After V ρ s w e t' s' Q → c.wp P Q a w) ∧
    (∀ (c : Code) {t t' : Sl} {s s' : St} {e : AE}, codeA E call dr n (.loop c) t s = some (e, t', s') → ∀ {ρ : Rho} {a : Act} {w : World}, TR V ρ t a → Rep V ρ s w → Free ρ s s' → ∀ Q, After V ρ s w e t' s' Q → LoopWp P c Q a w)
  | 0 => ⟨fun c _ _ _ _ _ h => by simp [codeA] at h, fun c _ _ _ _ _ h => by simp [codeA] at h⟩
  | n + 1 => by
    obtain ⟨ih1, ih2⟩ := code_ok hE hcall hfn hup hdr hdu n
    have hloop : (∀ (c : Code) {t t' : Sl} {s s' : St} {e : AE}, codeA E call dr (n + 1) (.loop c) t s = some (e, t', s') → ∀ {ρ : Rho} {a : Act} {w : World}, TR V ρ t a → Rep V ρ s w → Free ρ s s' → ∀ Q, After V ρ s w e t' s' Q → LoopWp P c Q a w) := by
      intro c t t' s s' e h ρ a w ht hr hf Q hQ
      simp only [codeA] at h
      refine loop_one ?_
      split at h
      · rename_i t1 s1 h1
        have hu := codeA_up hup hdu n _ h
        refine ih1 c h1 ht hr (hf.left hu.1 hu.2) _ ?_
        intro ρ1 a1 w1 hg ht1
        exact ih2 c h ht1 hg.1 (hf.right hg.2.1) Q (hQ.then hg)
      · rename_i hne
        refine ih1 c h ht hr hf _ ?_
        intro ρ1 a1 w1 hg ht1
        cases e with
        | normal => exact absurd h (hne _ _)
        | ret => exact hQ ρ1 a1 w1 hg ht1
        | exit id => exact hQ ρ1 a1 w1 hg ht1
    refine ⟨?_, hloop⟩
    intro c t t' s s' e h ρ a w ht hr hf Q hQ
    cases c with
    | skip =>
      simp only [codeA, Option.some.injEq, Prod.mk.injEq] at h
      obtain ⟨rfl, rfl, rfl⟩ := h
      exact wp_skip (hQ ρ a w (Goes.refl V hr) ht)
    | region id ops draw =>
      simp only [codeA] at h
      split at h
      · rename_i t1 s1 h1
        simp only [Option.some.injEq, Prod.mk.injEq] at h
        obtain ⟨rfl, rfl, rfl⟩ := h
        cases draw
        · have := ops_ok hE hcall hfn hup (Q := Q) ops.toList 0 (by simp) h1 ht hr hf (fun ρ' a' w' g t => hQ ρ' a' w' g t)
          rw [← List.range_eq_range', Array.length_toList] at this
          exact wp_region this
        · exact hdr ops t s t1 s1 h1 id ρ a w ht hr hf Q (fun ρ' a' w' g t => hQ ρ' a' w' g t)
      · cases h
    | seq x y =>
      simp only [codeA] at h
      refine wp_seq ?_
      split at h
      · rename_i t1 s1 h1
        have hu := codeA_up hup hdu n _ h
        refine ih1 x h1 ht hr (hf.left hu.1 hu.2) _ ?_
        intro ρ1 a1 w1 hg ht1
        exact ih1 y h ht1 hg.1 (hf.right hg.2.1) Q (hQ.then hg)
      · rename_i hne
        refine ih1 x h ht hr hf _ ?_
        intro ρ1 a1 w1 hg ht1
        cases e with
        | normal => exact absurd h (hne _ _)
        | ret => exact hQ ρ1 a1 w1 hg ht1
        | exit id => exact hQ ρ1 a1 w1 hg ht1
    | cond b x y =>
      simp only [codeA] at h
      split at h
      · rename_i k hk
        have hb := eval_ok ht b
        rw [hk] at hb
        have hb : a.eval b = .bool k := hb
        refine wp_cond hb ?_
        have := ih1 _ h ht hr hf Q hQ
        cases k <;> simpa using this
      · cases h
    | block id b =>
      simp only [codeA] at h
      refine wp_block ?_
      split at h
      · rename_i j t1 s1 h1
        split at h
        · rename_i hj
          simp only [Option.some.injEq, Prod.mk.injEq] at h
          obtain ⟨rfl, rfl, rfl⟩ := h
          refine ih1 b h1 ht hr hf _ ?_
          intro ρ1 a1 w1 hg ht1
          show (if j = id then _ else _)
          rw [if_pos hj]
          exact hQ ρ1 a1 w1 hg ht1
        · rename_i hj
          simp only [Option.some.injEq, Prod.mk.injEq] at h
          obtain ⟨rfl, rfl, rfl⟩ := h
          refine ih1 b h1 ht hr hf _ ?_
          intro ρ1 a1 w1 hg ht1
          show (if j = id then _ else _)
          rw [if_neg hj]
          exact hQ ρ1 a1 w1 hg ht1
      · rename_i hne
        refine ih1 b h ht hr hf _ ?_
        intro ρ1 a1 w1 hg ht1
        cases e with
        | normal => exact hQ ρ1 a1 w1 hg ht1
        | ret => exact hQ ρ1 a1 w1 hg ht1
        | exit id' => exact absurd h (hne _ _ _)
    | loop b => exact wp_of_loop (hloop b h ht hr hf Q hQ)
    | exit id =>
      simp only [codeA, Option.some.injEq, Prod.mk.injEq] at h
      obtain ⟨rfl, rfl, rfl⟩ := h
      exact wp_exit (hQ ρ a w (Goes.refl V hr) ht)
    | ret =>
      simp only [codeA, Option.some.injEq, Prod.mk.injEq] at h
      obtain ⟨rfl, rfl, rfl⟩ := h
      exact wp_ret (hQ ρ a w (Goes.refl V hr) ht)
    | rangeFunc _ _ _ _ => simp [codeA] at h
    | scope _ => simp [codeA] at h
    | label _ => simp [codeA] at h
    | goto _ => simp [codeA] at h
    | refuse _ => simp [codeA] at h
end
end Ab
end Go.Proofs.Ytddiclnkfhldlaa
