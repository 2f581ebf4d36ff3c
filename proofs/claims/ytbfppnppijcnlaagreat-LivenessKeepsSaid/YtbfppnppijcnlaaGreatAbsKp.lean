/-
  A region in any order with two calls, the first one's result known only by what it is to the second one.
  Conditions: none.
-/
import Derived.Test.YtbfppnppijcnlaaGreatAbsI
namespace Go.Proofs.YtbfppnppijcnlaaGreat
namespace Ab
set_option linter.unusedVariables false
set_option linter.unusedSimpArgs false
noncomputable def noCall : Op → Bool
  | .call c => (match c.callee with | .value _ => false | _ => true)
  | _ => true
/-- Operations that write nothing that was there. -/
noncomputable def noW (o : Op) : Bool := isPure o || (match o with | .convert .. => true | .load .. => true | .alloc _ => true | .buildSlice .. => true | _ => false)
section
variable {P : Program} {V : Nat → Value} {E : Env}
noncomputable def callN : Call1 := fun _ _ _ => none
theorem callN_ok : CallOK P V callN := fun f args s v s' h => by cases h
theorem deep_free {α : Type} {g : Nat} {x : Option α} {y : α} (h : (bif Nat.ble 1000000 g then none else x) = some y) : x = some y := by
  cases hg : Nat.ble 1000000 g
  · simp only [hg, cond_false] at h
    exact h
  · simp [hg] at h
theorem deep_callN (k : Nat) (args : List AV) : deepL callN k args = none := by
  unfold deepL
  split <;> rfl
theorem opA_noCall {call : Call1} {t : Sl} {s : St} {o : Oper} (hd : ∀ k args, deepL call k args = none) (h : noCall o.op = true) : opA E call t s o = opA E callN t s o := by
  simp only [opA_eq]
  unfold opA0
  cases ho : o.op with
  | call c =>
    rw [ho] at h
    simp only
    cases hc : c.callee with
    | value f =>
      simp only [noCall, hc] at h
      cases h
    | builtin b => cases b <;> rfl
    | _ => rfl
  | makeFunc f a b => cases f <;> rfl
  | load ty x => simp only [hd, deep_callN]
  | fieldAddr ty x f => simp only [hd, deep_callN]
  | indexAddr ty x f => simp only [hd, deep_callN]
  | _ => rfl
theorem noW_ok {call : Call1} {t : Sl} {s s' : St} {o : Oper} {v : AV} (h : noW o.op = true) (h' : opA E call t s o = some (v, s')) : s'.dirty = s.dirty := by
  unfold noW at h
  simp only [Bool.or_eq_true] at h
  rcases h with h | h
  · rw [(pure_op h h').1]
  · simp only [opA_eq] at h'
    unfold opA0 at h'
    cases ho : o.op with
    | load ty x =>
      simp only [ho] at h'
      split at h'
      · simp only [Option.some.injEq, Prod.mk.injEq] at h'
        rw [← h'.2]
      · split at h'
        · simp only [Option.some.injEq, Prod.mk.injEq] at h'
          rw [← h'.2]
        · cases h'
    | convert a b x =>
      simp only [ho] at h'
      split at h'
      · simp only [Option.some.injEq, Prod.mk.injEq] at h'
        rw [← h'.2]
      · split at h'
        · simp only [Option.some.injEq, Prod.mk.injEq] at h'
          rw [← h'.2]
        · cases h'
    | alloc ty =>
      simp only [ho] at h'
      split at h'
      · simp only [Option.some.injEq, Prod.mk.injEq] at h'
        rw [← h'.2]
        rfl
      · cases h'
    | buildSlice ty len parts =>
      simp only [ho] at h'
      split at h'
      · split at h'
        · split at h'
          · rename_i te _
            cases hb : (Nat.ble (len * te.size) 16777216 && !(Nat.beq te.size 0))
            · rw [hb] at h'
              cases h'
            · rw [hb] at h'
              simp only [cond_true] at h'
              split at h'
              · split at h'
                · simp only [Option.some.injEq, Prod.mk.injEq] at h'
                  rw [← h'.2]
                  rfl
                · cases h'
              · cases h'
          · cases h'
        · cases h'
      · cases h'
    | _ => simp [ho] at h
/-- Whatever the order; a fact J beside. -/
theorem any_okJ {call : Call1} (hup : CallUp call) {ops : Array Oper} {B : List Nat} (hB : BOK ops B) {t : Sl} {s : St} {D : DS} {L : List PR} (ht : Trace E call ops B t s D L)
    (hall : ∀ k, k < ops.size → ∃ r ∈ L, r.i = k) (hs0 : ∀ i C, look s.heap i = some C → i < s.next) {ρ0 : Rho} {w0 : World} (hfree : ∀ i, s.next ≤ i → i < D.s.next → ρ0.blk i = none) (hfreec : ∀ i, s.ncap ≤ i → i < D.s.ncap → ρ0.cap i = none)
    {J : (Nat → Bool) → Rho → Act → World → Prop} {Q : Exit → Act → World → Prop}
    (hst : ∀ r ∈ L, ∀ (X : Nat → Bool) (ρ : Rho) (a : Act) (w : World), X r.i = false → (∀ j, (B.getD r.i 0).testBit j = true → X j = true) → J X ρ a w → ∃ Z : Value → World → Prop, (∀ {t' : Sl} {s' s1 : St} {v : AV}, stepA E call ops t' s' r.o = some (v, s1) → TR V ρ t' a → Rep V ρ s' w → Free ρ s' s1 → ∀ {K : Act → World → Prop}, (∀ ρ' c w', Goes V ρ s' w s1 w' ρ' → VR V ρ' v c → Z c w' → K (a.put r.o.dst c) w') → wpOp P ops Q r.i K a w) ∧ ∀ ρ' c w', SF V s L X r ρ w ρ' w' c → Z c w' → ∀ Y : Nat → Bool, (∀ j, Y j = if j = r.i then true else X j) → J Y ρ' (a.put r.o.dst c) w')
    (hQ : ∀ ρ' a' w', Goes V ρ0 s w0 D.s w' ρ' → TR V ρ' D.t a' → Q .normal a' w') : ∀ (fuel : Nat) (listed : Array Bool) (ρ : Rho) (a : Act) (w : World), listed.size = ops.size → (∃ l : List Nat, l.length ≤ fuel ∧ ∀ j, j < ops.size → listed.getD j false = false → j ∈ l) →
    (∀ i j, listed.getD i false = true → (B.getD i 0).testBit j = true → listed.getD j false = true) → Inv V ρ0 s w0 t L D (fun j => listed.getD j false) ρ a w → J (fun j => listed.getD j false) ρ a w → wpAny P .any ops Q fuel listed a w := by
  have tf := trace_tf hup ht
  obtain ⟨hT, hH, hD1, hD2, hD3⟩ := trace_hist ht
  have hrec : ∀ r ∈ L, ops[r.i]? = some r.o ∧ r.i < ops.size := by
    intro r' hr'
    obtain ⟨L1, L2, e⟩ := List.append_of_mem hr'
    have ht' := ht
    rw [e] at ht'
    obtain ⟨_, _, _, sc1, _⟩ := trace_at hup L1 ht'
    exact ⟨sc1.ho, (Array.getElem?_eq_some_iff.1 sc1.ho).1⟩
  -- the end
  have hend : ∀ (listed : Array Bool) (ρ : Rho) (a : Act) (w : World), (∀ j, j < ops.size → listed.getD j false = true) → Inv V ρ0 s w0 t L D (fun j => listed.getD j false) ρ a w → Q .normal a w := by
    intro listed ρ a w hl hI
    have eL : only (fun j => listed.getD j false) L = L := List.filter_eq_self.2 fun r hr => hl _ (hrec r hr).2
    obtain ⟨i1, i2, i3, i4, i5, i6, i7, i8, i9, i10, i11, i12, i13, i14, i15, i16, i17⟩ := hI
    rw [eL] at i1 i2 i3
    have hids : ∀ r ∈ L, ∀ i ∈ r.ids, i ∈ r.W ∨ r.n ≤ i := by
      intro r' hr' i hi
      obtain ⟨L1, L2, e⟩ := List.append_of_mem hr'
      have ht' := ht
      rw [e] at ht'
      obtain ⟨_, _, _, sc1, _⟩ := trace_at hup L1 ht'
      rw [sc1.ids] at hi
      rcases List.mem_append.1 hi with hi | hi
      · exact .inl hi
      · exact .inr (by rw [sc1.n]; exact newIds_ge _ _ _ hi)
    have hsub : ∀ M : List PR, (∀ r ∈ M, r ∈ L) → ∀ i C, Hist s M i C → i < D.s.next ∧ (s.next ≤ i ∨ (look s.heap i).isSome = true) := by
      intro M
      induction M with
      | nil =>
        intro _ i C hC
        have hC : look s.heap i = some C := hC
        exact ⟨Nat.lt_of_lt_of_le (hs0 i C hC) tf.s.1, .inr (by rw [hC]; rfl)⟩
      | cons q M ih =>
        intro hM i C hC
        have g1 := hM q (by simp)
        rcases hC with ⟨h1, h2⟩ | ⟨_, h2⟩
        · refine ⟨Nat.lt_of_lt_of_le (i17 q g1 (hl _ (hrec q g1).2) i C h2) (tf.up q g1).1, ?_⟩
          rcases hids q g1 i h1 with h3 | h3
          · exact (i16 q g1 (hl _ (hrec q g1).2) i h3).2
          · exact .inl (Nat.le_trans (tf.up q g1).2.2.1 h3)
        · exact ih (fun r' hr' => hM r' (by simp [hr'])) i C h2
    refine hQ ρ a w ⟨⟨fun i C hC => i2 i C (hH i C hC), fun i j C C' b hC hD => i3 i j C C' b (hH i C hC) (hH j C' hD), i4, fun i C hC => (hsub L (fun _ h => h) i C (hH i C hC)).1⟩, ?_, i9⟩ (by rw [hT]; exact i1)
    refine ⟨i7, i8, tf.s.1, tf.s.2, hD3, i10, i11, ?_, ?_, i12, i13, i14, i15⟩
    · intro j hj
      rcases hD1 j hj with h | ⟨r, h1, h2⟩
      · exact .inl h
      · exact .inr (i16 r h1 (hl _ (hrec r h1).2) j h2).2
    · intro j hj h
      obtain ⟨C, hC⟩ := Option.isSome_iff_exists.1 h
      rcases (hsub L (fun _ h => h) j C (hH j C hC)).2 with h1 | h1
      · omega
      · exact h1
  -- nothing ready: all made
  have hnone : ∀ (listed : Array Bool), listed.size = ops.size → Region.ready .any ops listed = [] → ∀ j, j < ops.size → listed.getD j false = true := by
    intro listed hz hr j
    induction j using Nat.strongRecOn with
    | _ j ih =>
      intro hj
      cases hb : listed.getD j false
      · exfalso
        have hm : j ∈ Region.ready .any ops listed := by
          rw [mem_ready]
          refine ⟨?_, ops[j], by simp [hj], fun e he hbd => ?_⟩
          · have hj' : j < listed.size := by omega
            simp [Array.getD, hj'] at hb ⊢
            exact hb
          · have := (hB j ops[j] (by simp [hj])).1 e he hbd
            exact ih e.on this (by omega)
        rw [hr] at hm
        cases hm
      · rfl
  intro fuel
  induction fuel with
  | zero =>
    intro listed ρ a w hz hc hcl hI hJ
    obtain ⟨l, h1, h2⟩ := hc
    have hl : ∀ j, j < ops.size → listed.getD j false = true := by
      intro j hj
      cases hb : listed.getD j false
      · have := h2 j hj hb
        have hl0 : l = [] := List.eq_nil_of_length_eq_zero (by omega)
        rw [hl0] at this
        cases this
      · rfl
    refine ⟨?_, hend listed ρ a w hl hI⟩
    apply List.eq_nil_iff_forall_not_mem.2
    intro j hj
    rw [mem_ready] at hj
    obtain ⟨g1, o, g2, _⟩ := hj
    have hj' := (Array.getElem?_eq_some_iff.1 g2).1
    have := hl j hj'
    have hj2 : j < listed.size := by omega
    simp [Array.getD, hj2] at this g1
    rw [this] at g1
    cases g1
  | succ fuel ih =>
    intro listed ρ a w hz hc hcl hI hJ
    refine ⟨fun hr => hend listed ρ a w (hnone listed hz hr) hI, ?_⟩
    intro k hk
    rw [mem_ready] at hk
    obtain ⟨g1, o, g2, g3⟩ := hk
    have hkz := (Array.getElem?_eq_some_iff.1 g2).1
    have hk2 : k < listed.size := by omega
    have hkf : listed.getD k false = false := by
      simp [Array.getD, hk2] at g1 ⊢
      exact g1
    obtain ⟨r, hr, rfl⟩ := hall k hkz
    obtain ⟨N, O, rfl⟩ := List.append_of_mem hr
    have hBk : ∀ j, (B.getD r.i 0).testBit j = true → listed.getD j false = true := by
      intro j hj
      obtain ⟨e, q1, q2, q3⟩ := (hB r.i o g2).2 j hj
      rcases q3 with rfl | q3
      · exact g3 e q1 q2
      · exact hcl _ _ (g3 e q1 q2) q3
    obtain ⟨Z, hz1, hz2⟩ := hst r hr (fun j => listed.getD j false) ρ a w hkf hBk hJ
    refine step_sfG (Z := Z) hup hB ht hcl hkf hBk hs0 hI hfree hfreec hz1 ?_
    intro ρ' c w' hf hzc
    have hset := fun j => getD_set listed r.i j hk2
    have hI' := inv_step hup hB ht hcl hkf hI hf (Y := fun j => (listed.setIfInBounds r.i true).getD j false) hset
    refine ih _ ρ' _ w' (by simp [hz]) ?_ ?_ hI' (hz2 ρ' c w' hf hzc _ hset)
    · obtain ⟨l, h1, h2⟩ := hc
      refine ⟨l.erase r.i, ?_, fun j hj hb => ?_⟩
      · have := h2 r.i hkz hkf
        rw [List.length_erase_of_mem this]
        omega
      · rw [hset] at hb
        by_cases e : j = r.i
        · rw [if_pos e] at hb
          cases hb
        · rw [if_neg e] at hb
          exact (List.mem_erase_of_ne e).2 (h2 j hj hb)
    · intro i j h1 h2
      rw [hset] at h1 ⊢
      by_cases e : j = r.i
      · rw [if_pos e]
      · rw [if_neg e]
        by_cases e2 : i = r.i
        · rw [e2] at h2
          exact hBk j h2
        · rw [if_neg e2] at h1
          exact hcl i j h1 h2
/-- Two calls: k0 of f0 (into slot d), and behind it k1 of f1, which has that slot as its argument number n. -/
structure Two where
  k0 : Nat
  f0 : Nat
  d : Nat
  k1 : Nat
  f1 : Nat
  n : Nat
noncomputable def calleeOf (o : Oper) : Option (Nat × List Operand) := match o.guard, o.op with
  | none, .call c => (match c.callee with | .value (.func f) => some (f, c.args.toList) | _ => none)
  | _, _ => none
noncomputable def isTmp (d : Nat) : Option Operand → Bool
  | some (.tmp j) => Nat.beq j d
  | _ => false
noncomputable def twoAt (B : List Nat) (T : Two) (i : Nat) (o : Oper) : Bool :=
  bif Nat.beq i T.k0 then (match calleeOf o, o.dst with | some (f, _), some e => Nat.beq f T.f0 && Nat.beq e T.d | _, _ => false)
  else bif Nat.beq i T.k1 then (match calleeOf o with | some (f, l) => Nat.beq f T.f1 && isTmp T.d l[T.n]? && (B.getD T.k1 0).testBit T.k0 && (match o.dst with | some e => !(Nat.beq e T.d) | none => true) | none => false)
  else noCall o.op && (match o.dst with | some e => !(Nat.beq e T.d) | none => true) && (noW o.op || (B.getD i 0).testBit T.k1)
noncomputable def twoCk (B : List Nat) (T : Two) (ops : Array Oper) : Bool := (List.range ops.size).all fun i => match ops[i]? with | some o => twoAt B T i o | none => false
noncomputable def drawT (E : Env) (call : Call1) (T : Two) (ops : Array Oper) (t : Sl) (s : St) : Option (Sl × St) :=
  match beforeA ops.toList [] 0 with
  | none => none
  | some B => bif twoCk B T ops && Nat.blt T.d t.length then drawA E call ops t s else none
theorem get_put_ne {a : Act} {d : Nat} {dst : Option Nat} {c : Value} (h : dst ≠ some d) : (a.put dst c).tmps.getD d undef = a.tmps.getD d undef := by
  cases dst with
  | none => rfl
  | some e =>
    have : e ≠ d := fun h' => h (by rw [h'])
    simp only [Act.put, Array.getD_eq_getD_getElem?, Array.getElem?_setIfInBounds, if_neg this]
theorem get_put_eq {a : Act} {d : Nat} {c : Value} (h : d < a.tmps.size) : (a.put (some d) c).tmps.getD d undef = c := by
  simp [Act.put, Array.getD, h]
theorem put_size {a : Act} {dst : Option Nat} {c : Value} : (a.put dst c).tmps.size = a.tmps.size := by
  cases dst <;> simp [Act.put]
/-- A call, by what it does. -/
theorem wp_callee (hE : EnvOK P V E) {call : Call1} (hfn : CallFn E call) {ops : Array Oper} {i : Nat} {o : Oper} {f : Nat} {l : List Operand} (hi : ops[i]? = some o) (hc : calleeOf o = some (f, l)) {t : Sl} {s s1 : St} {v : AV} (h : stepA E call ops t s o = some (v, s1)) {ρ : Rho} {a : Act} (ht : TR V ρ t a) {w : World} {K : Act → World → Prop} {Q : Exit → Act → World → Prop}
    (hcall : call f (evals t l) s = some (v, s1) → ∀ vals : Array Value, F2 (VR V ρ) (evals t l) vals.toList → vals.toList = l.map a.eval → Calls P f vals w fun e w' => ∃ c, e = .returned c ∧ K (a.put o.dst c) w') : wpOp P ops Q i K a w := by
  unfold calleeOf at hc
  split at hc
  · rename_i c hg ho
    split at hc
    · rename_i f' hcal
      simp only [Option.some.injEq, Prod.mk.injEq] at hc
      obtain ⟨rfl, rfl⟩ := hc
      simp only [stepA_eq] at h
      unfold stepA0 at h
      have hw : wantA ops t o = some true := by
        simp only [wantA_eq]
        unfold wantA0
        rw [hg]
      rw [hw] at h
      simp only at h
      simp only [opA_eq] at h
      unfold opA0 at h
      rw [ho] at h
      simp only [hcal, eval_tmp, eval_const, eval_func, eval_global] at h
      have h := deep_free h
      unfold wpOp
      rw [hi]
      simp only
      rw [want_ok ht hw, if_pos rfl]
      refine .inl ?_
      obtain ⟨fn, hfn'⟩ := hfn _ _ _ _ h
      obtain ⟨_, hcf⟩ := hE.fn f' fn hfn'
      have hrun : (execOp a.eval o).run P w = .ok (.enter f' (c.args.map a.eval)) w := by
        simp [execOp, ho, resolve, hcal, Act.eval, Deferred.ofValue, invoke, hcf]
      unfold Oper.wp
      rw [hrun, Oper.upon_enter]
      refine (hcall h (c.args.map a.eval) (by rw [Array.toList_map]; exact evals_ok ht _) (by rw [Array.toList_map])).mono ?_
      rintro e w' ⟨c', rfl, hk⟩
      exact hk
    · cases hc
  · cases hc
theorem drawT_ok (hE : EnvOK P V E) {call : Call1} (hfn : CallFn E call) (hup : CallUp call) {T : Two} {K : Value → World → Prop} (hKs : ∀ c w w', K c w → RowKit.Below w.heap.size w w' → K c w')
    (hc0 : ∀ {args s s1 v}, call T.f0 args s = some (v, s1) → ∀ ρ w (vals : Array Value), F2 (VR V ρ) args vals.toList → Rep V ρ s w → Free ρ s s1 → Calls P T.f0 vals w fun e w' => ∃ c ρ', e = .returned c ∧ Goes V ρ s w s1 w' ρ' ∧ VR V ρ' v c ∧ K c w')
    (hc1 : ∀ {args s s1 v}, call T.f1 args s = some (v, s1) → ∀ ρ w (vals : Array Value), F2 (VR V ρ) args vals.toList → Rep V ρ s w → Free ρ s s1 → K (vals.toList[T.n]?.getD undef) w → Calls P T.f1 vals w fun e w' => ∃ c ρ', e = .returned c ∧ Goes V ρ s w s1 w' ρ' ∧ VR V ρ' v c) : DrawOK P V (drawT E call T) := by
  intro ops t s t' s' h id ρ a w ht hr hf Q hQ
  unfold drawT at h
  split at h
  · cases h
  · rename_i B hB
    cases hck : (twoCk B T ops && Nat.blt T.d t.length)
    · rw [hck] at h
      cases h
    rw [hck] at h
    simp only [cond_true] at h
    simp only [Bool.and_eq_true] at hck
    obtain ⟨hck, hdl⟩ := hck
    have hdl : T.d < t.length := Nat.le_of_ble_eq_true (show Nat.ble (T.d + 1) t.length = true from hdl)
    have hck : ∀ i o, ops[i]? = some o → twoAt B T i o = true := by
      intro i o ho
      have := List.all_eq_true.1 hck i (List.mem_range.2 (Array.getElem?_eq_some_iff.1 ho).1)
      rw [ho] at this
      exact this
    unfold drawA at h
    rw [beforeF_eq] at h
    rw [hB] at h
    simp only at h
    split at h
    · rename_i D hD
      simp only [Option.some.injEq, Prod.mk.injEq] at h
      obtain ⟨rfl, rfl⟩ := h
      obtain ⟨L, hL, _, hbits⟩ := drawList_trace _ (Trace.nil (E := E) (call := call) (ops := ops) (B := B) (t := t) (s := s)) hD
      have tf := trace_tf hup hL
      have hBl : B.length = ops.size := by
        have := beforeA_length _ _ _ _ hB
        simpa using this
      refine wp_region_any hE.mixed ?_
      have hrec : ∀ r ∈ L, ops[r.i]? = some r.o ∧ ∃ D0 bk, SC E call ops B D0 r bk := by
        intro r' hr'
        obtain ⟨L1, L2, e⟩ := List.append_of_mem hr'
        have ht' := hL
        rw [e] at ht'
        obtain ⟨D0, bk, _, sc1, _⟩ := trace_at hup L1 ht'
        exact ⟨sc1.ho, D0, bk, sc1⟩
      refine any_okJ (J := fun X _ a w => T.d < a.tmps.size ∧ (X T.k0 = true → X T.k1 = false → K (a.tmps.getD T.d undef) w)) hup (bok hB) hL (fun k hk => (tf.bits k).1 (hbits k (by simp [hk]) hk (by omega))) hr.lt (w0 := w) hf.b hf.c ?_ (fun ρ' a' w' hg h => hQ ρ' a' w' hg h) ops.size _ ρ a _ (by simp) ⟨List.range ops.size, by simp, fun j hj _ => by simp [hj]⟩ ?_ ?_ ?_
      · intro r hrL X ρ a w hXr hBr hJ
        obtain ⟨ho, D0, bk, sc⟩ := hrec r hrL
        have hat := hck r.i r.o ho
        unfold twoAt at hat
        cases h0 : Nat.beq r.i T.k0
        · rw [h0] at hat
          simp only [cond_false] at hat
          have hn0 : r.i ≠ T.k0 := fun e => by rw [e, Nat.beq_refl] at h0; cases h0
          cases h1 : Nat.beq r.i T.k1
          · rw [h1] at hat
            simp only [cond_false, Bool.and_eq_true, Bool.or_eq_true] at hat
            have hn1 : r.i ≠ T.k1 := fun e => by rw [e, Nat.beq_refl] at h1; cases h1
            obtain ⟨⟨g1, g2⟩, g3⟩ := hat
            have gd : r.o.dst ≠ some T.d := by
              intro e
              rw [e] at g2
              simp only [Nat.beq_refl] at g2
              cases g2
            have hstep : ∀ t' s', stepA E call ops t' s' r.o = stepA E callN ops t' s' r.o := by
              intro t' s'
              simp only [stepA_eq]
              unfold stepA0
              rw [opA_noCall (noDeep hE hfn) g1]
            refine ⟨fun _ _ => True, ?_, ?_⟩
            · intro t' s' s1 v k1 k2 k3 k4 K' hK
              rw [hstep] at k1
              exact step_ok hE callN_ok (fun f args s r h => by cases h) ho k1 k2 k3 k4 (fun ρ' c w' q1 q2 => hK ρ' c w' q1 q2 trivial)
            · intro ρ' c w' hsf _ Y hY
              refine ⟨by rw [put_size]; exact hJ.1, fun y0 y1 => ?_⟩
              rw [get_put_ne gd]
              rw [hY, if_neg (Ne.symm hn0)] at y0
              rw [hY, if_neg (Ne.symm hn1)] at y1
              have hk := hJ.2 y0 y1
              have hW : r.W = [] := by
                rcases g3 with g3 | g3
                · have hst := sc.st
                  simp only [stepA_eq] at hst
                  unfold stepA0 at hst
                  have hd : r.s1.dirty = [] := by
                    split at hst
                    · exact noW_ok g3 hst
                    · simp only [Option.some.injEq, Prod.mk.injEq] at hst
                      rw [← hst.2]
                      rfl
                    · cases hst
                  rw [sc.W, hd]
                  rfl
                · have := hBr _ g3
                  rw [y1] at this
                  cases this
              exact hKs _ _ _ hk ⟨hsf.os, hsf.tape, hsf.out, hsf.size, fun b hb => hsf.fr b hb (fun j hj => by rw [hW] at hj; cases hj)⟩
          · rw [h1] at hat
            simp only [cond_true] at hat
            have e1 := Nat.eq_of_beq_eq_true h1
            split at hat
            · rename_i f l hcal
              simp only [Bool.and_eq_true] at hat
              obtain ⟨⟨⟨g1, g2⟩, g3⟩, g4⟩ := hat
              have g1 := Nat.eq_of_beq_eq_true g1
              subst g1
              have x0 : X T.k0 = true := hBr T.k0 (by rw [e1]; exact g3)
              have hk := hJ.2 x0 (by rw [← e1]; exact hXr)
              have gd : r.o.dst ≠ some T.d := by
                intro e
                rw [e] at g4
                simp only [Nat.beq_refl] at g4
                cases g4
              have harg : (l.map a.eval)[T.n]?.getD undef = a.tmps.getD T.d undef := by
                unfold isTmp at g2
                split at g2
                · rename_i j hj
                  have := Nat.eq_of_beq_eq_true g2
                  subst this
                  rw [List.getElem?_map, hj]
                  simp [Act.eval, Array.getD_eq_getD_getElem?]
                · cases g2
              refine ⟨fun _ _ => True, ?_, ?_⟩
              · intro t' s' s1 v k1 k2 k3 k4 K' hK
                refine wp_callee hE hfn ho hcal k1 k2 (fun hcl vals q1 q2 => ?_)
                refine (hc1 hcl ρ w vals q1 k3 k4 (by rw [q2, harg]; exact hk)).mono ?_
                rintro e w' ⟨c, ρ', rfl, p1, p2⟩
                exact ⟨c, rfl, hK ρ' c w' p1 p2 trivial⟩
              · intro ρ' c w' hsf _ Y hY
                refine ⟨by rw [put_size]; exact hJ.1, fun y0 y1 => ?_⟩
                rw [hY, if_pos e1.symm] at y1
                cases y1
            · cases hat
        · rw [h0] at hat
          simp only [cond_true] at hat
          have e0 := Nat.eq_of_beq_eq_true h0
          split at hat
          · rename_i f l e hcal hdst
            simp only [Bool.and_eq_true] at hat
            have g1 := Nat.eq_of_beq_eq_true hat.1
            subst g1
            have g2 := Nat.eq_of_beq_eq_true hat.2
            subst g2
            refine ⟨K, ?_, ?_⟩
            · intro t' s' s1 v k1 k2 k3 k4 K' hK
              refine wp_callee hE hfn ho hcal k1 k2 (fun hcl vals q1 q2 => ?_)
              refine (hc0 hcl ρ w vals q1 k3 k4).mono ?_
              rintro e w' ⟨c, ρ', rfl, p1, p2, p3⟩
              exact ⟨c, rfl, hK ρ' c w' p1 p2 p3⟩
            · intro ρ' c w' hsf hz Y hY
              refine ⟨by rw [put_size]; exact hJ.1, fun y0 y1 => ?_⟩
              rw [hdst, get_put_eq hJ.1]
              exact hz
          · cases hat
      · intro i j h
        by_cases hi : i < ops.size <;> simp [Array.getD, hi] at h
      · have e0 : ∀ M : List PR, only (fun j => (Array.replicate ops.size false).getD j false) M = [] := by
          intro M
          apply List.filter_eq_nil_iff.2
          intro r _
          by_cases hi : r.i < ops.size <;> simp [Array.getD, hi]
        have ef : ∀ j, (Array.replicate ops.size false).getD j false = false := by
          intro j
          by_cases hi : j < ops.size <;> simp [Array.getD, hi]
        refine ⟨by rw [e0]; exact ht, ?_, ?_, hr.bnd, fun i b hb => .inl hb, fun i b hb => .inl hb, fun _ _ => rfl, fun _ _ => rfl, Le.refl _, fun _ _ _ => rfl, ?_, rfl, rfl, rfl, Nat.le_refl _, fun r _ h => ?_, fun r _ h => ?_⟩
        · rw [e0]
          exact hr.h
        · rw [e0]
          exact hr.inj
        · intro i b h1 h2 h3
          rw [hf.b i h1 h2] at h3
          cases h3
        · have := ef r.i
          simp only [this] at h
          cases h
        · have := ef r.i
          simp only [this] at h
          cases h
      · refine ⟨by rw [ht.z]; exact hdl, fun y0 _ => ?_⟩
        exfalso
        by_cases hi : T.k0 < ops.size <;> simp [Array.getD, hi] at y0
    · cases h
end
end Ab
end Go.Proofs.YtbfppnppijcnlaaGreat
namespace Go.Proofs.YtbfppnppijcnlaaGreat
namespace Ab
set_option linter.unusedVariables false
set_option linter.unusedSimpArgs false
section
variable {P : Program} {V : Nat → Value} {E : Env} {DK : Nat → Prop} {wK : World}
/-- Blocks that are told of nowhere, and hold what they held. -/
structure KP (DK : Nat → Prop) (wK : World) (ρ : Rho) (w : World) : Prop where
  lt : ∀ b, DK b → b < w.heap.size
  eq : ∀ b, DK b → w.heap[b]? = wK.heap[b]?
  no : ∀ b, DK b → ∀ i, ρ.blk i ≠ some b
theorem KP.ext {ρ ρ' : Rho} {s s' : St} {w w' : World} (h : KP DK wK ρ w) (g : Ext ρ s w ρ' s' w') : KP DK wK ρ' w' where
  lt := fun b hb => Nat.lt_of_lt_of_le (h.lt b hb) g.size
  eq := fun b hb => (g.fr b (h.lt b hb) (fun i _ _ => h.no b hb i)).trans (h.eq b hb)
  no := fun b hb i e => by
    by_cases hi : i < s.next ∨ s'.next ≤ i
    · rw [g.blk i hi] at e
      exact h.no b hb i e
    · rcases g.new i b (by omega) (by omega) e with h1 | ⟨j, _, _, h1⟩
      · have := h.lt b hb
        omega
      · exact h.no b hb j h1
theorem KP.sf {s : St} {L : List PR} {X : Nat → Bool} {r : PR} {ρ ρ' : Rho} {w w' : World} {c : Value} (h : KP DK wK ρ w) (g : SF V s L X r ρ w ρ' w' c) : KP DK wK ρ' w' where
  lt := fun b hb => Nat.lt_of_lt_of_le (h.lt b hb) g.size
  eq := fun b hb => (g.fr b (h.lt b hb) (fun i _ => h.no b hb i)).trans (h.eq b hb)
  no := fun b hb i e => by
    by_cases hi : i < r.n ∨ r.s1.next ≤ i
    · rw [g.blk i hi] at e
      exact h.no b hb i e
    · rcases g.new i b (by omega) (by omega) e with h1 | ⟨j, _, h1⟩
      · have := h.lt b hb
        omega
      · exact h.no b hb j h1
/-- What the operations are that find things in memory that is told of nowhere. -/
noncomputable def DeepOp (k : Nat) (ev : Operand → Value) (o : Oper) (vals : Array Value) : Prop :=
  match o.op with
  | .load ty x => k = 3 * ty ∧ vals = #[ev x]
  | .indexAddr ty x ix => k = 3 * ty + 1 ∧ vals = #[ev x, ev ix]
  | .fieldAddr st x f => k = 3 * st + 2 ∧ vals = #[ev x, .int .i64 (f : Int)]
  | _ => False
noncomputable def DeepIs (P : Program) (k : Nat) (vals : Array Value) (w : World) (c : Value) : Prop := ∀ (ev : Operand → Value) (o : Oper), DeepOp k ev o vals → (execOp ev o).run P w = .ok (.value c) w
structure CallOKK (DK : Nat → Prop) (wK : World) (P : Program) (V : Nat → Value) (call : Call1) : Prop where
  go : ∀ f args s v s', f < 1000000 → call f args s = some (v, s') → ∀ ρ w (vals : Array Value), F2 (VR V ρ) args vals.toList → Rep V ρ s w → Free ρ s s' → KP DK wK ρ w → Calls P f vals w fun e w' => ∃ c ρ', e = .returned c ∧ Goes V ρ s w s' w' ρ' ∧ VR V ρ' v c
  dp : ∀ k args v, deepL call k args = some v → ∀ ρ w (vals : Array Value), F2 (VR V ρ) args vals.toList → KP DK wK ρ w → ∃ c, DeepIs P k vals w c ∧ VR V ρ v c
theorem CallOK.k {call : Call1} (h : CallOK P V call) (hd : ∀ k args, deepL call k args = none) : CallOKK DK wK P V call :=
  ⟨fun f args s v s' _ hc ρ w vals ha hr hf _ => h f args s v s' hc ρ w vals ha hr hf, fun k args v h => by rw [hd] at h; cases h⟩
/-- Functions that are called are there. -/
noncomputable def CallFnK (E : Env) (call : Call1) : Prop := ∀ f args s r, f < 1000000 → call f args s = some r → ∃ fn, E.fn f = some fn
theorem CallFn.k {call : Call1} (h : CallFn E call) : CallFnK E call := fun f args s r _ hc => h f args s r hc
theorem fnA_fnK (hx : CallFnK E E.ext) : ∀ n, CallFnK E (fnA E n)
  | 0 => fun f args s r _ h => by simp [fnA_z] at h
  | n + 1 => fun f args s r hf h => by
    simp only [fnA_z, fnA_s] at h
    split at h
    · rename_i r' hr'
      exact hx f args s r' hf hr'
    · split at h
      · cases h
      · rename_i fn hfn
        exact ⟨fn, hfn⟩
noncomputable def OpOKK (DK : Nat → Prop) (wK : World) (P : Program) (V : Nat → Value) (t : Sl) (s : St) (o : Oper) (v : AV) (s' : St) : Prop :=
  ∀ ρ a w, TR V ρ t a → Rep V ρ s w → Free ρ s s' → KP DK wK ρ w → ∀ (K : Act → World → Prop) (Q : Exit → Act → World → Prop), (∀ ρ' c w', Goes V ρ s w s' w' ρ' → VR V ρ' v c → K (a.put o.dst c) w') → o.wp P a w K Q
noncomputable def DrawOKK (DK : Nat → Prop) (wK : World) (P : Program) (V : Nat → Value) (dr : Draw1) : Prop :=
  ∀ ops t s t' s', dr ops t s = some (t', s') → ∀ id ρ a w, TR V ρ t a → Rep V ρ s w → Free ρ s s' → KP DK wK ρ w → ∀ Q : Exit → Act → World → Prop, (∀ ρ' a' w', Goes V ρ s w s' w' ρ' → TR V ρ' t' a' → Q .normal a' w') → (Code.region id ops true).wp P Q a w
structure ExtOKK (DK : Nat → Prop) (wK : World) (P : Program) (V : Nat → Value) (E : Env) : Prop where
  ok : CallOKK DK wK P V E.ext
  up : CallUp E.ext
  fn : CallFnK E E.ext
theorem op_callK (hE : EnvOK P V E) {call : Call1} (hcall : CallOKK DK wK P V call) (hfn : CallFnK E call) {t : Sl} {s s' : St} {o : Oper} {c : Call} {f : Operand} {g : Nat} {cap : List AC} {v : AV} (ho : o.op = .call c) (hc : c.callee = .value f)
    (hev : eval t f = .fn g cap ∨ (eval t f = .one (.c (.fn g)) ∧ cap = [])) (hg : g < 1000000) (h : call g (evals t c.args.toList ++ cap.map (fun x => .one (.c x))) s = some (v, s')) : OpOKK DK wK P V t s o v s' := by
  intro ρ a w ht hr hf hk K Q hK
  have he := evals_ok ht c.args.toList
  have hfv := eval_ok ht f
  obtain ⟨cs, hfc, hcs⟩ : ∃ cs : Array Value, a.eval f = .func (.func g) #[] cs ∧ F2 (CR V ρ) cap cs.toList := by
    rcases hev with hev | ⟨hev, rfl⟩
    · rw [hev] at hfv
      exact hfv
    · rw [hev] at hfv
      exact ⟨#[], hfv, trivial⟩
  obtain ⟨fn, hfn⟩ := hfn _ _ _ _ hg h
  obtain ⟨_, hcf⟩ := hE.fn g fn hfn
  have hargs : F2 (VR V ρ) (evals t c.args.toList ++ cap.map (fun x => .one (.c x))) ((c.args.map a.eval) ++ cs).toList := by
    rw [Array.toList_append, Array.toList_map]
    exact he.append (mapc_ok hcs)
  have hres := hcall.go g _ s v s' hg h ρ w _ hargs hr hf hk
  have hrun : (execOp a.eval o).run P w = .ok (.enter g ((c.args.map a.eval) ++ cs)) w := by
    simp [execOp, ho, resolve, hc, hfc, Deferred.ofValue, invoke, hcf]
  unfold Oper.wp
  rw [hrun, Oper.upon_enter]
  refine hres.mono ?_
  rintro e w' ⟨c', ρ', rfl, h1, h2⟩
  exact hK ρ' c' w' h1 h2
theorem deep_less {g : Nat} {α : Type} {x : Option α} {y : α} (h : (bif Nat.ble 1000000 g then none else x) = some y) : g < 1000000 := by
  cases hg : Nat.ble 1000000 g
  · exact Nat.lt_of_not_le (fun hl => by rw [Nat.ble_eq_true_of_le hl] at hg; cases hg)
  · simp [hg] at h
/-- An operation that finds something in memory that is told of nowhere. -/
theorem op_deepK {call : Call1} (hcall : CallOKK DK wK P V call) {k : Nat} {args : List AV} {t : Sl} {s : St} {o : Oper} {v : AV} (h : deepL call k args = some v) (ho : ∀ ρ a, TR V ρ t a → ∃ vals : Array Value, F2 (VR V ρ) args vals.toList ∧ DeepOp k a.eval o vals) : OpOKK DK wK P V t s o v s := by
  intro ρ a w ht hr hf hk K Q hK
  obtain ⟨vals, h1, h2⟩ := ho ρ a ht
  obtain ⟨c, h3, h4⟩ := hcall.dp k args v h ρ w vals h1 hk
  exact wp_val (h3 a.eval o h2) (hK ρ c w (Goes.refl V hr) h4)
theorem opA_okK (hE : EnvOK P V E) {call : Call1} (hcall : CallOKK DK wK P V call) (hfn : CallFnK E call) {t : Sl} {s s' : St} {o : Oper} {v : AV} (h : opA E call t s o = some (v, s')) : OpOKK DK wK P V t s o v s' := by
  have base : opA E callN t s o = some (v, s') → OpOKK DK wK P V t s o v s' := fun h => by
    intro ρ a w ht hr hf _ K Q hK
    exact opA_ok hE callN_ok (fun f args s r h => by cases h) h ρ a w ht hr hf K Q hK
  cases hn : noCall o.op
  · unfold noCall at hn
    split at hn
    · rename_i c ho
      split at hn
      · rename_i f hc
        simp only [opA_eq] at h
        unfold opA0 at h
        rw [ho] at h
        simp only [hc] at h
        split at h
        · rename_i g cap hev
          exact op_callK hE hcall hfn ho hc (.inl hev) (deep_less h) (deep_free h)
        · rename_i g hev
          exact op_callK (cap := []) hE hcall hfn ho hc (.inr ⟨hev, rfl⟩) (deep_less h) (by simpa using deep_free h)
        · cases h
      · cases hn
    · cases hn
  · cases ho : o.op with
    | load ty x =>
      simp only [opA_eq] at h base
      unfold opA0 at h base
      simp only [ho, deep_callN] at h base
      split at h
      · rename_i v' hv
        exact base (by rw [hv]; exact h)
      · split at h
        · rename_i v' hv
          simp only [Option.some.injEq, Prod.mk.injEq] at h
          obtain ⟨rfl, rfl⟩ := h
          exact op_deepK hcall hv (fun ρ a ht => ⟨#[a.eval x], ⟨eval_ok ht x, trivial⟩, by unfold DeepOp; rw [ho]; exact ⟨rfl, rfl⟩⟩)
        · cases h
    | fieldAddr ty x f =>
      simp only [opA_eq] at h base
      unfold opA0 at h base
      simp only [ho, deep_callN] at h base
      split at h
      · rename_i v' hv
        exact base (by rw [hv]; exact h)
      · split at h
        · rename_i v' hv
          simp only [Option.some.injEq, Prod.mk.injEq] at h
          obtain ⟨rfl, rfl⟩ := h
          exact op_deepK hcall hv (fun ρ a ht => ⟨#[a.eval x, .int .i64 (f : Int)], ⟨eval_ok ht x, rfl, trivial⟩, by unfold DeepOp; rw [ho]; exact ⟨rfl, rfl⟩⟩)
        · cases h
    | indexAddr ty x ix =>
      simp only [opA_eq] at h base
      unfold opA0 at h base
      simp only [ho, deep_callN] at h base
      split at h
      · rename_i v' hv
        exact base (by rw [hv]; exact h)
      · split at h
        · rename_i v' hv
          simp only [Option.some.injEq, Prod.mk.injEq] at h
          obtain ⟨rfl, rfl⟩ := h
          exact op_deepK hcall hv (fun ρ a ht => ⟨#[a.eval x, a.eval ix], ⟨eval_ok ht x, eval_ok ht ix, trivial⟩, by unfold DeepOp; rw [ho]; exact ⟨rfl, rfl⟩⟩)
        · cases h
    | _ =>
      refine base ?_
      simp only [opA_eq] at h ⊢
      unfold opA0 at h ⊢
      simp only [ho] at h ⊢
      first
        | exact h
        | (rename_i f a b; cases f <;> exact h)
        | (rename_i c
           rw [ho] at hn
           simp only [noCall] at hn
           cases hc : c.callee with
           | value f => simp [hc] at hn
           | builtin b => simp only [hc] at h ⊢; cases b <;> exact h
           | invoke r m => simp only [hc] at h ⊢; exact h)
theorem step_okK (hE : EnvOK P V E) {call : Call1} (hcall : CallOKK DK wK P V call) (hfn : CallFnK E call) {ops : Array Oper} {t : Sl} {s s' : St} {i : Nat} {o : Oper} {v : AV} (hi : ops[i]? = some o) (h : stepA E call ops t s o = some (v, s')) {ρ : Rho} {a : Act} {w : World} (ht : TR V ρ t a) (hr : Rep V ρ s w) (hf : Free ρ s s') (hk : KP DK wK ρ w)
    {K : Act → World → Prop} {Q : Exit → Act → World → Prop} (hK : ∀ ρ' c w', Goes V ρ s w s' w' ρ' → VR V ρ' v c → K (a.put o.dst c) w') : wpOp P ops Q i K a w := by
  unfold wpOp
  rw [hi]
  simp only
  simp only [stepA_eq] at h
  unfold stepA0 at h
  split at h
  · rename_i hw
    rw [want_ok ht hw, if_pos rfl]
    exact .inl (opA_okK hE hcall hfn h ρ a w ht hr hf hk K Q hK)
  · rename_i hw
    rw [want_ok ht hw]
    simp only [Option.some.injEq, Prod.mk.injEq] at h
    obtain ⟨rfl, rfl⟩ := h
    simp only [Bool.false_eq_true, if_false]
    exact hK ρ undef w (Goes.refl V hr) rfl
  · cases h
/-- A region in its own order. -/
theorem ops_okK (hE : EnvOK P V E) {call : Call1} (hcall : CallOKK DK wK P V call) (hfn : CallFnK E call) (hup : CallUp call) {ops : Array Oper} {Q : Exit → Act → World → Prop} : ∀ (l : List Oper) (k : Nat), ops.toList.drop k = l → ∀ {t t' : Sl} {s s' : St}, opsA E call ops l t s = some (t', s') → ∀ {ρ : Rho} {a : Act} {w : World}, TR V ρ t a → Rep V ρ s w → Free ρ s s' → KP DK wK ρ w →
    (∀ ρ' a' w', Goes V ρ s w s' w' ρ' → TR V ρ' t' a' → Q .normal a' w') → wpOps P ops Q (List.range' k l.length) a w
  | [], k, hk, t, t', s, s', h, ρ, a, w, ht, hr, hf, hk0, hQ => by
    simp only [opsA, Option.some.injEq, Prod.mk.injEq] at h
    obtain ⟨rfl, rfl⟩ := h
    exact hQ ρ a w (Goes.refl V hr) ht
  | o :: l, k, hk, t, t', s, s', h, ρ, a, w, ht, hr, hf, hk0, hQ => by
    simp only [opsA] at h
    split at h
    · rename_i v s1 h1
      have hi : ops[k]? = some o := by
        have := congrArg (fun l : List Oper => l[0]?) hk
        simpa using this
      have hk' : ops.toList.drop (k + 1) = l := by
        rw [← List.drop_drop, hk]
        rfl
      have hup1 := opsA_up hup l h
      rw [List.length_cons, List.range'_succ, wpOps_cons]
      refine step_okK hE hcall hfn hi h1 ht hr (hf.left hup1.1 hup1.2) hk0 ?_
      intro ρ1 c w1 hg hv
      refine ops_okK hE hcall hfn hup l (k + 1) hk' h (tr_put (ht.mono V hg.2.2) hv o.dst) hg.1 (hf.right hg.2.1) (hk0.ext hg.2.1) ?_
      intro ρ2 a2 w2 hg2 ht2
      exact hQ ρ2 a2 w2 (hg.trans V hg2) ht2
    · cases h
/-- How code ends. -/
theorem draw_okK (hE : EnvOK P V E) {call : Call1} (hcall : CallOKK DK wK P V call) (hfn : CallFnK E call) (hup : CallUp call) : DrawOKK DK wK P V (drawA E call) := by
  intro ops t s t' s' h id ρ a w ht hr hf hk Q hQ
  unfold drawA at h
  rw [beforeF_eq] at h
  split at h
  · cases h
  · rename_i B hB
    split at h
    · rename_i D hD
      simp only [Option.some.injEq, Prod.mk.injEq] at h
      obtain ⟨rfl, rfl⟩ := h
      obtain ⟨L, hL, _, hbits⟩ := drawList_trace _ (Trace.nil (E := E) (call := call) (ops := ops) (B := B) (t := t) (s := s)) hD
      have tf := trace_tf hup hL
      have hBl : B.length = ops.size := by
        have := beforeA_length _ _ _ _ hB
        simpa using this
      refine wp_region_any hE.mixed ?_
      have hrec : ∀ r ∈ L, ops[r.i]? = some r.o := by
        intro r' hr'
        obtain ⟨L1, L2, e⟩ := List.append_of_mem hr'
        have ht' := hL
        rw [e] at ht'
        obtain ⟨D0, bk, _, sc1, _⟩ := trace_at hup L1 ht'
        exact sc1.ho
      refine any_okJ (J := fun _ ρ _ w => KP DK wK ρ w) hup (bok hB) hL (fun k hk => (tf.bits k).1 (hbits k (by simp [hk]) hk (by omega))) hr.lt (w0 := w) hf.b hf.c ?_ (fun ρ' a' w' hg h => hQ ρ' a' w' hg h) ops.size _ ρ a _ (by simp) ⟨List.range ops.size, by simp, fun j hj _ => by simp [hj]⟩ ?_ ?_ ⟨hk.lt, hk.eq, hk.no⟩
      · intro r hrL X ρ a w hXr hBr hJ
        refine ⟨fun _ _ => True, ?_, fun ρ' c w' hsf _ Y hY => hJ.sf hsf⟩
        intro t' s' s1 v k1 k2 k3 k4 K' hK
        exact step_okK hE hcall hfn (hrec r hrL) k1 k2 k3 k4 hJ (fun ρ' c w' q1 q2 => hK ρ' c w' q1 q2 trivial)
      · intro i j h
        by_cases hi : i < ops.size <;> simp [Array.getD, hi] at h
      · have e0 : ∀ M : List PR, only (fun j => (Array.replicate ops.size false).getD j false) M = [] := by
          intro M
          apply List.filter_eq_nil_iff.2
          intro r _
          by_cases hi : r.i < ops.size <;> simp [Array.getD, hi]
        have ef : ∀ j, (Array.replicate ops.size false).getD j false = false := by
          intro j
          by_cases hi : j < ops.size <;> simp [Array.getD, hi]
        refine ⟨by rw [e0]; exact ht, ?_, ?_, hr.bnd, fun i b hb => .inl hb, fun i b hb => .inl hb, fun _ _ => rfl, fun _ _ => rfl, Le.refl _, fun _ _ _ => rfl, ?_, rfl, rfl, rfl, Nat.le_refl _, fun r _ h => ?_, fun r _ h => ?_⟩
        · rw [e0]
          exact hr.h
        · rw [e0]
          exact hr.inj
        · intro i b h1 h2 h3
          rw [hf.b i h1 h2] at h3
          cases h3
        · have := ef r.i
          simp only [this] at h
          cases h
        · have := ef r.i
          simp only [this] at h
          cases h
    · cases h
theorem code_okK (hE : EnvOK P V E) {call : Call1} (hcall : CallOKK DK wK P V call) (hfn : CallFnK E call) (hup : CallUp call) {dr : Draw1} (hdr : DrawOKK DK wK P V dr) (hdu : DrawUp dr) : ∀ (n : Nat),
    (∀ (c : Code) {t t' : Sl} {s s' : St} {e : AE}, codeA E call dr n c t s = some (e, t', s') → ∀ {ρ : Rho} {a : Act} {w : World}, TR V ρ t a → Rep V ρ s w → Free ρ s s' → KP DK wK ρ w → ∀ Q, After V ρ s w e t' s' Q → c.wp P Q a w) ∧
    (∀ (c : Code) {t t' : Sl} {s s' : St} {e : AE}, codeA E call dr n (.loop c) t s = some (e, t', s') → ∀ {ρ : Rho} {a : Act} {w : World}, TR V ρ t a → Rep V ρ s w → Free ρ s s' → KP DK wK ρ w → ∀ Q, After V ρ s w e t' s' Q → LoopWp P c Q a w)
  | 0 => ⟨fun c _ _ _ _ _ h => by simp [codeA] at h, fun c _ _ _ _ _ h => by simp [codeA] at h⟩
  | n + 1 => by
    obtain ⟨ih1, ih2⟩ := code_okK hE hcall hfn hup hdr hdu n
    have hloop : (∀ (c : Code) {t t' : Sl} {s s' : St} {e : AE}, codeA E call dr (n + 1) (.loop c) t s = some (e, t', s') → ∀ {ρ : Rho} {a : Act} {w : World}, TR V ρ t a → Rep V ρ s w → Free ρ s s' → KP DK wK ρ w → ∀ Q, After V ρ s w e t' s' Q → LoopWp P c Q a w) := by
      intro c t t' s s' e h ρ a w ht hr hf hk Q hQ
      simp only [codeA] at h
      refine loop_one ?_
      split at h
      · rename_i t1 s1 h1
        have hu := codeA_up hup hdu n _ h
        refine ih1 c h1 ht hr (hf.left hu.1 hu.2) hk _ ?_
        intro ρ1 a1 w1 hg ht1
        exact ih2 c h ht1 hg.1 (hf.right hg.2.1) (hk.ext hg.2.1) Q (hQ.then hg)
      · rename_i hne
        refine ih1 c h ht hr hf hk _ ?_
        intro ρ1 a1 w1 hg ht1
        cases e with
        | normal => exact absurd h (hne _ _)
        | ret => exact hQ ρ1 a1 w1 hg ht1
        | exit id => exact hQ ρ1 a1 w1 hg ht1
    refine ⟨?_, hloop⟩
    intro c t t' s s' e h ρ a w ht hr hf hk Q hQ
    cases c with
    | skip =>
      simp only [codeA, Option.some.injEq, Prod.mk.injEq] at h
      obtain ⟨rfl, rfl, rfl⟩ := h
      exact wp_skip (hQ ρ a w (Goes.refl V hr) ht)
    | region id ops draw =>
      simp only [codeA] at h
      split at h
      · rename_i t1 s1 h1
        simp only [Option.some.injEq, Prod.mk.injEq] at h
        obtain ⟨rfl, rfl, rfl⟩ := h
        cases draw
        · have := ops_okK hE hcall hfn hup (Q := Q) ops.toList 0 (by simp) h1 ht hr hf hk (fun ρ' a' w' g t => hQ ρ' a' w' g t)
          rw [← List.range_eq_range', Array.length_toList] at this
          exact wp_region this
        · exact hdr ops t s t1 s1 h1 id ρ a w ht hr hf hk Q (fun ρ' a' w' g t => hQ ρ' a' w' g t)
      · cases h
    | seq x y =>
      simp only [codeA] at h
      refine wp_seq ?_
      split at h
      · rename_i t1 s1 h1
        have hu := codeA_up hup hdu n _ h
        refine ih1 x h1 ht hr (hf.left hu.1 hu.2) hk _ ?_
        intro ρ1 a1 w1 hg ht1
        exact ih1 y h ht1 hg.1 (hf.right hg.2.1) (hk.ext hg.2.1) Q (hQ.then hg)
      · rename_i hne
        refine ih1 x h ht hr hf hk _ ?_
        intro ρ1 a1 w1 hg ht1
        cases e with
        | normal => exact absurd h (hne _ _)
        | ret => exact hQ ρ1 a1 w1 hg ht1
        | exit id => exact hQ ρ1 a1 w1 hg ht1
    | cond b x y =>
      simp only [codeA] at h
      split at h
      · rename_i k hkb
        have hb := eval_ok ht b
        rw [hkb] at hb
        have hb : a.eval b = .bool k := hb
        refine wp_cond hb ?_
        have := ih1 _ h ht hr hf hk Q hQ
        cases k <;> simpa using this
      · cases h
    | block id b =>
      simp only [codeA] at h
      refine wp_block ?_
      split at h
      · rename_i j t1 s1 h1
        split at h
        · rename_i hj
          simp only [Option.some.injEq, Prod.mk.injEq] at h
          obtain ⟨rfl, rfl, rfl⟩ := h
          refine ih1 b h1 ht hr hf hk _ ?_
          intro ρ1 a1 w1 hg ht1
          show (if j = id then _ else _)
          rw [if_pos hj]
          exact hQ ρ1 a1 w1 hg ht1
        · rename_i hj
          simp only [Option.some.injEq, Prod.mk.injEq] at h
          obtain ⟨rfl, rfl, rfl⟩ := h
          refine ih1 b h1 ht hr hf hk _ ?_
          intro ρ1 a1 w1 hg ht1
          show (if j = id then _ else _)
          rw [if_neg hj]
          exact hQ ρ1 a1 w1 hg ht1
      · rename_i hne
        refine ih1 b h ht hr hf hk _ ?_
        intro ρ1 a1 w1 hg ht1
        cases e with
        | normal => exact hQ ρ1 a1 w1 hg ht1
        | ret => exact hQ ρ1 a1 w1 hg ht1
        | exit id' => exact absurd h (hne _ _ _)
    | loop b => exact wp_of_loop (hloop b h ht hr hf hk Q hQ)
    | exit id =>
      simp only [codeA, Option.some.injEq, Prod.mk.injEq] at h
      obtain ⟨rfl, rfl, rfl⟩ := h
      exact wp_exit (hQ ρ a w (Goes.refl V hr) ht)
    | ret =>
      simp only [codeA, Option.some.injEq, Prod.mk.injEq] at h
      obtain ⟨rfl, rfl, rfl⟩ := h
      exact wp_ret (hQ ρ a w (Goes.refl V hr) ht)
    | rangeFunc _ _ _ _ => simp [codeA] at h
    | scope _ => simp [codeA] at h
    | label _ => simp [codeA] at h
    | goto _ => simp [codeA] at h
    | refuse _ => simp [codeA] at h
theorem fnA_okK (hE : EnvOK P V E) (hx : ExtOKK DK wK P V E) : ∀ n, CallOKK DK wK P V (fnA E n)
  | 0 => ⟨fun f args s v s' _ h => by simp [fnA_z] at h, fun k args v h => by
    unfold deepL at h
    split at h
    · simp [fnA_z] at h
    · cases h⟩
  | n + 1 => by
    have ih := fnA_okK hE hx n
    refine ⟨?_, ?_⟩
    rotate_left
    · intro k args v h
      refine hx.ok.dp k args v ?_
      unfold deepL at h ⊢
      split at h
      · split at h
        · rename_i s1 v' s' h1
          injection h with h
          subst h
          simp only [fnA_z, fnA_s] at h1
          split at h1
          · rename_i r hr
            simp only [Option.some.injEq] at h1
            subst h1
            rw [hr]
          · split at h1
            · cases h1
            · rename_i fn hfn
              have := hE.bnd _ _ hfn
              omega
        · cases h
      · cases h
    intro f args s v s' hf6 h ρ w vals hargs hr hf hk
    have hup := fnA_up (E := E) hx.up n
    simp only [fnA_z, fnA_s, Bool.cond_eq_ite] at h
    split at h
    · rename_i r' hr'
      simp only [Option.some.injEq] at h
      subst h
      exact hx.ok.go _ _ _ _ _ hf6 hr' ρ w vals hargs hr hf hk
    split at h
    · cases h
    · rename_i fn hfn
      obtain ⟨hF, _⟩ := hE.fn f fn hfn
      split at h
      · cases h
      · rename_i c hc
        split at h
        · cases h
        · rename_i hle
          have hle : args.length ≤ fn.ntmps := by
            cases hb : Nat.ble args.length fn.ntmps
            · simp [hb] at hle
            · exact Nat.le_of_ble_eq_true hb
          have hvl : vals.size = args.length := by rw [← Array.length_toList, ← hargs.length]
          have ht : TR V ρ (pad fn.ntmps args) { tmps := vals ++ Array.replicate (fn.ntmps - vals.size) undef, defers := [] } := by
            refine ⟨by rw [pad_length]; simp; omega, fun d => ?_, rfl⟩
            rw [pad_look _ _ _ hle]
            have h1 := lget_F2 hargs d
            have h2 : (vals ++ Array.replicate (fn.ntmps - vals.size) undef).getD d undef = vals.toList.getD d undef := by
              simp only [Array.getD_eq_getD_getElem?, List.getD_eq_getElem?_getD, Array.getElem?_append, Array.getElem?_toList]
              by_cases hd : d < vals.size
              · rw [if_pos hd]
              · rw [if_neg hd, Array.getElem?_eq_none (by omega : vals.size ≤ d), Array.getElem?_replicate]
                split <;> rfl
            show VR V ρ _ ((vals ++ Array.replicate (fn.ntmps - vals.size) undef).getD d undef)
            rw [h2]
            exact h1
          have hr0 : Rep V ρ { s with dirty := [] } w := ⟨hr.h, hr.inj, hr.bnd, hr.lt⟩
          have fin : ∀ (e : AE) (t' : Sl) (s1 : St) (rs : List A1), codeA E (fnA E n) (drawA E (fnA E n)) 100000 c (pad fn.ntmps args) { s with dirty := [] } = some (e, t', s1) → (e = .normal ∨ e = .ret) → resultsA E t' s1 fn.results.toList = some rs →
              v = wrapA rs → s' = { (tidy s.next rs s1) with dirty := (tidy s.next rs s1).dirty ++ s.dirty } → Calls P f vals w fun e w' => ∃ c ρ', e = .returned c ∧ Goes V ρ s w s' w' ρ' ∧ VR V ρ' v c := by
            intro e t' s1 rs h1 he h2 hv hs
            subst hv
            subst hs
            refine calls_of_wp hF hc ?_
            refine (code_okK hE ih (fnA_fnK hx.fn n) hup (draw_okK hE ih (fnA_fnK hx.fn n) hup) (drawA_up hup) 100000).1 c h1 ht hr0 ⟨hf.b, hf.c⟩ hk _ ?_
            intro ρ' a' w' hg ht'
            obtain ⟨vs, g1, g2⟩ := results_ok hE ht' hg.1 _ _ h2
            have hres : (results fn a'.tmps).run P w' = .ok (if h : vs.toArray.size = 1 then vs.toArray[0] else .tuple vs.toArray) w' := by
              unfold results
              rw [Array.mapM_eq_mapM_toList]
              simp only [Sem.run_bind, Sem.run_map, Sem.run_pure]
              generalize hX : Sem.run P (List.mapM _ fn.results.toList) w' = Y
              have hY : Y = .ok vs w' := hX.symm.trans g1
              rw [hY]
              simp only [Result.andThen_ok]
            have : bodyPost P fn (fun e w' => ∃ c ρ', e = .returned c ∧ Goes V ρ s w { (tidy s.next rs s1) with dirty := (tidy s.next rs s1).dirty ++ s.dirty } w' ρ' ∧ VR V ρ' (wrapA rs) c) (AEx e) a' w' := by
              rcases he with rfl | rfl
              · exact ⟨ht'.df, _, hres, _, ρ', rfl, tidy_ok rs hg, wrap_ok g2⟩
              · exact ⟨ht'.df, _, hres, _, ρ', rfl, tidy_ok rs hg, wrap_ok g2⟩
            exact this
          split at h
          · rename_i t' s1 h1
            split at h
            · rename_i rs h2
              simp only [Option.some.injEq, Prod.mk.injEq] at h
              exact fin _ _ _ rs h1 (.inl rfl) h2 h.1.symm h.2.symm
            · cases h
          · rename_i t' s1 h1
            split at h
            · rename_i rs h2
              simp only [Option.some.injEq, Prod.mk.injEq] at h
              exact fin _ _ _ rs h1 (.inr rfl) h2 h.1.symm h.2.symm
            · cases h
          · cases h
/-- What holds here, beside. -/
noncomputable def HereK (DK : Nat → Prop) (wK : World) (V : Nat → Value) (base : Nat) (w0 : World) (t : Sl) (s : St) (a : Act) (w : World) : Prop :=
  ∃ ρ, TR V ρ t a ∧ Rep V ρ s w ∧ (∀ i, s.next ≤ i → ρ.blk i = none) ∧ (∀ i, s.ncap ≤ i → ρ.cap i = none) ∧ (∀ i b, ρ.blk i = some b → base ≤ b) ∧ RowKit.Below base w0 w ∧ base ≤ w.heap.size ∧ KP DK wK ρ w
theorem HereK.here {base : Nat} {w0 : World} {t : Sl} {s : St} {a : Act} {w : World} (h : HereK DK wK V base w0 t s a w) : Here V base w0 t s a w := by
  obtain ⟨ρ, h1, h2, h3, h4, h5, h6, h7, _⟩ := h
  exact ⟨ρ, h1, h2, h3, h4, h5, h6, h7⟩
end
end Ab
end Go.Proofs.YtbfppnppijcnlaaGreat
