/-
  A region in any order with two calls, what the second one yields known by a fact behind it.
  Conditions: none.
-/
import Derived.Test.YtbfppnppijcnlaaGreatAbsKp
namespace Go.Proofs.YtbfppnppijcnlaaGreat
namespace Ab
set_option linter.unusedVariables false
set_option linter.unusedSimpArgs false
section
variable {P : Program} {V : Nat → Value} {E : Env}
/-- Whatever the order; a fact J beside. -/
theorem any_okQ {call : Call1} (hup : CallUp call) {ops : Array Oper} {B : List Nat} (hB : BOK ops B) {t : Sl} {s : St} {D : DS} {L : List PR} (ht : Trace E call ops B t s D L)
    (hall : ∀ k, k < ops.size → ∃ r ∈ L, r.i = k) (hs0 : ∀ i C, look s.heap i = some C → i < s.next) {ρ0 : Rho} {w0 : World} (hfree : ∀ i, s.next ≤ i → i < D.s.next → ρ0.blk i = none) (hfreec : ∀ i, s.ncap ≤ i → i < D.s.ncap → ρ0.cap i = none)
    {J : (Nat → Bool) → Rho → Act → World → Prop} {Q : Exit → Act → World → Prop}
    (hst : ∀ r ∈ L, ∀ (X : Nat → Bool) (ρ : Rho) (a : Act) (w : World), X r.i = false → (∀ j, (B.getD r.i 0).testBit j = true → X j = true) → J X ρ a w → ∃ Z : Value → World → Prop, (∀ {t' : Sl} {s' s1 : St} {v : AV}, stepA E call ops t' s' r.o = some (v, s1) → TR V ρ t' a → Rep V ρ s' w → Free ρ s' s1 → ∀ {K : Act → World → Prop}, (∀ ρ' c w', Goes V ρ s' w s1 w' ρ' → VR V ρ' v c → Z c w' → K (a.put r.o.dst c) w') → wpOp P ops Q r.i K a w) ∧ ∀ ρ' c w', SF V s L X r ρ w ρ' w' c → Z c w' → ∀ Y : Nat → Bool, (∀ j, Y j = if j = r.i then true else X j) → J Y ρ' (a.put r.o.dst c) w')
    (hQ : ∀ X ρ' a' w', Goes V ρ0 s w0 D.s w' ρ' → TR V ρ' D.t a' → (∀ j, j < ops.size → X j = true) → J X ρ' a' w' → Q .normal a' w') : ∀ (fuel : Nat) (listed : Array Bool) (ρ : Rho) (a : Act) (w : World), listed.size = ops.size → (∃ l : List Nat, l.length ≤ fuel ∧ ∀ j, j < ops.size → listed.getD j false = false → j ∈ l) →
    (∀ i j, listed.getD i false = true → (B.getD i 0).testBit j = true → listed.getD j false = true) → Inv V ρ0 s w0 t L D (fun j => listed.getD j false) ρ a w → J (fun j => listed.getD j false) ρ a w → wpAny P .any ops Q fuel listed a w := by
  have tf := trace_tf hup ht
  obtain ⟨hT, hH, hD1, hD2, hD3⟩ := trace_hist ht
  have hrec : ∀ r ∈ L, ops[r.i]? = some r.o ∧ r.i < ops.size := by
    intro r' hr'
    obtain ⟨L1, L2, e⟩ := List.append_of_mem hr'
    have ht' := ht
    rw [e] at ht'
    obtain ⟨_, _, _, sc1, _⟩ := trace_at hup L1 ht'
    exact ⟨sc1.ho, (Array.getElem?_eq_some_iff.1 sc1.ho).1⟩
  -- the end
  have hend : ∀ (listed : Array Bool) (ρ : Rho) (a : Act) (w : World), (∀ j, j < ops.size → listed.getD j false = true) → Inv V ρ0 s w0 t L D (fun j => listed.getD j false) ρ a w → J (fun j => listed.getD j false) ρ a w → Q .normal a w := by
    intro listed ρ a w hl hI hJ
    have eL : only (fun j => listed.getD j false) L = L := List.filter_eq_self.2 fun r hr => hl _ (hrec r hr).2
    obtain ⟨i1, i2, i3, i4, i5, i6, i7, i8, i9, i10, i11, i12, i13, i14, i15, i16, i17⟩ := hI
    rw [eL] at i1 i2 i3
    have hids : ∀ r ∈ L, ∀ i ∈ r.ids, i ∈ r.W ∨ r.n ≤ i := by
      intro r' hr' i hi
      obtain ⟨L1, L2, e⟩ := List.append_of_mem hr'
      have ht' := ht
      rw [e] at ht'
      obtain ⟨_, _, _, sc1, _⟩ := trace_at hup L1 ht'
      rw [sc1.ids] at hi
      rcases List.mem_append.1 hi with hi | hi
      · exact .inl hi
      · exact .inr (by rw [sc1.n]; exact newIds_ge _ _ _ hi)
    have hsub : ∀ M : List PR, (∀ r ∈ M, r ∈ L) → ∀ i C, Hist s M i C → i < D.s.next ∧ (s.next ≤ i ∨ (look s.heap i).isSome = true) := by
      intro M
      induction M with
      | nil =>
        intro _ i C hC
        have hC : look s.heap i = some C := hC
        exact ⟨Nat.lt_of_lt_of_le (hs0 i C hC) tf.s.1, .inr (by rw [hC]; rfl)⟩
      | cons q M ih =>
        intro hM i C hC
        have g1 := hM q (by simp)
        rcases hC with ⟨h1, h2⟩ | ⟨_, h2⟩
        · refine ⟨Nat.lt_of_lt_of_le (i17 q g1 (hl _ (hrec q g1).2) i C h2) (tf.up q g1).1, ?_⟩
          rcases hids q g1 i h1 with h3 | h3
          · exact (i16 q g1 (hl _ (hrec q g1).2) i h3).2
          · exact .inl (Nat.le_trans (tf.up q g1).2.2.1 h3)
        · exact ih (fun r' hr' => hM r' (by simp [hr'])) i C h2
    refine hQ (fun j => listed.getD j false) ρ a w ⟨⟨fun i C hC => i2 i C (hH i C hC), fun i j C C' b hC hD => i3 i j C C' b (hH i C hC) (hH j C' hD), i4, fun i C hC => (hsub L (fun _ h => h) i C (hH i C hC)).1⟩, ?_, i9⟩ (by rw [hT]; exact i1) hl hJ
    refine ⟨i7, i8, tf.s.1, tf.s.2, hD3, i10, i11, ?_, ?_, i12, i13, i14, i15⟩
    · intro j hj
      rcases hD1 j hj with h | ⟨r, h1, h2⟩
      · exact .inl h
      · exact .inr (i16 r h1 (hl _ (hrec r h1).2) j h2).2
    · intro j hj h
      obtain ⟨C, hC⟩ := Option.isSome_iff_exists.1 h
      rcases (hsub L (fun _ h => h) j C (hH j C hC)).2 with h1 | h1
      · omega
      · exact h1
  -- nothing ready: all made
  have hnone : ∀ (listed : Array Bool), listed.size = ops.size → Region.ready .any ops listed = [] → ∀ j, j < ops.size → listed.getD j false = true := by
    intro listed hz hr j
    induction j using Nat.strongRecOn with
    | _ j ih =>
      intro hj
      cases hb : listed.getD j false
      · exfalso
        have hm : j ∈ Region.ready .any ops listed := by
          rw [mem_ready]
          refine ⟨?_, ops[j], by simp [hj], fun e he hbd => ?_⟩
          · have hj' : j < listed.size := by omega
            simp [Array.getD, hj'] at hb ⊢
            exact hb
          · have := (hB j ops[j] (by simp [hj])).1 e he hbd
            exact ih e.on this (by omega)
        rw [hr] at hm
        cases hm
      · rfl
  intro fuel
  induction fuel with
  | zero =>
    intro listed ρ a w hz hc hcl hI hJ
    obtain ⟨l, h1, h2⟩ := hc
    have hl : ∀ j, j < ops.size → listed.getD j false = true := by
      intro j hj
      cases hb : listed.getD j false
      · have := h2 j hj hb
        have hl0 : l = [] := List.eq_nil_of_length_eq_zero (by omega)
        rw [hl0] at this
        cases this
      · rfl
    refine ⟨?_, hend listed ρ a w hl hI hJ⟩
    apply List.eq_nil_iff_forall_not_mem.2
    intro j hj
    rw [mem_ready] at hj
    obtain ⟨g1, o, g2, _⟩ := hj
    have hj' := (Array.getElem?_eq_some_iff.1 g2).1
    have := hl j hj'
    have hj2 : j < listed.size := by omega
    simp [Array.getD, hj2] at this g1
    rw [this] at g1
    cases g1
  | succ fuel ih =>
    intro listed ρ a w hz hc hcl hI hJ
    refine ⟨fun hr => hend listed ρ a w (hnone listed hz hr) hI hJ, ?_⟩
    intro k hk
    rw [mem_ready] at hk
    obtain ⟨g1, o, g2, g3⟩ := hk
    have hkz := (Array.getElem?_eq_some_iff.1 g2).1
    have hk2 : k < listed.size := by omega
    have hkf : listed.getD k false = false := by
      simp [Array.getD, hk2] at g1 ⊢
      exact g1
    obtain ⟨r, hr, rfl⟩ := hall k hkz
    obtain ⟨N, O, rfl⟩ := List.append_of_mem hr
    have hBk : ∀ j, (B.getD r.i 0).testBit j = true → listed.getD j false = true := by
      intro j hj
      obtain ⟨e, q1, q2, q3⟩ := (hB r.i o g2).2 j hj
      rcases q3 with rfl | q3
      · exact g3 e q1 q2
      · exact hcl _ _ (g3 e q1 q2) q3
    obtain ⟨Z, hz1, hz2⟩ := hst r hr (fun j => listed.getD j false) ρ a w hkf hBk hJ
    refine step_sfG (Z := Z) hup hB ht hcl hkf hBk hs0 hI hfree hfreec hz1 ?_
    intro ρ' c w' hf hzc
    have hset := fun j => getD_set listed r.i j hk2
    have hI' := inv_step hup hB ht hcl hkf hI hf (Y := fun j => (listed.setIfInBounds r.i true).getD j false) hset
    refine ih _ ρ' _ w' (by simp [hz]) ?_ ?_ hI' (hz2 ρ' c w' hf hzc _ hset)
    · obtain ⟨l, h1, h2⟩ := hc
      refine ⟨l.erase r.i, ?_, fun j hj hb => ?_⟩
      · have := h2 r.i hkz hkf
        rw [List.length_erase_of_mem this]
        omega
      · rw [hset] at hb
        by_cases e : j = r.i
        · rw [if_pos e] at hb
          cases hb
        · rw [if_neg e] at hb
          exact (List.mem_erase_of_ne e).2 (h2 j hj hb)
    · intro i j h1 h2
      rw [hset] at h1 ⊢
      by_cases e : j = r.i
      · rw [if_pos e]
      · rw [if_neg e]
        by_cases e2 : i = r.i
        · rw [e2] at h2
          exact hBk j h2
        · rw [if_neg e2] at h1
          exact hcl i j h1 h2
noncomputable def d1At (T : Two) (d1 i : Nat) (o : Oper) : Bool := match o.dst with
  | some e => bif Nat.beq i T.k1 then Nat.beq e d1 else !(Nat.beq e d1)
  | none => !(Nat.beq i T.k1)
theorem d1At_ok {T : Two} {d1 i : Nat} {o : Oper} (h : d1At T d1 i o = true) : (i = T.k1 → o.dst = some d1) ∧ (i ≠ T.k1 → o.dst ≠ some d1) := by
  unfold d1At at h
  split at h
  · rename_i e he
    cases hb : Nat.beq i T.k1
    · rw [hb] at h
      simp only [cond_false, Bool.not_eq_true'] at h
      refine ⟨fun e' => (by rw [e', Nat.beq_refl] at hb; cases hb), fun _ e' => ?_⟩
      rw [he] at e'
      injection e' with e'
      rw [e', Nat.beq_refl] at h
      cases h
    · rw [hb] at h
      simp only [cond_true] at h
      exact ⟨fun _ => by rw [he, Nat.eq_of_beq_eq_true h], fun hn => absurd (Nat.eq_of_beq_eq_true hb) hn⟩
  · rename_i he
    simp only [Bool.not_eq_true'] at h
    exact ⟨fun e' => (by rw [e', Nat.beq_refl] at h; cases h), fun _ e' => by rw [he] at e'; cases e'⟩
noncomputable def d1Ck (T : Two) (d1 : Nat) (ops : Array Oper) : Bool := (List.range ops.size).all fun i => match ops[i]? with | some o => d1At T d1 i o | none => false
noncomputable def drawT2 (E : Env) (call : Call1) (T : Two) (d1 : Nat) (ops : Array Oper) (t : Sl) (s : St) : Option (Sl × St) :=
  match beforeA ops.toList [] 0 with
  | none => none
  | some B => bif twoCk B T ops && d1Ck T d1 ops && Nat.blt T.k1 ops.size && Nat.blt d1 t.length && Nat.blt T.d t.length then drawA E call ops t s else none
theorem callee_step {call : Call1} {ops : Array Oper} {o : Oper} {f : Nat} {l : List Operand} (hc : calleeOf o = some (f, l)) {t : Sl} {s s1 : St} {v : AV} (h : stepA E call ops t s o = some (v, s1)) : call f (evals t l) s = some (v, s1) := by
  unfold calleeOf at hc
  split at hc
  · rename_i c hg ho
    split at hc
    · rename_i f' hcal
      simp only [Option.some.injEq, Prod.mk.injEq] at hc
      obtain ⟨rfl, rfl⟩ := hc
      simp only [stepA_eq] at h
      unfold stepA0 at h
      have hw : wantA ops t o = some true := by
        simp only [wantA_eq]
        unfold wantA0
        rw [hg]
      rw [hw] at h
      simp only at h
      simp only [opA_eq] at h
      unfold opA0 at h
      rw [ho] at h
      simp only [hcal, eval_tmp, eval_const, eval_func, eval_global] at h
      have h := deep_free h
      exact h
    · cases hc
  · cases hc
theorem drawT2_ok (hE : EnvOK P V E) {call : Call1} (hfn : CallFn E call) (hup : CallUp call) {T : Two} (hne : T.k0 ≠ T.k1) {d1 N : Nat} {K0 K1 : Value → Rho → World → Prop}
    (h0s : ∀ v ρ w ρ' w', K0 v ρ w → RowKit.Below w.heap.size w w' → (∀ DK wK, KP DK wK ρ w → KP DK wK ρ' w') → K0 v ρ' w') (h0b : ∀ v ρ ρ' w, K0 v ρ w → (∀ i, ρ'.blk i = ρ.blk i) → K0 v ρ' w)
    (h1s : ∀ v ρ w ρ' w', K1 v ρ w → w.heap.size ≤ w'.heap.size → (∀ DK wK, KP DK wK ρ w → KP DK wK ρ' w') → K1 v ρ' w') (h1b : ∀ v ρ ρ' w, K1 v ρ w → (∀ i, ρ'.blk i = ρ.blk i) → K1 v ρ' w)
    (hn0 : ∀ {args s s1 v}, call T.f0 args s = some (v, s1) → s1.next = s.next) (hn1 : ∀ {args s s1 v}, call T.f1 args s = some (v, s1) → s1.next = s.next)
    (hc0 : ∀ {args s s1 v}, call T.f0 args s = some (v, s1) → ∀ ρ w (vals : Array Value), F2 (VR V ρ) args vals.toList → Rep V ρ s w → Free ρ s s1 → N ≤ w.heap.size → Calls P T.f0 vals w fun e w' => ∃ c ρ', e = .returned c ∧ Goes V ρ s w s1 w' ρ' ∧ VR V ρ' v c ∧ K0 c ρ w')
    (hc1 : ∀ {args s s1 v}, call T.f1 args s = some (v, s1) → ∀ ρ w (vals : Array Value), F2 (VR V ρ) args vals.toList → Rep V ρ s w → Free ρ s s1 → K0 (vals.toList[T.n]?.getD undef) ρ w → N ≤ w.heap.size → Calls P T.f1 vals w fun e w' => ∃ c ρ', e = .returned c ∧ Goes V ρ s w s1 w' ρ' ∧ VR V ρ' v c ∧ K1 c ρ w') {ops : Array Oper} {t t' : Sl} {s s' : St} (h : drawT2 E call T d1 ops t s = some (t', s')) (id : Nat) {ρ : Rho} {a : Act} {w : World} (ht : TR V ρ t a) (hr : Rep V ρ s w) (hf : Free ρ s s') (hN : N ≤ w.heap.size) {Q : Exit → Act → World → Prop} (hQ : ∀ ρ' a' w', Goes V ρ s w s' w' ρ' → TR V ρ' t' a' → K1 (a'.tmps.getD d1 undef) ρ' w' → Q .normal a' w') : (Code.region id ops true).wp P Q a w := by
  unfold drawT2 at h
  split at h
  · cases h
  · rename_i B hB
    cases hck : (twoCk B T ops && d1Ck T d1 ops && Nat.blt T.k1 ops.size && Nat.blt d1 t.length && Nat.blt T.d t.length)
    · rw [hck] at h
      cases h
    rw [hck] at h
    simp only [cond_true] at h
    simp only [Bool.and_eq_true] at hck
    obtain ⟨⟨⟨⟨hck, hck1⟩, hk1s⟩, hdl1⟩, hdl⟩ := hck
    have hk1s : T.k1 < ops.size := Nat.le_of_ble_eq_true (show Nat.ble (T.k1 + 1) ops.size = true from hk1s)
    have hdl1 : d1 < t.length := Nat.le_of_ble_eq_true (show Nat.ble (d1 + 1) t.length = true from hdl1)
    have hck1 : ∀ i o, ops[i]? = some o → (i = T.k1 → o.dst = some d1) ∧ (i ≠ T.k1 → o.dst ≠ some d1) := by
      intro i o ho
      have := List.all_eq_true.1 hck1 i (List.mem_range.2 (Array.getElem?_eq_some_iff.1 ho).1)
      rw [ho] at this
      exact d1At_ok this
    have hdl : T.d < t.length := Nat.le_of_ble_eq_true (show Nat.ble (T.d + 1) t.length = true from hdl)
    have hck : ∀ i o, ops[i]? = some o → twoAt B T i o = true := by
      intro i o ho
      have := List.all_eq_true.1 hck i (List.mem_range.2 (Array.getElem?_eq_some_iff.1 ho).1)
      rw [ho] at this
      exact this
    unfold drawA at h
    rw [beforeF_eq] at h
    rw [hB] at h
    simp only at h
    split at h
    · rename_i D hD
      simp only [Option.some.injEq, Prod.mk.injEq] at h
      obtain ⟨rfl, rfl⟩ := h
      obtain ⟨L, hL, _, hbits⟩ := drawList_trace _ (Trace.nil (E := E) (call := call) (ops := ops) (B := B) (t := t) (s := s)) hD
      have tf := trace_tf hup hL
      have hBl : B.length = ops.size := by
        have := beforeA_length _ _ _ _ hB
        simpa using this
      refine wp_region_any hE.mixed ?_
      have hrec : ∀ r ∈ L, ops[r.i]? = some r.o ∧ ∃ D0 bk, SC E call ops B D0 r bk := by
        intro r' hr'
        obtain ⟨L1, L2, e⟩ := List.append_of_mem hr'
        have ht' := hL
        rw [e] at ht'
        obtain ⟨D0, bk, _, sc1, _⟩ := trace_at hup L1 ht'
        exact ⟨sc1.ho, D0, bk, sc1⟩
      refine any_okQ (J := fun X ρ a w => (T.d < a.tmps.size ∧ d1 < a.tmps.size) ∧ (X T.k0 = true → X T.k1 = false → K0 (a.tmps.getD T.d undef) ρ w) ∧ (X T.k1 = true → K1 (a.tmps.getD d1 undef) ρ w) ∧ N ≤ w.heap.size) hup (bok hB) hL (fun k hk => (tf.bits k).1 (hbits k (by simp [hk]) hk (by omega))) hr.lt (w0 := w) hf.b hf.c ?_ (fun X ρ' a' w' hg h hall hJ => hQ ρ' a' w' hg h (hJ.2.2.1 (hall T.k1 hk1s))) ops.size _ ρ a _ (by simp) ⟨List.range ops.size, by simp, fun j hj _ => by simp [hj]⟩ ?_ ?_ ?_
      · intro r hrL X ρ a w hXr hBr hJ
        obtain ⟨ho, D0, bk, sc⟩ := hrec r hrL
        have hat := hck r.i r.o ho
        unfold twoAt at hat
        cases h0 : Nat.beq r.i T.k0
        · rw [h0] at hat
          simp only [cond_false] at hat
          have hn0 : r.i ≠ T.k0 := fun e => by rw [e, Nat.beq_refl] at h0; cases h0
          cases h1 : Nat.beq r.i T.k1
          · rw [h1] at hat
            simp only [cond_false, Bool.and_eq_true, Bool.or_eq_true] at hat
            have hn1 : r.i ≠ T.k1 := fun e => by rw [e, Nat.beq_refl] at h1; cases h1
            obtain ⟨⟨g1, g2⟩, g3⟩ := hat
            have gd : r.o.dst ≠ some T.d := by
              intro e
              rw [e] at g2
              simp only [Nat.beq_refl] at g2
              cases g2
            have hstep : ∀ t' s', stepA E call ops t' s' r.o = stepA E callN ops t' s' r.o := by
              intro t' s'
              simp only [stepA_eq]
              unfold stepA0
              rw [opA_noCall (noDeep hE hfn) g1]
            refine ⟨fun _ _ => True, ?_, ?_⟩
            · intro t' s' s1 v k1 k2 k3 k4 K' hK
              rw [hstep] at k1
              exact step_ok hE callN_ok (fun f args s r h => by cases h) ho k1 k2 k3 k4 (fun ρ' c w' q1 q2 => hK ρ' c w' q1 q2 trivial)
            · intro ρ' c w' hsf _ Y hY
              have hkp : ∀ DK wK, KP DK wK ρ w → KP DK wK ρ' w' := fun DK wK h => h.sf hsf
              refine ⟨by rw [put_size]; exact hJ.1, fun y0 y1 => ?_, fun y1 => ?_, Nat.le_trans hJ.2.2.2 hsf.size⟩
              rotate_left
              · rw [get_put_ne ((hck1 r.i r.o ho).2 hn1)]
                rw [hY, if_neg (Ne.symm hn1)] at y1
                exact h1s _ _ _ _ _ (hJ.2.2.1 y1) hsf.size hkp
              rw [get_put_ne gd]
              rw [hY, if_neg (Ne.symm hn0)] at y0
              rw [hY, if_neg (Ne.symm hn1)] at y1
              have hk := hJ.2.1 y0 y1
              have hW : r.W = [] := by
                rcases g3 with g3 | g3
                · have hst := sc.st
                  simp only [stepA_eq] at hst
                  unfold stepA0 at hst
                  have hd : r.s1.dirty = [] := by
                    split at hst
                    · exact noW_ok g3 hst
                    · simp only [Option.some.injEq, Prod.mk.injEq] at hst
                      rw [← hst.2]
                      rfl
                    · cases hst
                  rw [sc.W, hd]
                  rfl
                · have := hBr _ g3
                  rw [y1] at this
                  cases this
              exact h0s _ _ _ _ _ hk ⟨hsf.os, hsf.tape, hsf.out, hsf.size, fun b hb => hsf.fr b hb (fun j hj => by rw [hW] at hj; cases hj)⟩ hkp
          · rw [h1] at hat
            simp only [cond_true] at hat
            have e1 := Nat.eq_of_beq_eq_true h1
            split at hat
            · rename_i f l hcal
              simp only [Bool.and_eq_true] at hat
              obtain ⟨⟨⟨g1, g2⟩, g3⟩, g4⟩ := hat
              have g1 := Nat.eq_of_beq_eq_true g1
              subst g1
              have x0 : X T.k0 = true := hBr T.k0 (by rw [e1]; exact g3)
              have hk := hJ.2.1 x0 (by rw [← e1]; exact hXr)
              have gd : r.o.dst ≠ some T.d := by
                intro e
                rw [e] at g4
                simp only [Nat.beq_refl] at g4
                cases g4
              have harg : (l.map a.eval)[T.n]?.getD undef = a.tmps.getD T.d undef := by
                unfold isTmp at g2
                split at g2
                · rename_i j hj
                  have := Nat.eq_of_beq_eq_true g2
                  subst this
                  rw [List.getElem?_map, hj]
                  simp [Act.eval, Array.getD_eq_getD_getElem?]
                · cases g2
              refine ⟨fun c w' => K1 c ρ w', ?_, ?_⟩
              · intro t' s' s1 v k1 k2 k3 k4 K' hK
                refine wp_callee hE hfn ho hcal k1 k2 (fun hcl vals q1 q2 => ?_)
                refine (hc1 hcl ρ w vals q1 k3 k4 (by rw [q2, harg]; exact hk) hJ.2.2.2).mono ?_
                rintro e w' ⟨c, ρ', rfl, p1, p2, p3⟩
                exact ⟨c, rfl, hK ρ' c w' p1 p2 p3⟩
              · intro ρ' c w' hsf hz Y hY
                have hnx : r.s1.next = r.n := by rw [hn1 (callee_step hcal sc.st), sc.n]; rfl
                refine ⟨by rw [put_size]; exact hJ.1, fun y0 y1 => ?_, fun _ => ?_, Nat.le_trans hJ.2.2.2 hsf.size⟩
                · rw [hY, if_pos e1.symm] at y1
                  cases y1
                · rw [(hck1 r.i r.o ho).1 e1, get_put_eq hJ.1.2]
                  exact h1b _ _ _ _ hz (fun i => hsf.blk i (by omega))
            · cases hat
        · rw [h0] at hat
          simp only [cond_true] at hat
          have e0 := Nat.eq_of_beq_eq_true h0
          split at hat
          · rename_i f l e hcal hdst
            simp only [Bool.and_eq_true] at hat
            have g1 := Nat.eq_of_beq_eq_true hat.1
            subst g1
            have g2 := Nat.eq_of_beq_eq_true hat.2
            subst g2
            refine ⟨fun c w' => K0 c ρ w', ?_, ?_⟩
            · intro t' s' s1 v k1 k2 k3 k4 K' hK
              refine wp_callee hE hfn ho hcal k1 k2 (fun hcl vals q1 q2 => ?_)
              refine (hc0 hcl ρ w vals q1 k3 k4 hJ.2.2.2).mono ?_
              rintro e w' ⟨c, ρ', rfl, p1, p2, p3⟩
              exact ⟨c, rfl, hK ρ' c w' p1 p2 p3⟩
            · intro ρ' c w' hsf hz Y hY
              have hnx : r.s1.next = r.n := by rw [hn0 (callee_step hcal sc.st), sc.n]; rfl
              have hne1 : r.i ≠ T.k1 := fun e => hne (by rw [← e0, e])
              refine ⟨by rw [put_size]; exact hJ.1, fun y0 y1 => ?_, fun y1 => ?_, Nat.le_trans hJ.2.2.2 hsf.size⟩
              · rw [hdst, get_put_eq hJ.1.1]
                exact h0b _ _ _ _ hz (fun i => hsf.blk i (by omega))
              · rw [get_put_ne ((hck1 r.i r.o ho).2 hne1)]
                rw [hY, if_neg (Ne.symm hne1)] at y1
                exact h1s _ _ _ _ _ (hJ.2.2.1 y1) hsf.size (fun DK wK h => h.sf hsf)
          · cases hat
      · intro i j h
        by_cases hi : i < ops.size <;> simp [Array.getD, hi] at h
      · have e0 : ∀ M : List PR, only (fun j => (Array.replicate ops.size false).getD j false) M = [] := by
          intro M
          apply List.filter_eq_nil_iff.2
          intro r _
          by_cases hi : r.i < ops.size <;> simp [Array.getD, hi]
        have ef : ∀ j, (Array.replicate ops.size false).getD j false = false := by
          intro j
          by_cases hi : j < ops.size <;> simp [Array.getD, hi]
        refine ⟨by rw [e0]; exact ht, ?_, ?_, hr.bnd, fun i b hb => .inl hb, fun i b hb => .inl hb, fun _ _ => rfl, fun _ _ => rfl, Le.refl _, fun _ _ _ => rfl, ?_, rfl, rfl, rfl, Nat.le_refl _, fun r _ h => ?_, fun r _ h => ?_⟩
        · rw [e0]
          exact hr.h
        · rw [e0]
          exact hr.inj
        · intro i b h1 h2 h3
          rw [hf.b i h1 h2] at h3
          cases h3
        · have := ef r.i
          simp only [this] at h
          cases h
        · have := ef r.i
          simp only [this] at h
          cases h
      · refine ⟨⟨by rw [ht.z]; exact hdl, by rw [ht.z]; exact hdl1⟩, fun y0 _ => ?_, fun y0 => ?_, hN⟩
        · exfalso
          by_cases hi : T.k0 < ops.size <;> simp [Array.getD, hi] at y0
        · exfalso
          by_cases hi : T.k1 < ops.size <;> simp [Array.getD, hi] at y0
    · cases h
end
end Ab
end Go.Proofs.YtbfppnppijcnlaaGreat
