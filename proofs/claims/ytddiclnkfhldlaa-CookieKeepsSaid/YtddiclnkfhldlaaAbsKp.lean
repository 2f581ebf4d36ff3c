/-
  The interpreter's soundness with a fact beside: some blocks of memory that it does not tell stay as they are.
  Conditions: none.
-/
import Derived.Test.YtddiclnkfhldlaaAbsK
import Derived.Test.YtddiclnkfhldlaaAbsI
namespace Go.Proofs.Ytddiclnkfhldlaa
namespace Ab
set_option linter.unusedVariables false
set_option linter.unusedSimpArgs false
section
variable {P : Program} {V : Nat → Value} {E : Env} {DK : Nat → Prop} {wK : World}
/-- Blocks that are told of nowhere, and hold what they held. -/
structure KP (DK : Nat → Prop) (wK : World) (ρ : Rho) (w : World) : Prop where
  lt : ∀ b, DK b → b < w.heap.size
  eq : ∀ b, DK b → w.heap[b]? = wK.heap[b]?
  no : ∀ b, DK b → ∀ i, ρ.blk i ≠ some b
theorem KP.ext {ρ ρ' : Rho} {s s' : St} {w w' : World} (h : KP DK wK ρ w) (g : Ext ρ s w ρ' s' w') : KP DK wK ρ' w' where
  lt := fun b hb => Nat.lt_of_lt_of_le (h.lt b hb) g.size
  eq := fun b hb => (g.fr b (h.lt b hb) (fun i _ _ => h.no b hb i)).trans (h.eq b hb)
  no := fun b hb i e => by
    by_cases hi : i < s.next ∨ s'.next ≤ i
    · rw [g.blk i hi] at e
      exact h.no b hb i e
    · rcases g.new i b (by omega) (by omega) e with h1 | ⟨j, _, _, h1⟩
      · have := h.lt b hb
        omega
      · exact h.no b hb j h1
theorem KP.sf {s : St} {L : List PR} {X : Nat → Bool} {r : PR} {ρ ρ' : Rho} {w w' : World} {c : Value} (h : KP DK wK ρ w) (g : SF V s L X r ρ w ρ' w' c) : KP DK wK ρ' w' where
  lt := fun b hb => Nat.lt_of_lt_of_le (h.lt b hb) g.size
  eq := fun b hb => (g.fr b (h.lt b hb) (fun i _ => h.no b hb i)).trans (h.eq b hb)
  no := fun b hb i e => by
    by_cases hi : i < r.n ∨ r.s1.next ≤ i
    · rw [g.blk i hi] at e
      exact h.no b hb i e
    · rcases g.new i b (by omega) (by omega) e with h1 | ⟨j, _, h1⟩
      · have := h.lt b hb
        omega
      · exact h.no b hb j h1
def CallOKK (DK : Nat → Prop) (wK : World) (P : Program) (V : Nat → Value) (call : Call1) : Prop :=
  ∀ f args s v s', call f args s = some (v, s') → ∀ ρ w (vals : Array Value), F2 (VR V ρ) args vals.toList → Rep V ρ s w → Free ρ s s' → KP DK wK ρ w → Calls P f vals w fun e w' => ∃ c ρ', e = .returned c ∧ Goes V ρ s w s' w' ρ' ∧ VR V ρ' v c
theorem CallOK.k {call : Call1} (h : CallOK P V call) : CallOKK DK wK P V call := fun f args s v s' hc ρ w vals ha hr hf _ => h f args s v s' hc ρ w vals ha hr hf
def OpOKK (DK : Nat → Prop) (wK : World) (P : Program) (V : Nat → Value) (t : Sl) (s : St) (o : Oper) (v : AV) (s' : St) : Prop :=
  ∀ ρ a w, TR V ρ t a → Rep V ρ s w → Free ρ s s' → KP DK wK ρ w → ∀ (K : Act → World → Prop) (Q : Exit → Act → World → Prop), (∀ ρ' c w', Goes V ρ s w s' w' ρ' → VR V ρ' v c → K (a.put o.dst c) w') → o.wp P a w K Q
def DrawOKK (DK : Nat → Prop) (wK : World) (P : Program) (V : Nat → Value) (dr : Draw1) : Prop :=
  ∀ ops t s t' s', dr ops t s = some (t', s') → ∀ id ρ a w, TR V ρ t a → Rep V ρ s w → Free ρ s s' → KP DK wK ρ w → ∀ Q : Exit → Act → World → Prop, (∀ ρ' a' w', Goes V ρ s w s' w' ρ' → TR V ρ' t' a' → Q .normal a' w') → (Code.region id ops true).wp P Q a w
structure ExtOKK (DK : Nat → Prop) (wK : World) (P : Program) (V : Nat → Value) (E : Env) : Prop where
  ok : CallOKK DK wK P V E.ext
  up : CallUp E.ext
  fn : CallFn E E.ext
theorem op_callK (hE : EnvOK P V E) {call : Call1} (hcall : CallOKK DK wK P V call) (hfn : CallFn E call) {t : Sl} {s s' : St} {o : Oper} {c : Call} {f : Operand} {g : Nat} {cap : List AC} {v : AV} (ho : o.op = .call c) (hc : c.callee = .value f)
    (hev : eval t f = .fn g cap ∨ (eval t f = .one (.c (.fn g)) ∧ cap = [])) (h : call g (evals t c.args.toList ++ cap.map (fun x => .one (.c x))) s = some (v, s')) : OpOKK DK wK P V t s o v s' := by
  intro ρ a w ht hr hf hk K Q hK
  have he := evals_ok ht c.args.toList
  have hfv := eval_ok ht f
  obtain ⟨cs, hfc, hcs⟩ : ∃ cs : Array Value, a.eval f = .func (.func g) #[] cs ∧ F2 (CR V ρ) cap cs.toList := by
    rcases hev with hev | ⟨hev, rfl⟩
    · rw [hev] at hfv
      exact hfv
    · rw [hev] at hfv
      exact ⟨#[], hfv, trivial⟩
  obtain ⟨fn, hfn⟩ := hfn _ _ _ _ h
  obtain ⟨_, hcf⟩ := hE.fn g fn hfn
  have hargs : F2 (VR V ρ) (evals t c.args.toList ++ cap.map (fun x => .one (.c x))) ((c.args.map a.eval) ++ cs).toList := by
    rw [Array.toList_append, Array.toList_map]
    exact he.append (mapc_ok hcs)
  have hres := hcall g _ s v s' h ρ w _ hargs hr hf hk
  have hrun : (execOp a.eval o).run P w = .ok (.enter g ((c.args.map a.eval) ++ cs)) w := by
    simp [execOp, ho, resolve, hc, hfc, Deferred.ofValue, invoke, hcf]
  unfold Oper.wp
  rw [hrun, Oper.upon_enter]
  refine hres.mono ?_
  rintro e w' ⟨c', ρ', rfl, h1, h2⟩
  exact hK ρ' c' w' h1 h2
theorem opA_okK (hE : EnvOK P V E) {call : Call1} (hcall : CallOKK DK wK P V call) (hfn : CallFn E call) {t : Sl} {s s' : St} {o : Oper} {v : AV} (h : opA E call t s o = some (v, s')) : OpOKK DK wK P V t s o v s' := by
  cases hn : noCall o.op
  · unfold noCall at hn
    split at hn
    · rename_i c ho
      split at hn
      · rename_i f hc
        unfold opA at h
        rw [ho] at h
        simp only [hc] at h
        split at h
        · rename_i g cap hev
          exact op_callK hE hcall hfn ho hc (.inl hev) h
        · rename_i g hev
          exact op_callK (cap := []) hE hcall hfn ho hc (.inr ⟨hev, rfl⟩) (by simpa using h)
        · cases h
      · cases hn
    · cases hn
  · rw [opA_noCall hn] at h
    intro ρ a w ht hr hf _ K Q hK
    exact opA_ok hE callN_ok (fun f args s r h => by cases h) h ρ a w ht hr hf K Q hK
theorem step_okK (hE : EnvOK P V E) {call : Call1} (hcall : CallOKK DK wK P V call) (hfn : CallFn E call) {ops : Array Oper} {t : Sl} {s s' : St} {i : Nat} {o : Oper} {v : AV} (hi : ops[i]? = some o) (h : stepA E call ops t s o = some (v, s')) {ρ : Rho} {a : Act} {w : World} (ht : TR V ρ t a) (hr : Rep V ρ s w) (hf : Free ρ s s') (hk : KP DK wK ρ w)
    {K : Act → World → Prop} {Q : Exit → Act → World → Prop} (hK : ∀ ρ' c w', Goes V ρ s w s' w' ρ' → VR V ρ' v c → K (a.put o.dst c) w') : wpOp P ops Q i K a w := by
  unfold wpOp
  rw [hi]
  simp only
  unfold stepA at h
  split at h
  · rename_i hw
    rw [want_ok ht hw, if_pos rfl]
    exact .inl (opA_okK hE hcall hfn h ρ a w ht hr hf hk K Q hK)
  · rename_i hw
    rw [want_ok ht hw]
    simp only [Option.some.injEq, Prod.mk.injEq] at h
    obtain ⟨rfl, rfl⟩ := h
    simp only [Bool.false_eq_true, if_false]
    exact hK ρ undef w (Goes.refl V hr) rfl
  · cases h
/-- A region in its own order. -/
theorem ops_okK (hE : EnvOK P V E) {call : Call1} (hcall : CallOKK DK wK P V call) (hfn : CallFn E call) (hup : CallUp call) {ops : Array Oper} {Q : Exit → Act → World → Prop} : ∀ (l : List Oper) (k : Nat), ops.toList.drop k = l → ∀ {t t' : Sl} {s s' : St}, opsA E call ops l t s = some (t', s') → ∀ {ρ : Rho} {a : Act} {w : World}, TR V ρ t a → Rep V ρ s w → Free ρ s s' → KP DK wK ρ w →
    (∀ ρ' a' w', Goes V ρ s w s' w' ρ' → TR V ρ' t' a' → Q .normal a' w') → wpOps P ops Q (List.range' k l.length) a w
  | [], k, hk, t, t', s, s', h, ρ, a, w, ht, hr, hf, hk0, hQ => by
    simp only [opsA, Option.some.injEq, Prod.mk.injEq] at h
    obtain ⟨rfl, rfl⟩ := h
    exact hQ ρ a w (Goes.refl V hr) ht
  | o :: l, k, hk, t, t', s, s', h, ρ, a, w, ht, hr, hf, hk0, hQ => by
    simp only [opsA] at h
    split at h
    · rename_i v s1 h1
      have hi : ops[k]? = some o := by
        have := congrArg (fun l : List Oper => l[0]?) hk
        simpa using this
      have hk' : ops.toList.drop (k + 1) = l := by
        rw [← List.drop_drop, hk]
        rfl
      have hup1 := opsA_up hup l h
      rw [List.length_cons, List.range'_succ, wpOps_cons]
      refine step_okK hE hcall hfn hi h1 ht hr (hf.left hup1.1 hup1.2) hk0 ?_
      intro ρ1 c w1 hg hv
      refine ops_okK hE hcall hfn hup l (k + 1) hk' h (tr_put (ht.mono V hg.2.2) hv o.dst) hg.1 (hf.right hg.2.1) (hk0.ext hg.2.1) ?_
      intro ρ2 a2 w2 hg2 ht2
      exact hQ ρ2 a2 w2 (hg.trans V hg2) ht2
    · cases h
/-- How code ends. -/
theorem draw_okK (hE : EnvOK P V E) {call : Call1} (hcall : CallOKK DK wK P V call) (hfn : CallFn E call) (hup : CallUp call) : DrawOKK DK wK P V (drawA E call) := by
  intro ops t s t' s' h id ρ a w ht hr hf hk Q hQ
  unfold drawA at h
  split at h
  · cases h
  · rename_i B hB
    split at h
    · rename_i D hD
      simp only [Option.some.injEq, Prod.mk.injEq] at h
      obtain ⟨rfl, rfl⟩ := h
      obtain ⟨L, hL, _, hbits⟩ := drawList_trace _ (Trace.nil (E := E) (call := call) (ops := ops) (B := B) (t := t) (s := s)) hD
      have tf := trace_tf hup hL
      have hBl : B.length = ops.size := by
        have := beforeA_length _ _ _ _ hB
        simpa using this
      refine wp_region_any hE.mixed ?_
      have hrec : ∀ r ∈ L, ops[r.i]? = some r.o := by
        intro r' hr'
        obtain ⟨L1, L2, e⟩ := List.append_of_mem hr'
        have ht' := hL
        rw [e] at ht'
        obtain ⟨D0, bk, _, sc1, _⟩ := trace_at hup L1 ht'
        exact sc1.ho
      refine any_okJ (J := fun _ ρ _ w => KP DK wK ρ w) hup (bok hB) hL (fun k hk => (tf.bits k).1 (hbits k (by simp [hk]) hk (by omega))) hr.lt (w0 := w) hf.b hf.c ?_ (fun ρ' a' w' hg h => hQ ρ' a' w' hg h) ops.size _ ρ a _ (by simp) ⟨List.range ops.size, by simp, fun j hj _ => by simp [hj]⟩ ?_ ?_ ⟨hk.lt, hk.eq, hk.no⟩
      · intro r hrL X ρ a w hXr hBr hJ
        refine ⟨fun _ _ => True, ?_, fun ρ' c w' hsf _ Y hY => hJ.sf hsf⟩
        intro t' s' s1 v k1 k2 k3 k4 K' hK
        exact step_okK hE hcall hfn (hrec r hrL) k1 k2 k3 k4 hJ (fun ρ' c w' q1 q2 => hK ρ' c w' q1 q2 trivial)
      · intro i j h
        by_cases hi : i < ops.size <;> simp [Array.getD, hi] at h
      · have e0 : ∀ M : List PR, only (fun j => (Array.replicate ops.size false).getD j false) M = [] := by
          intro M
          apply List.filter_eq_nil_iff.2
          intro r _
          by_cases hi : r.i < ops.size <;> simp [Array.getD, hi]
        have ef : ∀ j, (Array.replicate ops.size false).getD j false = false := by
          intro j
          by_cases hi : j < ops.size <;> simp [Array.getD, hi]
        refine ⟨by rw [e0]; exact ht, ?_, ?_, hr.bnd, fun i b hb => .inl hb, fun i b hb => .inl hb, fun _ _ => rfl, fun _ _ => rfl, Le.refl _, fun _ _ _ => rfl, ?_, rfl, rfl, rfl, Nat.le_refl _, fun r _ h => ?_, fun r _ h => ?_⟩
        · rw [e0]
          exact hr.h
        · rw [e0]
          exact hr.inj
        · intro i b h1 h2 h3
          rw [hf.b i h1 h2] at h3
          cases h3
        · have := ef r.i
          simp only [this] at h
          cases h
        · have := ef r.i
          simp only [this] at h
          cases h
    · cases h
theorem code_okK (hE : EnvOK P V E) {call : Call1} (hcall : CallOKK DK wK P V call) (hfn : CallFn E call) (hup : CallUp call) {dr : Draw1} (hdr : DrawOKK DK wK P V dr) (hdu : DrawUp dr) : ∀ (n : Nat),
    (∀ (c : Code) {t t' : Sl} {s s' : St} {e : AE}, codeA E call dr n c t s = some (e, t', s') → ∀ {ρ : Rho} {a : Act} {w : World}, TR V ρ t a → Rep V ρ s w → Free ρ s s' → KP DK wK ρ w → ∀ Q, After V ρ s w e t' s' Q → c.wp P Q a w) ∧
    (∀ (c : Code) {t t' : Sl} {s s' : St} {e : AE}, codeA E call dr n (.loop c) t s = some (e, t', s') → ∀ {ρ : Rho} {a : Act} {w : World}, TR V ρ t a → Rep V ρ s w → Free ρ s s' → KP DK wK ρ w → ∀ Q, After V ρ s w e t' s' Q → LoopWp P c Q a w)
  | 0 => ⟨fun c _ _ _ _ _ h => by simp [codeA] at h, fun c _ _ _ _ _ h => by simp [codeA] at h⟩
  | n + 1 => by
    obtain ⟨ih1, ih2⟩ := code_okK hE hcall hfn hup hdr hdu n
    have hloop : (∀ (c : Code) {t t' : Sl} {s s' : St} {e : AE}, codeA E call dr (n + 1) (.loop c) t s = some (e, t', s') → ∀ {ρ : Rho} {a : Act} {w : World}, TR V ρ t a → Rep V ρ s w → Free ρ s s' → KP DK wK ρ w → ∀ Q, After V ρ s w e t' s' Q → LoopWp P c Q a w) := by
      intro c t t' s s' e h ρ a w ht hr hf hk Q hQ
      simp only [codeA] at h
      refine loop_one ?_
      split at h
      · rename_i t1 s1 h1
        have hu := codeA_up hup hdu n _ h
        refine ih1 c h1 ht hr (hf.left hu.1 hu.2) hk _ ?_
        intro ρ1 a1 w1 hg ht1
        exact ih2 c h ht1 hg.1 (hf.right hg.2.1) (hk.ext hg.2.1) Q (hQ.then hg)
      · rename_i hne
        refine ih1 c h ht hr hf hk _ ?_
        intro ρ1 a1 w1 hg ht1
        cases e with
        | normal => exact absurd h (hne _ _)
        | ret => exact hQ ρ1 a1 w1 hg ht1
        | exit id => exact hQ ρ1 a1 w1 hg ht1
    refine ⟨?_, hloop⟩
    intro c t t' s s' e h ρ a w ht hr hf hk Q hQ
    cases c with
    | skip =>
      simp only [codeA, Option.some.injEq, Prod.mk.injEq] at h
      obtain ⟨rfl, rfl, rfl⟩ := h
      exact wp_skip (hQ ρ a w (Goes.refl V hr) ht)
    | region id ops draw =>
      simp only [codeA] at h
      split at h
      · rename_i t1 s1 h1
        simp only [Option.some.injEq, Prod.mk.injEq] at h
        obtain ⟨rfl, rfl, rfl⟩ := h
        cases draw
        · have := ops_okK hE hcall hfn hup (Q := Q) ops.toList 0 (by simp) h1 ht hr hf hk (fun ρ' a' w' g t => hQ ρ' a' w' g t)
          rw [← List.range_eq_range', Array.length_toList] at this
          exact wp_region this
        · exact hdr ops t s t1 s1 h1 id ρ a w ht hr hf hk Q (fun ρ' a' w' g t => hQ ρ' a' w' g t)
      · cases h
    | seq x y =>
      simp only [codeA] at h
      refine wp_seq ?_
      split at h
      · rename_i t1 s1 h1
        have hu := codeA_up hup hdu n _ h
        refine ih1 x h1 ht hr (hf.left hu.1 hu.2) hk _ ?_
        intro ρ1 a1 w1 hg ht1
        exact ih1 y h ht1 hg.1 (hf.right hg.2.1) (hk.ext hg.2.1) Q (hQ.then hg)
      · rename_i hne
        refine ih1 x h ht hr hf hk _ ?_
        intro ρ1 a1 w1 hg ht1
        cases e with
        | normal => exact absurd h (hne _ _)
        | ret => exact hQ ρ1 a1 w1 hg ht1
        | exit id => exact hQ ρ1 a1 w1 hg ht1
    | cond b x y =>
      simp only [codeA] at h
      split at h
      · rename_i k hkb
        have hb := eval_ok ht b
        rw [hkb] at hb
        have hb : a.eval b = .bool k := hb
        refine wp_cond hb ?_
        have := ih1 _ h ht hr hf hk Q hQ
        cases k <;> simpa using this
      · cases h
    | block id b =>
      simp only [codeA] at h
      refine wp_block ?_
      split at h
      · rename_i j t1 s1 h1
        split at h
        · rename_i hj
          simp only [Option.some.injEq, Prod.mk.injEq] at h
          obtain ⟨rfl, rfl, rfl⟩ := h
          refine ih1 b h1 ht hr hf hk _ ?_
          intro ρ1 a1 w1 hg ht1
          show (if j = id then _ else _)
          rw [if_pos hj]
          exact hQ ρ1 a1 w1 hg ht1
        · rename_i hj
          simp only [Option.some.injEq, Prod.mk.injEq] at h
          obtain ⟨rfl, rfl, rfl⟩ := h
          refine ih1 b h1 ht hr hf hk _ ?_
          intro ρ1 a1 w1 hg ht1
          show (if j = id then _ else _)
          rw [if_neg hj]
          exact hQ ρ1 a1 w1 hg ht1
      · rename_i hne
        refine ih1 b h ht hr hf hk _ ?_
        intro ρ1 a1 w1 hg ht1
        cases e with
        | normal => exact hQ ρ1 a1 w1 hg ht1
        | ret => exact hQ ρ1 a1 w1 hg ht1
        | exit id' => exact absurd h (hne _ _ _)
    | loop b => exact wp_of_loop (hloop b h ht hr hf hk Q hQ)
    | exit id =>
      simp only [codeA, Option.some.injEq, Prod.mk.injEq] at h
      obtain ⟨rfl, rfl, rfl⟩ := h
      exact wp_exit (hQ ρ a w (Goes.refl V hr) ht)
    | ret =>
      simp only [codeA, Option.some.injEq, Prod.mk.injEq] at h
      obtain ⟨rfl, rfl, rfl⟩ := h
      exact wp_ret (hQ ρ a w (Goes.refl V hr) ht)
    | rangeFunc _ _ _ _ => simp [codeA] at h
    | scope _ => simp [codeA] at h
    | label _ => simp [codeA] at h
    | goto _ => simp [codeA] at h
    | refuse _ => simp [codeA] at h
theorem fnA_okK (hE : EnvOK P V E) (hx : ExtOKK DK wK P V E) : ∀ n, CallOKK DK wK P V (fnA E n)
  | 0 => fun f args s v s' h => by simp [fnA] at h
  | n + 1 => by
    have ih := fnA_okK hE hx n
    intro f args s v s' h ρ w vals hargs hr hf hk
    have hup := fnA_up (E := E) hx.up n
    simp only [fnA, Bool.cond_eq_ite] at h
    split at h
    · rename_i r' hr'
      simp only [Option.some.injEq] at h
      subst h
      exact hx.ok _ _ _ _ _ hr' ρ w vals hargs hr hf hk
    split at h
    · cases h
    · rename_i fn hfn
      obtain ⟨hF, _⟩ := hE.fn f fn hfn
      split at h
      · cases h
      · rename_i c hc
        split at h
        · cases h
        · rename_i hle
          have hle : args.length ≤ fn.ntmps := by
            cases hb : Nat.ble args.length fn.ntmps
            · simp [hb] at hle
            · exact Nat.le_of_ble_eq_true hb
          have hvl : vals.size = args.length := by rw [← Array.length_toList, ← hargs.length]
          have ht : TR V ρ (pad fn.ntmps args) { tmps := vals ++ Array.replicate (fn.ntmps - vals.size) undef, defers := [] } := by
            refine ⟨by rw [pad_length]; simp; omega, fun d => ?_, rfl⟩
            rw [pad_look _ _ _ hle]
            have h1 := lget_F2 hargs d
            have h2 : (vals ++ Array.replicate (fn.ntmps - vals.size) undef).getD d undef = vals.toList.getD d undef := by
              simp only [Array.getD_eq_getD_getElem?, List.getD_eq_getElem?_getD, Array.getElem?_append, Array.getElem?_toList]
              by_cases hd : d < vals.size
              · rw [if_pos hd]
              · rw [if_neg hd, Array.getElem?_eq_none (by omega : vals.size ≤ d), Array.getElem?_replicate]
                split <;> rfl
            show VR V ρ _ ((vals ++ Array.replicate (fn.ntmps - vals.size) undef).getD d undef)
            rw [h2]
            exact h1
          have hr0 : Rep V ρ { s with dirty := [] } w := ⟨hr.h, hr.inj, hr.bnd, hr.lt⟩
          have fin : ∀ (e : AE) (t' : Sl) (s1 : St) (rs : List A1), codeA E (fnA E n) (drawA E (fnA E n)) 100000 c (pad fn.ntmps args) { s with dirty := [] } = some (e, t', s1) → (e = .normal ∨ e = .ret) → resultsA E t' s1 fn.results.toList = some rs →
              v = wrapA rs → s' = { (tidy s.next rs s1) with dirty := (tidy s.next rs s1).dirty ++ s.dirty } → Calls P f vals w fun e w' => ∃ c ρ', e = .returned c ∧ Goes V ρ s w s' w' ρ' ∧ VR V ρ' v c := by
            intro e t' s1 rs h1 he h2 hv hs
            subst hv
            subst hs
            refine calls_of_wp hF hc ?_
            refine (code_okK hE ih (fnA_fn hx.fn n) hup (draw_okK hE ih (fnA_fn hx.fn n) hup) (drawA_up hup) 100000).1 c h1 ht hr0 ⟨hf.b, hf.c⟩ hk _ ?_
            intro ρ' a' w' hg ht'
            obtain ⟨vs, g1, g2⟩ := results_ok hE ht' hg.1 _ _ h2
            have hres : (results fn a'.tmps).run P w' = .ok (if h : vs.toArray.size = 1 then vs.toArray[0] else .tuple vs.toArray) w' := by
              unfold results
              rw [Array.mapM_eq_mapM_toList]
              simp only [Sem.run_bind, Sem.run_map, Sem.run_pure]
              generalize hX : Sem.run P (List.mapM _ fn.results.toList) w' = Y
              have hY : Y = .ok vs w' := hX.symm.trans g1
              rw [hY]
              simp only [Result.andThen_ok]
            have : bodyPost P fn (fun e w' => ∃ c ρ', e = .returned c ∧ Goes V ρ s w { (tidy s.next rs s1) with dirty := (tidy s.next rs s1).dirty ++ s.dirty } w' ρ' ∧ VR V ρ' (wrapA rs) c) (AEx e) a' w' := by
              rcases he with rfl | rfl
              · exact ⟨ht'.df, _, hres, _, ρ', rfl, tidy_ok rs hg, wrap_ok g2⟩
              · exact ⟨ht'.df, _, hres, _, ρ', rfl, tidy_ok rs hg, wrap_ok g2⟩
            exact this
          split at h
          · rename_i t' s1 h1
            split at h
            · rename_i rs h2
              simp only [Option.some.injEq, Prod.mk.injEq] at h
              exact fin _ _ _ rs h1 (.inl rfl) h2 h.1.symm h.2.symm
            · cases h
          · rename_i t' s1 h1
            split at h
            · rename_i rs h2
              simp only [Option.some.injEq, Prod.mk.injEq] at h
              exact fin _ _ _ rs h1 (.inr rfl) h2 h.1.symm h.2.symm
            · cases h
          · cases h
/-- What holds here, beside. -/
def HereK (DK : Nat → Prop) (wK : World) (V : Nat → Value) (base : Nat) (w0 : World) (t : Sl) (s : St) (a : Act) (w : World) : Prop :=
  ∃ ρ, TR V ρ t a ∧ Rep V ρ s w ∧ (∀ i, s.next ≤ i → ρ.blk i = none) ∧ (∀ i, s.ncap ≤ i → ρ.cap i = none) ∧ (∀ i b, ρ.blk i = some b → base ≤ b) ∧ RowKit.Below base w0 w ∧ base ≤ w.heap.size ∧ KP DK wK ρ w
theorem HereK.here {base : Nat} {w0 : World} {t : Sl} {s : St} {a : Act} {w : World} (h : HereK DK wK V base w0 t s a w) : Here V base w0 t s a w := by
  obtain ⟨ρ, h1, h2, h3, h4, h5, h6, h7, _⟩ := h
  exact ⟨ρ, h1, h2, h3, h4, h5, h6, h7⟩
end
end Ab
end Go.Proofs.Ytddiclnkfhldlaa
