/-
  Calls: what the interpreter says of a call, the call does.
  Conditions: none.
-/
import Derived.Test.YtddiclnkfhldlaaAbsDr
import Derived.Below
namespace Go.Proofs.Ytddiclnkfhldlaa
namespace Ab
set_option linter.unusedVariables false
set_option linter.unusedSimpArgs false
section
variable {P : Program} {V : Nat → Value} {E : Env}
theorem getD_set (listed : Array Bool) (k j : Nat) (hk : k < listed.size) : (listed.setIfInBounds k true).getD j false = if j = k then true else listed.getD j false := by
  by_cases h : j = k
  · subst h
    simp [Array.getD, hk]
  · rw [if_neg h]
    simp only [Array.getD_eq_getD_getElem?, Array.getElem?_setIfInBounds, if_neg (Ne.symm h)]
/-- Whatever the order. -/
theorem any_ok (hE : EnvOK P V E) {call : Call1} (hcall : CallOK P V call) (hfn : CallFn E call) (hup : CallUp call) {ops : Array Oper} {B : List Nat} (hB : BOK ops B) {t : Sl} {s : St} {D : DS} {L : List PR} (ht : Trace E call ops B t s D L)
    (hall : ∀ k, k < ops.size → ∃ r ∈ L, r.i = k) (hs0 : ∀ i C, look s.heap i = some C → i < s.next) {ρ0 : Rho} {w0 : World} (hfree : ∀ i, s.next ≤ i → i < D.s.next → ρ0.blk i = none) (hfreec : ∀ i, s.ncap ≤ i → i < D.s.ncap → ρ0.cap i = none)
    {Q : Exit → Act → World → Prop} (hQ : ∀ ρ' a' w', Goes V ρ0 s w0 D.s w' ρ' → TR V ρ' D.t a' → Q .normal a' w') : ∀ (fuel : Nat) (listed : Array Bool) (ρ : Rho) (a : Act) (w : World), listed.size = ops.size → (∃ l : List Nat, l.length ≤ fuel ∧ ∀ j, j < ops.size → listed.getD j false = false → j ∈ l) →
    (∀ i j, listed.getD i false = true → (B.getD i 0).testBit j = true → listed.getD j false = true) → Inv V ρ0 s w0 t L D (fun j => listed.getD j false) ρ a w → wpAny P .any ops Q fuel listed a w := by
  have tf := trace_tf hup ht
  obtain ⟨hT, hH, hD1, hD2, hD3⟩ := trace_hist ht
  have hrec : ∀ r ∈ L, ops[r.i]? = some r.o ∧ r.i < ops.size := by
    intro r' hr'
    obtain ⟨L1, L2, e⟩ := List.append_of_mem hr'
    have ht' := ht
    rw [e] at ht'
    obtain ⟨_, _, _, sc1, _⟩ := trace_at hup L1 ht'
    exact ⟨sc1.ho, (Array.getElem?_eq_some_iff.1 sc1.ho).1⟩
  -- the end
  have hend : ∀ (listed : Array Bool) (ρ : Rho) (a : Act) (w : World), (∀ j, j < ops.size → listed.getD j false = true) → Inv V ρ0 s w0 t L D (fun j => listed.getD j false) ρ a w → Q .normal a w := by
    intro listed ρ a w hl hI
    have eL : only (fun j => listed.getD j false) L = L := List.filter_eq_self.2 fun r hr => hl _ (hrec r hr).2
    obtain ⟨i1, i2, i3, i4, i5, i6, i7, i8, i9, i10, i11, i12, i13, i14, i15, i16, i17⟩ := hI
    rw [eL] at i1 i2 i3
    have hids : ∀ r ∈ L, ∀ i ∈ r.ids, i ∈ r.W ∨ r.n ≤ i := by
      intro r' hr' i hi
      obtain ⟨L1, L2, e⟩ := List.append_of_mem hr'
      have ht' := ht
      rw [e] at ht'
      obtain ⟨_, _, _, sc1, _⟩ := trace_at hup L1 ht'
      rw [sc1.ids] at hi
      rcases List.mem_append.1 hi with hi | hi
      · exact .inl hi
      · exact .inr (by rw [sc1.n]; exact newIds_ge _ _ _ hi)
    have hsub : ∀ M : List PR, (∀ r ∈ M, r ∈ L) → ∀ i C, Hist s M i C → i < D.s.next ∧ (s.next ≤ i ∨ (look s.heap i).isSome = true) := by
      intro M
      induction M with
      | nil =>
        intro _ i C hC
        have hC : look s.heap i = some C := hC
        exact ⟨Nat.lt_of_lt_of_le (hs0 i C hC) tf.s.1, .inr (by rw [hC]; rfl)⟩
      | cons q M ih =>
        intro hM i C hC
        have g1 := hM q (by simp)
        rcases hC with ⟨h1, h2⟩ | ⟨_, h2⟩
        · refine ⟨Nat.lt_of_lt_of_le (i17 q g1 (hl _ (hrec q g1).2) i C h2) (tf.up q g1).1, ?_⟩
          rcases hids q g1 i h1 with h3 | h3
          · exact (i16 q g1 (hl _ (hrec q g1).2) i h3).2
          · exact .inl (Nat.le_trans (tf.up q g1).2.2.1 h3)
        · exact ih (fun r' hr' => hM r' (by simp [hr'])) i C h2
    refine hQ ρ a w ⟨⟨fun i C hC => i2 i C (hH i C hC), fun i j C C' b hC hD => i3 i j C C' b (hH i C hC) (hH j C' hD), i4, fun i C hC => (hsub L (fun _ h => h) i C (hH i C hC)).1⟩, ?_, i9⟩ (by rw [hT]; exact i1)
    refine ⟨i7, i8, tf.s.1, tf.s.2, hD3, i10, i11, ?_, ?_, i12, i13, i14, i15⟩
    · intro j hj
      rcases hD1 j hj with h | ⟨r, h1, h2⟩
      · exact .inl h
      · exact .inr (i16 r h1 (hl _ (hrec r h1).2) j h2).2
    · intro j hj h
      obtain ⟨C, hC⟩ := Option.isSome_iff_exists.1 h
      rcases (hsub L (fun _ h => h) j C (hH j C hC)).2 with h1 | h1
      · omega
      · exact h1
  -- nothing ready: all made
  have hnone : ∀ (listed : Array Bool), listed.size = ops.size → Region.ready .any ops listed = [] → ∀ j, j < ops.size → listed.getD j false = true := by
    intro listed hz hr j
    induction j using Nat.strongRecOn with
    | _ j ih =>
      intro hj
      cases hb : listed.getD j false
      · exfalso
        have hm : j ∈ Region.ready .any ops listed := by
          rw [mem_ready]
          refine ⟨?_, ops[j], by simp [hj], fun e he hbd => ?_⟩
          · have hj' : j < listed.size := by omega
            simp [Array.getD, hj'] at hb ⊢
            exact hb
          · have := (hB j ops[j] (by simp [hj])).1 e he hbd
            exact ih e.on this (by omega)
        rw [hr] at hm
        cases hm
      · rfl
  intro fuel
  induction fuel with
  | zero =>
    intro listed ρ a w hz hc hcl hI
    obtain ⟨l, h1, h2⟩ := hc
    have hl : ∀ j, j < ops.size → listed.getD j false = true := by
      intro j hj
      cases hb : listed.getD j false
      · have := h2 j hj hb
        have hl0 : l = [] := List.eq_nil_of_length_eq_zero (by omega)
        rw [hl0] at this
        cases this
      · rfl
    refine ⟨?_, hend listed ρ a w hl hI⟩
    apply List.eq_nil_iff_forall_not_mem.2
    intro j hj
    rw [mem_ready] at hj
    obtain ⟨g1, o, g2, _⟩ := hj
    have hj' := (Array.getElem?_eq_some_iff.1 g2).1
    have := hl j hj'
    have hj2 : j < listed.size := by omega
    simp [Array.getD, hj2] at this g1
    rw [this] at g1
    cases g1
  | succ fuel ih =>
    intro listed ρ a w hz hc hcl hI
    refine ⟨fun hr => hend listed ρ a w (hnone listed hz hr) hI, ?_⟩
    intro k hk
    rw [mem_ready] at hk
    obtain ⟨g1, o, g2, g3⟩ := hk
    have hkz := (Array.getElem?_eq_some_iff.1 g2).1
    have hk2 : k < listed.size := by omega
    have hkf : listed.getD k false = false := by
      simp [Array.getD, hk2] at g1 ⊢
      exact g1
    obtain ⟨r, hr, rfl⟩ := hall k hkz
    obtain ⟨N, O, rfl⟩ := List.append_of_mem hr
    have hBk : ∀ j, (B.getD r.i 0).testBit j = true → listed.getD j false = true := by
      intro j hj
      obtain ⟨e, q1, q2, q3⟩ := (hB r.i o g2).2 j hj
      rcases q3 with rfl | q3
      · exact g3 e q1 q2
      · exact hcl _ _ (g3 e q1 q2) q3
    refine step_sf hE hcall hfn hup hB ht hcl hkf hBk hs0 hI hfree hfreec ?_
    intro ρ' c w' hf
    have hset := fun j => getD_set listed r.i j hk2
    have hI' := inv_step hup hB ht hcl hkf hI hf (Y := fun j => (listed.setIfInBounds r.i true).getD j false) hset
    refine ih _ ρ' _ w' (by simp [hz]) ?_ ?_ hI'
    · obtain ⟨l, h1, h2⟩ := hc
      refine ⟨l.erase r.i, ?_, fun j hj hb => ?_⟩
      · have := h2 r.i hkz hkf
        rw [List.length_erase_of_mem this]
        omega
      · rw [hset] at hb
        by_cases e : j = r.i
        · rw [if_pos e] at hb
          cases hb
        · rw [if_neg e] at hb
          exact (List.mem_erase_of_ne e).2 (h2 j hj hb)
    · intro i j h1 h2
      rw [hset] at h1 ⊢
      by_cases e : j = r.i
      · rw [if_pos e]
      · rw [if_neg e]
        by_cases e2 : i = r.i
        · rw [e2] at h2
          exact hBk j h2
        · rw [if_neg e2] at h1
          exact hcl i j h1 h2
theorem drawA_up {call : Call1} (hup : CallUp call) : DrawUp (drawA E call) := by
  intro ops t s t' s' h
  unfold drawA at h
  split at h
  · cases h
  · rename_i B hB
    split at h
    · rename_i D hD
      simp only [Option.some.injEq, Prod.mk.injEq] at h
      obtain ⟨rfl, rfl⟩ := h
      obtain ⟨L, hL, _⟩ := drawList_trace _ (Trace.nil (E := E) (call := call) (ops := ops) (B := B) (t := t) (s := s)) hD
      exact (trace_tf hup hL).s
    · cases h
theorem draw_ok (hE : EnvOK P V E) {call : Call1} (hcall : CallOK P V call) (hfn : CallFn E call) (hup : CallUp call) : DrawOK P V (drawA E call) := by
  intro ops t s t' s' h id ρ a w ht hr hf Q hQ
  unfold drawA at h
  split at h
  · cases h
  · rename_i B hB
    split at h
    · rename_i D hD
      simp only [Option.some.injEq, Prod.mk.injEq] at h
      obtain ⟨rfl, rfl⟩ := h
      obtain ⟨L, hL, _, hbits⟩ := drawList_trace _ (Trace.nil (E := E) (call := call) (ops := ops) (B := B) (t := t) (s := s)) hD
      have tf := trace_tf hup hL
      have hBl : B.length = ops.size := by
        have := beforeA_length _ _ _ _ hB
        simpa using this
      refine wp_region_any hE.mixed ?_
      refine any_ok hE hcall hfn hup (bok hB) hL (fun k hk => (tf.bits k).1 (hbits k (by simp [hk]) hk (by omega))) hr.lt (w0 := w) hf.b hf.c (fun ρ' a' w' hg h => hQ ρ' a' w' hg h) ops.size _ ρ a _ (by simp) ⟨List.range ops.size, by simp, fun j hj _ => by simp [hj]⟩ ?_ ?_
      · intro i j h
        by_cases hi : i < ops.size <;> simp [Array.getD, hi] at h
      · have e0 : ∀ M : List PR, only (fun j => (Array.replicate ops.size false).getD j false) M = [] := by
          intro M
          apply List.filter_eq_nil_iff.2
          intro r _
          by_cases hi : r.i < ops.size <;> simp [Array.getD, hi]
        have ef : ∀ j, (Array.replicate ops.size false).getD j false = false := by
          intro j
          by_cases hi : j < ops.size <;> simp [Array.getD, hi]
        refine ⟨by rw [e0]; exact ht, ?_, ?_, hr.bnd, fun i b hb => .inl hb, fun i b hb => .inl hb, fun _ _ => rfl, fun _ _ => rfl, Le.refl _, fun _ _ _ => rfl, ?_, rfl, rfl, rfl, Nat.le_refl _, fun r _ h => ?_, fun r _ h => ?_⟩
        · rw [e0]
          exact hr.h
        · rw [e0]
          exact hr.inj
        · intro i b h1 h2 h3
          rw [hf.b i h1 h2] at h3
          cases h3
        · have := ef r.i
          simp only [this] at h
          cases h
        · have := ef r.i
          simp only [this] at h
          cases h
    · cases h
theorem keep_none (n : Nat) (seen : List Nat) (i : Nat) (h1 : Nat.ble n i = true) (h2 : hasN seen i = false) : ∀ (H : List (Nat × Blk)), look (keep n seen H) i = none
  | [] => rfl
  | x :: r => by
    have ih := keep_none n seen i h1 h2 r
    simp only [keep]
    cases hb : Nat.ble n x.1
    · simp only [cond_false]
      rw [look_cons, if_neg (fun e => by rw [e, h1] at hb; cases hb)]
      exact ih
    · simp only [cond_true]
      cases hc : hasN seen x.1
      · exact ih
      · simp only [cond_true]
        rw [look_cons, if_neg (fun e => by rw [e, h2] at hc; cases hc)]
        exact ih
theorem keep_look (n : Nat) (seen : List Nat) : ∀ (H : List (Nat × Blk)) (i : Nat) (B : Blk), look (keep n seen H) i = some B → look H i = some B
  | [], i, B, h => h
  | x :: r, i, B, h => by
    simp only [keep] at h
    cases hb : Nat.ble n x.1
    · simp only [hb, cond_false] at h
      rw [look_cons] at h ⊢
      by_cases hx : x.1 = i
      · rw [if_pos hx] at h ⊢
        exact h
      · rw [if_neg hx] at h ⊢
        exact keep_look n seen r i B h
    · simp only [hb, cond_true] at h
      cases hc : hasN seen x.1
      · simp only [hc, cond_false] at h
        rw [look_cons]
        by_cases hx : x.1 = i
        · rw [← hx, keep_none n seen x.1 hb hc r] at h
          cases h
        · rw [if_neg hx]
          exact keep_look n seen r i B h
      · simp only [hc, cond_true] at h
        rw [look_cons] at h ⊢
        by_cases hx : x.1 = i
        · rw [if_pos hx] at h ⊢
          exact h
        · rw [if_neg hx] at h ⊢
          exact keep_look n seen r i B h
def lgetL : List AV → Nat → AV
  | [], _ => .undef
  | x :: _, 0 => x
  | _ :: r, n + 1 => lgetL r n
theorem padT_get : ∀ (l : List AV) (k : Nat) (t : Sq) (d : Nat), tget (padT l k t) d = if k ≤ d ∧ d < k + l.length then lgetL l (d - k) else tget t d
  | [], k, t, d => by
    rw [if_neg (by simp)]
    rfl
  | x :: l, k, t, d => by
    show tget (padT l (k + 1) (tset (k + 1) t k x)) d = _
    rw [padT_get l (k + 1) _ d, tget_tset x (k + 1) t k d (by omega)]
    simp only [List.length_cons]
    by_cases h1 : k + 1 ≤ d ∧ d < k + 1 + l.length
    · rw [if_pos h1, if_pos (by omega)]
      obtain ⟨m, rfl⟩ : ∃ m, d = k + 1 + m := ⟨d - (k + 1), by omega⟩
      rw [show k + 1 + m - (k + 1) = m by omega, show k + 1 + m - k = m + 1 by omega]
      rfl
    · rw [if_neg h1]
      by_cases h2 : d = k
      · rw [if_pos h2, if_pos (by omega), h2, Nat.sub_self]
        rfl
      · rw [if_neg h2, if_neg (by omega)]
theorem lgetL_far : ∀ (l : List AV) (d : Nat), l.length ≤ d → lgetL l d = .undef
  | [], _, _ => rfl
  | _ :: l, 0, h => by simp at h
  | _ :: l, d + 1, h => lgetL_far l d (by simpa using h)
theorem pad_look (n : Nat) (l : List AV) (d : Nat) (h : l.length ≤ n) : lget (pad n l) d = lgetL l d := by
  unfold lget pad
  simp only
  by_cases hd : d < n
  · rw [blt_yes hd]
    simp only [cond_true]
    rw [padT_get]
    by_cases hl : d < l.length
    · rw [if_pos (by omega), Nat.sub_zero]
    · rw [if_neg (by omega), lgetL_far l d (by omega)]
      rfl
  · rw [blt_no hd, lgetL_far l d (by omega)]
    rfl
theorem pad_length (n : Nat) (l : List AV) : (pad n l).length = n := rfl
theorem lget_F2 {ρ : Rho} : ∀ {l : List AV} {m : List Value}, F2 (VR V ρ) l m → ∀ d, VR V ρ (lgetL l d) (m.getD d undef)
  | [], [], _, d => by
    cases d <;> exact rfl
  | x :: l, y :: m, h, 0 => h.1
  | x :: l, y :: m, h, d + 1 => lget_F2 h.2 d
  | [], _ :: _, h, _ => h.elim
  | _ :: _, [], h, _ => h.elim
theorem a1_ok {ρ : Rho} {x : AV} {y : A1} {u : Value} (h : a1Of x = some y) (hx : VR V ρ x u) : V1R V ρ y u := by
  unfold a1Of at h
  split at h
  · injection h with h
    subst h
    exact hx
  · cases h
theorem results_ok (hE : EnvOK P V E) {t : Sl} {s : St} {ρ : Rho} {a : Act} {w : World} (ht : TR V ρ t a) (hr : Rep V ρ s w) : ∀ (l : List ResultVar) (rs : List A1), resultsA E t s l = some rs →
    ∃ vs : List Value, (l.mapM (fun | .tmp t => pure (a.tmps.getD t undef) | .cell c t => do loadVar t (← asAddr (a.tmps.getD c undef)) : ResultVar → Sem Value)).run P w = .ok vs w ∧ F2 (V1R V ρ) rs vs
  | [], rs, h => by
    simp only [resultsA, Option.some.injEq] at h
    subst h
    exact ⟨[], by simp, trivial⟩
  | x :: l, rs, h => by
    simp only [resultsA] at h
    split at h
    · rename_i y r h1 h2
      injection h with h
      subst h
      obtain ⟨vs, g1, g2⟩ := results_ok hE ht hr l r h2
      cases x with
      | tmp u =>
        refine ⟨a.tmps.getD u undef :: vs, ?_, a1_ok h1 (ht.v u), g2⟩
        rw [List.mapM_cons]
        simp only [Sem.run_bind, Sem.run_pure, Result.andThen_ok, g1]
      | cell c ty =>
        simp only [resultA] at h1
        split at h1
        · rename_i z hz
          injection h1 with h1
          subst h1
          obtain ⟨ad, v, k1, k2, k3⟩ := load_ok hE hz hr (ht.v c)
          refine ⟨v :: vs, ?_, k3, g2⟩
          have ha : (asAddr (a.tmps.getD c undef)).run P w = .ok ad w := by rw [k1]; rfl
          rw [List.mapM_cons]
          simp only [Sem.run_bind, ha, Sem.run_pure, Result.andThen_ok, k2, g1]
        · cases h1
    · cases h
theorem wrap_ok {ρ : Rho} {rs : List A1} {vs : List Value} (h : F2 (V1R V ρ) rs vs) : VR V ρ (wrapA rs) (if h : vs.toArray.size = 1 then vs.toArray[0] else .tuple vs.toArray) := by
  match rs, vs, h with
  | [], [], _ => exact ⟨#[], by simp, trivial⟩
  | [x], [v], h => exact h.1
  | x :: y :: l, v :: u :: m, h => exact ⟨(v :: u :: m).toArray, by simp, by simpa using h⟩
/-- The contracts that are given beside the program's code. -/
structure ExtOK (P : Program) (V : Nat → Value) (E : Env) : Prop where
  ok : CallOK P V E.ext
  up : CallUp E.ext
  fn : CallFn E E.ext
theorem fnA_fn (hx : CallFn E E.ext) : ∀ n, CallFn E (fnA E n)
  | 0 => fun f args s r h => by simp [fnA] at h
  | n + 1 => fun f args s r h => by
    simp only [fnA] at h
    split at h
    · rename_i r' hr'
      exact hx _ _ _ _ hr'
    split at h
    · cases h
    · rename_i fn hfn
      exact ⟨fn, hfn⟩
theorem tidy_up (n : Nat) (rs : List A1) (s : St) : (tidy n rs s).next = s.next ∧ (tidy n rs s).ncap = s.ncap := ⟨rfl, rfl⟩
theorem fnA_up (hx : CallUp E.ext) : ∀ n, CallUp (fnA E n)
  | 0 => fun f args s v s' h => by simp [fnA] at h
  | n + 1 => fun f args s v s' h => by
    simp only [fnA, Bool.cond_eq_ite] at h
    split at h
    · rename_i r' hr'
      simp only [Option.some.injEq] at h
      subst h
      exact hx _ _ _ _ _ hr'
    split at h
    · cases h
    · rename_i fn hfn
      split at h
      · cases h
      · rename_i c hc
        split at h
        · cases h
        · split at h
          · rename_i t' s1 h1
            have := codeA_up (fnA_up hx n) (drawA_up (fnA_up hx n)) _ _ h1
            split at h
            · simp only [Option.some.injEq, Prod.mk.injEq] at h
              obtain ⟨_, rfl⟩ := h
              exact this
            · cases h
          · rename_i t' s1 h1
            have := codeA_up (fnA_up hx n) (drawA_up (fnA_up hx n)) _ _ h1
            split at h
            · simp only [Option.some.injEq, Prod.mk.injEq] at h
              obtain ⟨_, rfl⟩ := h
              exact this
            · cases h
          · cases h
/-- A call's end: what is kept. -/
theorem tidy_ok {ρ ρ' : Rho} {s s1 : St} {w w' : World} (rs : List A1) (h : Goes V ρ { s with dirty := [] } w s1 w' ρ') : Goes V ρ s w { (tidy s.next rs s1) with dirty := (tidy s.next rs s1).dirty ++ s.dirty } w' ρ' := by
  obtain ⟨h1, h2, h3⟩ := h
  have hfl : ∀ i, i ∈ s1.dirty → i < s.next → i ∈ (tidy s.next rs s1).dirty ++ s.dirty := by
    intro i hi hl
    refine List.mem_append_left _ (List.mem_filter.2 ⟨hi, ?_⟩)
    exact Nat.ble_eq_true_of_le (show i + 1 ≤ s.next from hl)
  have hfl2 : ∀ i, i ∈ (tidy s.next rs s1).dirty → i ∈ s1.dirty := fun i hi => (List.mem_filter.1 hi).1
  refine ⟨⟨fun i B hB => h1.h i B (keep_look _ _ _ i B hB), fun i j B C b hB hC => h1.inj i j B C b (keep_look _ _ _ i B hB) (keep_look _ _ _ j C hC), h1.bnd, fun i B hB => h1.lt i B (keep_look _ _ _ i B hB)⟩, ⟨h2.blk, h2.cap, h2.n, h2.c, fun i hi => List.mem_append_right _ hi, fun b hb hd => h2.fr b hb (fun i hi hl => hd i (hfl i hi hl) hl), ?_, ?_, ?_, h2.os, h2.tape, h2.out, h2.size⟩, h3⟩
  · intro i b g1 g2 g3
    rcases h2.new i b g1 g2 g3 with g4 | ⟨j, g4, g5, g6⟩
    · exact .inl g4
    · exact .inr ⟨j, hfl j g4 g5, g5, g6⟩
  · intro j hj
    rcases List.mem_append.1 hj with hj | hj
    · rcases h2.own j (hfl2 j hj) with g | g
      · cases g
      · exact .inr g
    · exact .inl hj
  · intro j hj g
    obtain ⟨C, hC⟩ := Option.isSome_iff_exists.1 g
    exact h2.sub j hj (by rw [keep_look _ _ _ j C hC]; rfl)
theorem fnA_ok (hE : EnvOK P V E) (hx : ExtOK P V E) : ∀ n, CallOK P V (fnA E n)
  | 0 => fun f args s v s' h => by simp [fnA] at h
  | n + 1 => by
    have ih := fnA_ok hE hx n
    intro f args s v s' h ρ w vals hargs hr hf
    have hup := fnA_up (E := E) hx.up n
    simp only [fnA, Bool.cond_eq_ite] at h
    split at h
    · rename_i r' hr'
      simp only [Option.some.injEq] at h
      subst h
      exact hx.ok _ _ _ _ _ hr' ρ w vals hargs hr hf
    split at h
    · cases h
    · rename_i fn hfn
      obtain ⟨hF, _⟩ := hE.fn f fn hfn
      split at h
      · cases h
      · rename_i c hc
        split at h
        · cases h
        · rename_i hle
          have hle : args.length ≤ fn.ntmps := by
            cases hb : Nat.ble args.length fn.ntmps
            · simp [hb] at hle
            · exact Nat.le_of_ble_eq_true hb
          have hvl : vals.size = args.length := by rw [← Array.length_toList, ← hargs.length]
          have ht : TR V ρ (pad fn.ntmps args) { tmps := vals ++ Array.replicate (fn.ntmps - vals.size) undef, defers := [] } := by
            refine ⟨by rw [pad_length]; simp; omega, fun d => ?_, rfl⟩
            rw [pad_look _ _ _ hle]
            have h1 := lget_F2 hargs d
            have h2 : (vals ++ Array.replicate (fn.ntmps - vals.size) undef).getD d undef = vals.toList.getD d undef := by
              simp only [Array.getD_eq_getD_getElem?, List.getD_eq_getElem?_getD, Array.getElem?_append, Array.getElem?_toList]
              by_cases hd : d < vals.size
              · rw [if_pos hd]
              · rw [if_neg hd, Array.getElem?_eq_none (by omega : vals.size ≤ d), Array.getElem?_replicate]
                split <;> rfl
            show VR V ρ _ ((vals ++ Array.replicate (fn.ntmps - vals.size) undef).getD d undef)
            rw [h2]
            exact h1
          have hr0 : Rep V ρ { s with dirty := [] } w := ⟨hr.h, hr.inj, hr.bnd, hr.lt⟩
          have fin : ∀ (e : AE) (t' : Sl) (s1 : St) (rs : List A1), codeA E (fnA E n) (drawA E (fnA E n)) 100000 c (pad fn.ntmps args) { s with dirty := [] } = some (e, t', s1) → (e = .normal ∨ e = .ret) → resultsA E t' s1 fn.results.toList = some rs →
              v = wrapA rs → s' = { (tidy s.next rs s1) with dirty := (tidy s.next rs s1).dirty ++ s.dirty } → Calls P f vals w fun e w' => ∃ c ρ', e = .returned c ∧ Goes V ρ s w s' w' ρ' ∧ VR V ρ' v c := by
            intro e t' s1 rs h1 he h2 hv hs
            subst hv
            subst hs
            refine calls_of_wp hF hc ?_
            refine (code_ok hE ih (fnA_fn hx.fn n) hup (draw_ok hE ih (fnA_fn hx.fn n) hup) (drawA_up hup) 100000).1 c h1 ht hr0 ⟨hf.b, hf.c⟩ _ ?_
            intro ρ' a' w' hg ht'
            obtain ⟨vs, g1, g2⟩ := results_ok hE ht' hg.1 _ _ h2
            have hres : (results fn a'.tmps).run P w' = .ok (if h : vs.toArray.size = 1 then vs.toArray[0] else .tuple vs.toArray) w' := by
              unfold results
              rw [Array.mapM_eq_mapM_toList]
              simp only [Sem.run_bind, Sem.run_map, Sem.run_pure]
              generalize hX : Sem.run P (List.mapM _ fn.results.toList) w' = Y
              have hY : Y = .ok vs w' := hX.symm.trans g1
              rw [hY]
              simp only [Result.andThen_ok]
            have : bodyPost P fn (fun e w' => ∃ c ρ', e = .returned c ∧ Goes V ρ s w { (tidy s.next rs s1) with dirty := (tidy s.next rs s1).dirty ++ s.dirty } w' ρ' ∧ VR V ρ' (wrapA rs) c) (AEx e) a' w' := by
              rcases he with rfl | rfl
              · exact ⟨ht'.df, _, hres, _, ρ', rfl, tidy_ok rs hg, wrap_ok g2⟩
              · exact ⟨ht'.df, _, hres, _, ρ', rfl, tidy_ok rs hg, wrap_ok g2⟩
            exact this
          split at h
          · rename_i t' s1 h1
            split at h
            · rename_i rs h2
              simp only [Option.some.injEq, Prod.mk.injEq] at h
              exact fin _ _ _ rs h1 (.inl rfl) h2 h.1.symm h.2.symm
            · cases h
          · rename_i t' s1 h1
            split at h
            · rename_i rs h2
              simp only [Option.some.injEq, Prod.mk.injEq] at h
              exact fin _ _ _ rs h1 (.inr rfl) h2 h.1.symm h.2.symm
            · cases h
          · cases h
/-- No contracts. -/
def noExt : Nat → List AV → St → Option (AV × St) := fun _ _ _ => none
theorem noExt_ok (h : E.ext = noExt) : ExtOK P V E := ⟨fun f args s v s' k => (by rw [h] at k; cases k), fun f args s v s' k => (by rw [h] at k; cases k), fun f args s r k => (by rw [h] at k; cases k)⟩
def ρ0 : Rho := ⟨fun _ => none, fun _ => none⟩
def st0 : St := ⟨[], 0, 0, []⟩
theorem rep0 (w : World) : Rep V ρ0 st0 w := ⟨fun i B h => (by cases h), fun i j B C b h => (by cases h), fun i b h => (by cases h), fun i B h => (by cases h)⟩
theorem goes_below {ρ' : Rho} {s' : St} {w w' : World} (h : Goes V ρ0 st0 w s' w' ρ') : RowKit.Below w.heap.size w w' :=
  ⟨h.2.1.os, h.2.1.tape, h.2.1.out, h.2.1.size, fun k hk => h.2.1.fr k hk (fun i _ hl => absurd hl (Nat.not_lt_zero _))⟩
/-- A run from nothing that yields true. -/
def isTrue : Option (AV × St) → Bool
  | some (.one (.c (.bool true)), _) => true
  | _ => false
theorem run_true (hE : EnvOK P V E) (hx : ExtOK P V E) {n f : Nat} {args : List AV} {vals : Array Value} (h : isTrue (fnA E n f args st0) = true) (hargs : F2 (VR V ρ0) args vals.toList) (w : World) :
    Calls P f vals w fun e w' => e = .returned (.bool true) ∧ RowKit.Below w.heap.size w w' := by
  unfold isTrue at h
  split at h
  · rename_i s' hr
    refine (fnA_ok hE hx n f args st0 _ s' hr ρ0 w vals hargs (rep0 w) ⟨fun _ _ _ => rfl, fun _ _ _ => rfl⟩).mono ?_
    rintro e w' ⟨c, ρ', rfl, hg, hv⟩
    have hv : c = .bool true := hv
    subst hv
    exact ⟨rfl, goes_below hg⟩
  · cases h
end
end Ab
end Go.Proofs.Ytddiclnkfhldlaa
