/-
  Code with several outcomes: unknown booleans branch both ways, numbers of a range are told apart where a table says so; contracts by such runs.
  Conditions: none.
-/
import Derived.Test.YtbfppnppijcnlaaGreatChL
import Derived.Test.YtbfppnppijcnlaaGreatAbsKp
namespace Go.Proofs.YtbfppnppijcnlaaGreat
namespace Ab
open Go.RowKit
set_option linter.unusedVariables false
set_option linter.unusedSimpArgs false
/-- A slot that holds a number from 0 to m - 1, told apart. -/
noncomputable def splitN (d : Nat) (t : Sl) : Option (List Sl) :=
  match lget t d with
  | .one (.c (.rng m)) => some ((List.range m).map fun (r : Nat) => lset t d (.one (.c (.int .i64 r))))
  | .one (.c .bo) => some [lset t d (.one (.c (.bool true))), lset t d (.one (.c (.bool false)))]
  | .one (.c (.nat _ m)) => some ((List.range m).map fun (r : Nat) => lset t d (.one (.c (.int .i64 r))))
  | _ => none
noncomputable def codeM (E : Env) (sp : Nat → Option Nat) : Nat → Code → Sl → St → Option (List (AE × Sl × St))
  | 0, _, _, _ => none
  | n + 1, c, t, s => match c with
    | .seq a b => match codeM E sp n a t s with
      | some l => joinAll (l.map fun x => match x with
        | (.normal, t', s') => codeM E sp n b t' s'
        | (e, t', s') => some [(e, t', s')])
      | none => none
    | .cond c a b => match eval t c with
      | .one (.c (.bool true)) => codeM E sp n a t s
      | .one (.c (.bool false)) => codeM E sp n b t s
      | .one (.c .bo) => match codeM E sp n a t s, codeM E sp n b t s with
        | some l, some m => some (l ++ m)
        | _, _ => none
      | _ => none
    | .block id b => match codeM E sp n b t s with
      | some l => some (l.map fun x => match x with
        | (.exit j, t', s') => if j = id then (.normal, t', s') else (.exit j, t', s')
        | y => y)
      | none => none
    | .loop b => match codeM E sp n b t s with
      | some l => joinAll (l.map fun x => match x with
        | (.normal, t', s') => codeM E sp n (.loop b) t' s'
        | (e, t', s') => some [(e, t', s')])
      | none => none
    | .region id ops d => match codeA E (fnA E 30) (drawA E (fnA E 30)) 3 (.region id ops d) t s with
      | some (.normal, t', s') => (match sp id with
        | none => some [(.normal, t', s')]
        | some d => match splitN d t' with
          | some l => some (l.map fun u => (.normal, u, s'))
          | none => none)
      | _ => none
    | c => match codeA E (fnA E 30) (drawA E (fnA E 30)) 3 c t s with
      | some r => some [r]
      | none => none
/-- No number from the next on is taken. -/
structure Clean (ρ : Rho) (s : St) : Prop where
  b : ∀ i, s.next ≤ i → ρ.blk i = none
  c : ∀ i, s.ncap ≤ i → ρ.cap i = none
theorem Clean.free {ρ : Rho} {s : St} (h : Clean ρ s) (s' : St) : Free ρ s s' := ⟨fun i hi _ => h.b i hi, fun i hi _ => h.c i hi⟩
theorem Clean.goes {V : Nat → Value} {ρ ρ' : Rho} {s s' : St} {w w' : World} (h : Clean ρ s) (g : Goes V ρ s w s' w' ρ') : Clean ρ' s' :=
  ⟨fun i hi => by rw [g.2.1.blk i (.inr hi)]; exact h.b i (Nat.le_trans g.2.1.n hi), fun i hi => by rw [g.2.1.cap i (.inr hi)]; exact h.c i (Nat.le_trans g.2.1.c hi)⟩
section
variable {P : Program} {V : Nat → Value} {E : Env}
theorem lset_get (t : Sl) (d : Nat) (v : AV) (e : Nat) : lget (lset t d v) e = if e = d ∧ d < t.length then v else lget t e := by
  exact lget_lset t d v e
theorem split_ok {ρ : Rho} {d : Nat} {t : Sl} {l : List Sl} (h : splitN d t = some l) {a : Act} (ht : TR V ρ t a) : ∃ u ∈ l, TR V ρ u a := by
  unfold splitN at h
  split at h
  · rename_i m hm
    injection h with h
    have hv := ht.v d
    rw [hm] at hv
    obtain ⟨r, hr, hv⟩ := hv
    refine ⟨lset t d (.one (.c (.int .i64 r))), by rw [← h]; exact List.mem_map.2 ⟨r, List.mem_range.2 hr, rfl⟩, ⟨?_, fun e => ?_, ht.df⟩⟩
    · rw [lset_length]
      exact ht.z
    · rw [lset_get]
      by_cases he : e = d ∧ d < t.length
      · rw [if_pos he, he.1]
        exact hv
      · rw [if_neg he]
        exact ht.v e
  · rename_i hm
    injection h with h
    have hv := ht.v d
    rw [hm] at hv
    obtain ⟨r, hv⟩ := hv
    refine ⟨lset t d (.one (.c (.bool r))), by rw [← h]; cases r <;> simp, ⟨?_, fun e => ?_, ht.df⟩⟩
    · rw [lset_length]
      exact ht.z
    · rw [lset_get]
      by_cases he : e = d ∧ d < t.length
      · rw [if_pos he, he.1]
        exact hv
      · rw [if_neg he]
        exact ht.v e
  · rename_i c m hm
    injection h with h
    have hv := ht.v d
    rw [hm] at hv
    obtain ⟨r, _, hr, hv⟩ := hv
    refine ⟨lset t d (.one (.c (.int .i64 r))), by rw [← h]; exact List.mem_map.2 ⟨r, List.mem_range.2 hr, rfl⟩, ⟨?_, fun e => ?_, ht.df⟩⟩
    · rw [lset_length]
      exact ht.z
    · rw [lset_get]
      by_cases he : e = d ∧ d < t.length
      · rw [if_pos he, he.1]
        exact hv
      · rw [if_neg he]
        exact ht.v e
  · cases h
noncomputable def AfterM (V : Nat → Value) (ρ : Rho) (s : St) (w : World) (out : List (AE × Sl × St)) (Q : Exit → Act → World → Prop) : Prop :=
  ∀ x ∈ out, ∀ ρ' a' w', Goes V ρ s w x.2.2 w' ρ' → TR V ρ' x.2.1 a' → Q (AEx x.1) a' w'
theorem codeM_ok (hE : EnvOK P V E) (hx : ExtOK P V E) {sp : Nat → Option Nat} : ∀ (n : Nat),
    (∀ (c : Code) {t : Sl} {s : St} {out : List (AE × Sl × St)}, codeM E sp n c t s = some out → ∀ {ρ : Rho} {a : Act} {w : World}, TR V ρ t a → Rep V ρ s w → Clean ρ s → ∀ Q, AfterM V ρ s w out Q → c.wp P Q a w) ∧
    (∀ (c : Code) {t : Sl} {s : St} {out : List (AE × Sl × St)}, codeM E sp n (.loop c) t s = some out → ∀ {ρ : Rho} {a : Act} {w : World}, TR V ρ t a → Rep V ρ s w → Clean ρ s → ∀ Q, AfterM V ρ s w out Q → LoopWp P c Q a w)
  | 0 => ⟨fun c _ _ _ h => by simp [codeM] at h, fun c _ _ _ h => by simp [codeM] at h⟩
  | n + 1 => by
    obtain ⟨ih1, ih2⟩ := codeM_ok hE hx (sp := sp) n
    have hc := fnA_ok hE hx 30
    have hf := fnA_fn (E := E) hx.fn 30
    have hu := fnA_up (E := E) hx.up 30
    have det : ∀ (m : Nat) (c : Code) {t t' : Sl} {s s' : St} {e : AE}, codeA E (fnA E 30) (drawA E (fnA E 30)) m c t s = some (e, t', s') → ∀ {ρ : Rho} {a : Act} {w : World}, TR V ρ t a → Rep V ρ s w → Clean ρ s → ∀ Q : Exit → Act → World → Prop, (∀ ρ' a' w', Goes V ρ s w s' w' ρ' → TR V ρ' t' a' → Q (AEx e) a' w') → c.wp P Q a w := by
      intro m c t t' s s' e h ρ a w ht hr hcl Q hQ
      exact (code_ok hE hc hf hu (draw_ok hE hc hf hu) (drawA_up hu) m).1 c h ht hr (hcl.free _) Q hQ
    have hloop : ∀ (c : Code) {t : Sl} {s : St} {out : List (AE × Sl × St)}, codeM E sp (n + 1) (.loop c) t s = some out → ∀ {ρ : Rho} {a : Act} {w : World}, TR V ρ t a → Rep V ρ s w → Clean ρ s → ∀ Q, AfterM V ρ s w out Q → LoopWp P c Q a w := by
      intro c t s out h ρ a w ht hr hcl Q hQ
      simp only [codeM] at h
      refine loop_one ?_
      split at h
      · rename_i l hl
        refine ih1 c hl ht hr hcl _ (fun x hx ρ1 a1 w1 hg ht1 => ?_)
        obtain ⟨k, q1, q2⟩ := joinAll_ok h _ (List.mem_map.2 ⟨x, hx, rfl⟩)
        obtain ⟨e, t', s'⟩ := x
        cases e with
        | normal => exact ih2 c q1 ht1 hg.1 (hcl.goes hg) Q (fun z hz ρ2 a2 w2 hg2 ht2 => hQ z (q2 z hz) ρ2 a2 w2 (hg.trans V hg2) ht2)
        | ret =>
          simp only [Option.some.injEq] at q1
          exact hQ (.ret, t', s') (q2 _ (by rw [← q1]; simp)) ρ1 a1 w1 hg ht1
        | exit id =>
          simp only [Option.some.injEq] at q1
          exact hQ (.exit id, t', s') (q2 _ (by rw [← q1]; simp)) ρ1 a1 w1 hg ht1
      · cases h
    refine ⟨?_, hloop⟩
    intro c t s out h ρ a w ht hr hcl Q hQ
    have other : (∀ {t : Sl} {s : St} {out : List (AE × Sl × St)}, (match codeA E (fnA E 30) (drawA E (fnA E 30)) 3 c t s with | some r => some [r] | none => none) = some out → ∀ {ρ : Rho} {a : Act} {w : World}, TR V ρ t a → Rep V ρ s w → Clean ρ s → ∀ Q, AfterM V ρ s w out Q → c.wp P Q a w) := by
      intro t s out h ρ a w ht hr hcl Q hQ
      split at h
      · rename_i r hr'
        injection h with h
        subst h
        obtain ⟨e, t', s'⟩ := r
        exact det 3 c hr' ht hr hcl Q (fun ρ' a' w' g k => hQ (e, t', s') (by simp) ρ' a' w' g k)
      · cases h
    cases c with
    | seq x y =>
      simp only [codeM] at h
      refine wp_seq ?_
      split at h
      · rename_i l hl
        refine ih1 x hl ht hr hcl _ (fun z hz ρ1 a1 w1 hg ht1 => ?_)
        obtain ⟨k, q1, q2⟩ := joinAll_ok h _ (List.mem_map.2 ⟨z, hz, rfl⟩)
        obtain ⟨e, t', s'⟩ := z
        cases e with
        | normal => exact ih1 y q1 ht1 hg.1 (hcl.goes hg) Q (fun z hz ρ2 a2 w2 hg2 ht2 => hQ z (q2 z hz) ρ2 a2 w2 (hg.trans V hg2) ht2)
        | ret =>
          simp only [Option.some.injEq] at q1
          exact hQ (.ret, t', s') (q2 _ (by rw [← q1]; simp)) ρ1 a1 w1 hg ht1
        | exit id =>
          simp only [Option.some.injEq] at q1
          exact hQ (.exit id, t', s') (q2 _ (by rw [← q1]; simp)) ρ1 a1 w1 hg ht1
      · cases h
    | cond b x y =>
      simp only [codeM] at h
      have hv := eval_ok ht b
      split at h
      · rename_i he
        rw [he] at hv
        exact wp_cond (show a.eval b = .bool true from hv) (ih1 x h ht hr hcl Q hQ)
      · rename_i he
        rw [he] at hv
        exact wp_cond (show a.eval b = .bool false from hv) (ih1 y h ht hr hcl Q hQ)
      · rename_i he
        rw [he] at hv
        obtain ⟨k, hv⟩ := hv
        split at h
        · rename_i l m hl hm
          injection h with h
          subst h
          refine wp_cond hv ?_
          cases k
          · exact ih1 y hm ht hr hcl Q (fun z hz => hQ z (List.mem_append_right _ hz))
          · exact ih1 x hl ht hr hcl Q (fun z hz => hQ z (List.mem_append_left _ hz))
        · cases h
      · cases h
    | block id b =>
      simp only [codeM] at h
      refine wp_block ?_
      split at h
      · rename_i l hl
        injection h with h
        subst h
        refine ih1 b hl ht hr hcl _ (fun p hp ρ1 a1 w1 hg ht1 => ?_)
        have hq := hQ _ (List.mem_map.2 ⟨p, hp, rfl⟩) ρ1 a1 w1
        obtain ⟨e, t', s'⟩ := p
        cases e with
        | normal => exact hq hg ht1
        | ret => exact hq hg ht1
        | exit j =>
          show (if j = id then _ else _)
          by_cases hj : j = id
          · rw [if_pos hj]
            simp only [if_pos hj] at hq
            exact hq hg ht1
          · rw [if_neg hj]
            simp only [if_neg hj] at hq
            exact hq hg ht1
      · cases h
    | loop b => exact wp_of_loop (hloop b h ht hr hcl Q hQ)
    | region id ops d =>
      simp only [codeM] at h
      split at h
      · rename_i t' s' hr'
        refine det 3 _ hr' ht hr hcl Q (fun ρ' a' w' g k => ?_)
        split at h
        · injection h with h
          subst h
          exact hQ (.normal, t', s') (by simp) ρ' a' w' g k
        · split at h
          · rename_i l hl
            injection h with h
            subst h
            obtain ⟨u, hu1, hu2⟩ := split_ok hl k
            exact hQ (.normal, u, s') (List.mem_map.2 ⟨u, hu1, rfl⟩) ρ' a' w' g hu2
          · cases h
      · cases h
    | _ =>
      simp only [codeM] at h
      exact other h ht hr hcl Q hQ
end
/-- A call's outcomes. -/
noncomputable def runM (E : Env) (sp : Nat → Option Nat) (n f : Nat) (args : List AV) (s : St) : Option (List (AV × St)) :=
  match E.fn f with
  | none => none
  | some fn => match fn.body with
    | none => none
    | some c =>
      bif !(Nat.ble args.length fn.ntmps) then none else
      match codeM E sp n c (pad fn.ntmps args) { s with dirty := [] } with
      | none => none
      | some l => joinAll (l.map fun x => match x.1 with
        | .exit _ => none
        | _ => match resultsA E x.2.1 x.2.2 fn.results.toList with
          | some rs => some [(wrapA rs, tidy s.next rs x.2.2)]
          | none => none)
section
variable {P : Program} {V : Nat → Value} {E : Env}
theorem runM_ok (hE : EnvOK P V E) (hx : ExtOK P V E) {sp : Nat → Option Nat} {n f : Nat} {args : List AV} {s : St} {out : List (AV × St)} (h : runM E sp n f args s = some out) (hd : s.dirty = []) {ρ : Rho} {w : World} {vals : Array Value} (hargs : F2 (VR V ρ) args vals.toList) (hr : Rep V ρ s w) (hcl : Clean ρ s) :
    Calls P f vals w fun e w' => ∃ x ∈ out, ∃ c ρ', e = .returned c ∧ Goes V ρ s w x.2 w' ρ' ∧ VR V ρ' x.1 c := by
  unfold runM at h
  split at h
  · cases h
  · rename_i fn hfn
    obtain ⟨hF, _⟩ := hE.fn f fn hfn
    split at h
    · cases h
    · rename_i c hc
      cases hle : Nat.ble args.length fn.ntmps
      · simp [hle] at h
      · simp only [hle, Bool.not_true, cond_false] at h
        have hle := Nat.le_of_ble_eq_true hle
        split at h
        · cases h
        · rename_i l hl
          have hvl : vals.size = args.length := by rw [← Array.length_toList, ← hargs.length]
          have ht : TR V ρ (pad fn.ntmps args) { tmps := vals ++ Array.replicate (fn.ntmps - vals.size) undef, defers := [] } := by
            refine ⟨by rw [pad_length]; simp; omega, fun d => ?_, rfl⟩
            rw [pad_look _ _ _ hle]
            have h1 := lget_F2 hargs d
            have h2 : (vals ++ Array.replicate (fn.ntmps - vals.size) undef).getD d undef = vals.toList.getD d undef := by
              simp only [Array.getD_eq_getD_getElem?, List.getD_eq_getElem?_getD, Array.getElem?_append, Array.getElem?_toList]
              by_cases hd : d < vals.size
              · rw [if_pos hd]
              · rw [if_neg hd, Array.getElem?_eq_none (by omega : vals.size ≤ d), Array.getElem?_replicate]
                split <;> rfl
            show VR V ρ _ ((vals ++ Array.replicate (fn.ntmps - vals.size) undef).getD d undef)
            rw [h2]
            exact h1
          have hr0 : Rep V ρ { s with dirty := [] } w := ⟨hr.h, hr.inj, hr.bnd, hr.lt⟩
          refine calls_of_wp hF hc ?_
          refine (codeM_ok hE hx n).1 c hl ht hr0 ⟨hcl.b, hcl.c⟩ _ ?_
          intro x hxm ρ' a' w' hg ht'
          obtain ⟨k, q1, q2⟩ := joinAll_ok h _ (List.mem_map.2 ⟨x, hxm, rfl⟩)
          obtain ⟨e, t', s1⟩ := x
          have fin : ∀ rs, resultsA E t' s1 fn.results.toList = some rs → (wrapA rs, tidy s.next rs s1) ∈ out → (e = .normal ∨ e = .ret) → bodyPost P fn (fun e w' => ∃ x ∈ out, ∃ c ρ', e = .returned c ∧ Goes V ρ s w x.2 w' ρ' ∧ VR V ρ' x.1 c) (AEx e) a' w' := by
            intro rs h2 hm he
            obtain ⟨vs, g1, g2⟩ := results_ok hE ht' hg.1 _ _ h2
            have hres : (results fn a'.tmps).run P w' = .ok (if h : vs.toArray.size = 1 then vs.toArray[0] else .tuple vs.toArray) w' := by
              unfold results
              rw [Array.mapM_eq_mapM_toList]
              simp only [Sem.run_bind, Sem.run_map, Sem.run_pure]
              generalize hX : Sem.run P (List.mapM _ fn.results.toList) w' = Y
              have hY : Y = .ok vs w' := hX.symm.trans g1
              rw [hY]
              simp only [Result.andThen_ok]
            have hgo := tidy_ok rs hg
            rw [hd, List.append_nil] at hgo
            rcases he with rfl | rfl
            · exact ⟨ht'.df, _, hres, _, hm, _, ρ', rfl, hgo, wrap_ok g2⟩
            · exact ⟨ht'.df, _, hres, _, hm, _, ρ', rfl, hgo, wrap_ok g2⟩
          cases e with
          | exit id => cases q1
          | normal =>
            simp only at q1
            split at q1
            · rename_i rs h2
              injection q1 with q1
              exact fin rs h2 (q2 _ (by rw [← q1]; simp)) (.inl rfl)
            · cases q1
          | ret =>
            simp only at q1
            split at q1
            · rename_i rs h2
              injection q1 with q1
              exact fin rs h2 (q2 _ (by rw [← q1]; simp)) (.inr rfl)
            · cases q1
/-- A state told anew. -/
theorem rep_ren (hone : ∀ i, (V i).oneCell' = true) {ρ : Rho} {s r : St} {w : World} {f fc : List (Nat × Nat)} (h3 : subH f fc s.heap r.heap = true) (h4 : noDup (f.map (·.2)) = true) (h6 : allLt r.next f = true) (h7 : allLt r.ncap fc = true) (hr : Rep V ρ s w) : Rep V (ρ.ren f fc) r w ∧ Clean (ρ.ren f fc) r := by
  have hlt : ∀ j i, lkN f j = some i → j < r.next := fun j i hj => allLt_ok h6 _ (lkN_mem hj)
  have hltc : ∀ j i, lkN fc j = some i → j < r.ncap := fun j i hj => allLt_ok h7 _ (lkN_mem hj)
  have hblk : ∀ j b, (ρ.ren f fc).blk j = some b → ∃ i, lkN f j = some i ∧ ρ.blk i = some b := by
    intro j b hb
    have hb : (lkN f j).bind ρ.blk = some b := hb
    cases hj : lkN f j with
    | none => rw [hj] at hb; cases hb
    | some i => rw [hj] at hb; exact ⟨i, rfl, hb⟩
  refine ⟨⟨?_, ?_, ?_, ?_⟩, ?_, ?_⟩
  · intro j C hC
    obtain ⟨i, B, k1, k2, k3, k4, k5⟩ := subH_ok h3 j C hC
    obtain ⟨b, cs, q1, q2, pre, post, q3, q4, q5⟩ := hr.h i B k2
    refine ⟨b, cs, by show (lkN f j).bind ρ.blk = some b; rw [k1]; exact q1, by rw [← k3]; exact q2, pre, post, q3, subL_ok hone k4 q4, ?_⟩
    unfold subM at k5
    unfold MR at q5 ⊢
    split at k5
    · rename_i hm1 hm2
      rw [hm1] at q5
      rw [hm2]
      exact q5
    · rename_i c z d y hm1 hm2
      rw [hm1] at q5
      rw [hm2]
      simp only [Bool.and_eq_true] at k5
      have e1 := Nat.eq_of_beq_eq_true k5.1
      subst e1
      by_cases hz : z = 0
      · subst hz
        have e2 := Nat.eq_of_beq_eq_true (show Nat.beq c d = true from k5.2)
        subst e2
        simp only [if_pos] at q5 ⊢
        obtain ⟨p1, p2⟩ := q5
        rw [p1] at k4
        refine ⟨?_, p2⟩
        cases hC' : C.cells with
        | nil => rfl
        | cons _ _ => rw [hC'] at k4; cases k4
      · simp only [beq_no hz, cond_false] at k5
        have e2 := isN_eq k5.2
        simp only [if_neg hz] at q5 ⊢
        obtain ⟨m, p1, p2⟩ := q5
        exact ⟨m, by show (lkN fc d).bind ρ.cap = some m; rw [e2]; exact p1, p2⟩
    · cases k5
  · intro i j C D b hC hD hi hj
    obtain ⟨i', B, k1, k2, _⟩ := subH_ok h3 i C hC
    obtain ⟨j', B', k1', k2', _⟩ := subH_ok h3 j D hD
    obtain ⟨i2, e1, e2⟩ := hblk i b hi
    obtain ⟨j2, e3, e4⟩ := hblk j b hj
    rw [k1] at e1
    rw [k1'] at e3
    injection e1 with e1
    injection e3 with e3
    subst e1
    subst e3
    have := hr.inj i' j' B B' b k2 k2' e2 e4
    subst this
    exact noDup_inj h4 i j i' (lkN_mem k1) (lkN_mem k1')
  · intro j b hb
    obtain ⟨i, _, e⟩ := hblk j b hb
    exact hr.bnd i b e
  · intro j C hC
    obtain ⟨i, B, k1, _⟩ := subH_ok h3 j C hC
    exact hlt j i k1
  · intro j hj
    cases hb : (ρ.ren f fc).blk j with
    | none => rfl
    | some b =>
      obtain ⟨i, e, _⟩ := hblk j b hb
      have := hlt j i e
      omega
  · intro j hj
    show (lkN fc j).bind ρ.cap = none
    cases hb : lkN fc j with
    | none => rfl
    | some i =>
      have := hltc j i hb
      omega
/-- One value's cells against another's; results of several values too. -/
noncomputable def subX (f fc : List (Nat × Nat)) : AV → AV → Bool
  | .tup l, .tup m => sub1L f fc l m
  | x, y => subV f fc x y
where
  sub1L (f fc : List (Nat × Nat)) : List A1 → List A1 → Bool
    | [], [] => true
    | x :: r, y :: s => sub1 f fc x y && sub1L f fc r s
    | _, _ => false
theorem sub1_ok' (hone : ∀ i, (V i).oneCell' = true) {ρ : Rho} {f fc : List (Nat × Nat)} {x y : A1} {v : Value} (h : sub1 f fc x y = true) (hx : V1R V ρ x v) : V1R V (ρ.ren f fc) y v := by
  have := subV_ok (V := V) hone (ρ := ρ) (f := f) (fc := fc) (x := .one x) (y := .one y) (v := v) h hx
  exact this
theorem sub1L_ok (hone : ∀ i, (V i).oneCell' = true) {ρ : Rho} {f fc : List (Nat × Nat)} : ∀ {l m : List A1} {vs : List Value}, subX.sub1L f fc l m = true → F2 (V1R V ρ) l vs → F2 (V1R V (ρ.ren f fc)) m vs
  | [], [], [], _, _ => trivial
  | x :: r, y :: s, v :: vs, h, hx => by
    simp only [subX.sub1L, Bool.and_eq_true] at h
    exact ⟨sub1_ok' hone h.1 hx.1, sub1L_ok hone h.2 hx.2⟩
  | [], _ :: _, _, h, _ => by cases h
  | _ :: _, [], _, h, _ => by cases h
  | [], [], _ :: _, _, h => h.elim
  | _ :: _, _ :: _, [], _, h => h.elim
theorem subX_ok (hone : ∀ i, (V i).oneCell' = true) {ρ : Rho} {f fc : List (Nat × Nat)} {x y : AV} {v : Value} (h : subX f fc x y = true) (hx : VR V ρ x v) : VR V (ρ.ren f fc) y v := by
  unfold subX at h
  split at h
  · obtain ⟨vs, h1, h2⟩ := hx
    exact ⟨vs, h1, sub1L_ok hone h h2⟩
  · exact subV_ok hone h hx
noncomputable def subA (f fc : List (Nat × Nat)) : List AV → List AV → Bool
  | [], [] => true
  | x :: r, y :: s => subX f fc x y && subA f fc r s
  | _, _ => false
theorem subA_ok (hone : ∀ i, (V i).oneCell' = true) {ρ : Rho} {f fc : List (Nat × Nat)} : ∀ {l m : List AV} {vs : List Value}, subA f fc l m = true → F2 (VR V ρ) l vs → F2 (VR V (ρ.ren f fc)) m vs
  | [], [], [], _, _ => trivial
  | x :: r, y :: s, v :: vs, h, hx => by
    simp only [subA, Bool.and_eq_true] at h
    exact ⟨subX_ok hone h.1 hx.1, subA_ok hone h.2 hx.2⟩
  | [], _ :: _, _, h, _ => by cases h
  | _ :: _, [], _, h, _ => by cases h
  | [], [], _ :: _, _, h => h.elim
  | _ :: _, _ :: _, [], _, h => h.elim
theorem ren_nil (ρ σ : Rho) : Le (ρ.ren [] []) σ := ⟨fun i b h => (by cases h), fun i b h => (by cases h)⟩
/-- What a state's blocks name lies in the state. -/
noncomputable def closedS (s : St) : Bool := subH (idN s.heap) (idC s.ncap) s.heap s.heap && noDup ((idN s.heap).map (·.2)) && allLt s.next (idN s.heap) && allLt s.ncap (idC s.ncap)
/-- A call that changes nothing that was there, by its run. -/
noncomputable def roM (tb : Nat → Option ((Nat → Option Nat) × AV)) (E : Env) (f : Nat) (args : List AV) (s : St) : Option (AV × St) :=
  match tb f with
  | none => none
  | some (sp, res) =>
    bif closedS s && subA (idN s.heap) (idC s.ncap) args args then
      (match runM E sp 1000 f args { s with dirty := [] } with
      | some out => bif out.all (fun x => subX [] [] x.1 res && x.2.dirty.isEmpty) then some (res, s) else none
      | none => none)
    else none
theorem same_world {ρ : Rho} {s s' : St} {w w' : World} {ρ' : Rho} (g : Goes V ρ s w s' w' ρ') (hd : s'.dirty = []) : RowKit.Below w.heap.size w w' :=
  ⟨g.2.1.os, g.2.1.tape, g.2.1.out, g.2.1.size, fun b hb => g.2.1.fr b hb (fun i hi => by rw [hd] at hi; cases hi)⟩
theorem goes_keep {ρ : Rho} {s : St} {w w' : World} (hr : Rep V ρ s w) (hb : RowKit.Below w.heap.size w w') : Goes V ρ s w s w' ρ := by
  refine ⟨⟨fun i B hB => ?_, hr.inj, fun i b h => Nat.lt_of_lt_of_le (hr.bnd i b h) hb.size, hr.lt⟩, ⟨fun _ _ => rfl, fun _ _ => rfl, Nat.le_refl _, Nat.le_refl _, fun _ h => h, fun b h _ => hb.block b h, fun i b h1 h2 => absurd h2 (by omega), fun j h => .inl h, fun _ _ h => h, hb.os, hb.tape, hb.output, hb.size⟩, Le.refl _⟩
  obtain ⟨b, cs, h1, h2, h3⟩ := hr.h i B hB
  exact ⟨b, cs, h1, (hb.block b (hr.bnd _ _ h1)).trans h2, h3⟩
theorem roM_ok {tb : Nat → Option ((Nat → Option Nat) × AV)} (hE : EnvOK P V E) (hx : ExtOK P V E) : CallOK P V (roM tb E) := by
  intro f args s v s' h ρ w vals hargs hr hf
  unfold roM at h
  split at h
  · cases h
  · rename_i sp res htb
    cases hc : (closedS s && subA (idN s.heap) (idC s.ncap) args args)
    · simp [hc] at h
    · simp only [hc, cond_true] at h
      simp only [Bool.and_eq_true, closedS] at hc
      obtain ⟨⟨⟨⟨h1, h2⟩, h3⟩, h4⟩, h5⟩ := hc
      split at h
      · rename_i out hrun
        cases ha : out.all (fun x => subX [] [] x.1 res && x.2.dirty.isEmpty)
        · simp [ha] at h
        · simp only [ha, cond_true, Option.some.injEq, Prod.mk.injEq] at h
          obtain ⟨rfl, rfl⟩ := h
          obtain ⟨k1, k2⟩ := rep_ren (r := s) hE.one h1 h2 h3 h4 hr
          have k1' : Rep V (ρ.ren (idN s.heap) (idC s.ncap)) { s with dirty := [] } w := ⟨k1.h, k1.inj, k1.bnd, k1.lt⟩
          refine (runM_ok hE hx hrun rfl (subA_ok hE.one h5 hargs) k1' ⟨k2.b, k2.c⟩).mono ?_
          rintro e w' ⟨x, hxm, c, ρ', rfl, hg, hc⟩
          have hk := List.all_eq_true.1 ha x hxm
          simp only [Bool.and_eq_true] at hk
          exact ⟨c, ρ, rfl, goes_keep hr (same_world hg (List.isEmpty_iff.1 hk.2)), (subX_ok hE.one hk.1 hc).mono V (ren_nil _ _)⟩
      · cases h
/-- A call without pointers, by one run from nothing. -/
structure MM where
  f : Nat
  args : List AV
  res : AV
  sp : Nat → Option Nat
noncomputable def mmE (tb : List MM) : Nat → List AV → St → Option (AV × St) := fun f args s =>
  match tb with
  | [] => none
  | x :: r => bif Nat.beq x.f f && subA [] [] args x.args then some (x.res, s) else mmE r f args s
noncomputable def mmOK (E : Env) (x : MM) : Bool :=
  match runM E x.sp 1000 x.f x.args st0 with
  | some out => out.all (fun y => subX [] [] y.1 x.res)
  | none => false
theorem mmE_mem : ∀ {tb : List MM} {f : Nat} {args : List AV} {s s' : St} {v : AV}, mmE tb f args s = some (v, s') → ∃ x ∈ tb, x.f = f ∧ subA [] [] args x.args = true ∧ v = x.res ∧ s' = s
  | x :: r, f, args, s, s', v, h => by
    unfold mmE at h
    cases hk : (Nat.beq x.f f && subA [] [] args x.args)
    · simp only [hk, cond_false] at h
      obtain ⟨y, h1, h2⟩ := mmE_mem h
      exact ⟨y, List.mem_cons_of_mem _ h1, h2⟩
    · simp only [hk, cond_true, Option.some.injEq, Prod.mk.injEq] at h
      simp only [Bool.and_eq_true] at hk
      exact ⟨x, by simp, Nat.eq_of_beq_eq_true hk.1, hk.2, h.1.symm, h.2.symm⟩
  | [], f, args, s, s', v, h => by simp [mmE] at h
theorem mm_call (hE : EnvOK P V E) (hx : ExtOK P V E) {x : MM} (h : mmOK E x = true) {ρ : Rho} (w : World) {vals : Array Value} (hv : F2 (VR V ρ) x.args vals.toList) (hρ : ∀ σ, Le ρ σ) : Calls P x.f vals w fun e w' => ∃ c, e = .returned c ∧ (∀ σ, VR V σ x.res c) ∧ RowKit.Below w.heap.size w w' := by
  unfold mmOK at h
  split at h
  · rename_i out hrun
    have hr0 : Rep V ρ st0 w := ⟨fun i B h => (by cases h), fun i j B C b h => (by cases h), fun i b h => (by have := (hρ ρ0).1 i b h; cases this), fun i B h => (by cases h)⟩
    have hcl : Clean ρ st0 := by
      constructor
      · intro i _
        cases hb : ρ.blk i with
        | none => rfl
        | some b => have := (hρ ρ0).1 i b hb; cases this
      · intro i _
        cases hb : ρ.cap i with
        | none => rfl
        | some b => have := (hρ ρ0).2 i b hb; cases this
    refine (runM_ok hE hx hrun rfl hv hr0 hcl).mono ?_
    rintro e w' ⟨y, hym, c, ρ', rfl, hg, hc⟩
    have hk := List.all_eq_true.1 h y hym
    refine ⟨c, rfl, fun σ => (subX_ok hE.one hk hc).mono V (ren_nil _ _), ⟨hg.2.1.os, hg.2.1.tape, hg.2.1.out, hg.2.1.size, fun b hb => hg.2.1.fr b hb (fun i _ hl => absurd hl (Nat.not_lt_zero _))⟩⟩
  · cases h
theorem mmE_ok (hE : EnvOK P V E) (hx : ExtOK P V E) {tb : List MM} (h : ∀ x ∈ tb, mmOK E x = true) : CallOK P V (mmE tb) := by
  intro f args s v s' hm ρ w vals hv hr hfr
  obtain ⟨x, h1, rfl, h3, rfl, rfl⟩ := mmE_mem hm
  refine (mm_call hE hx (h x h1) w (subA_ok hE.one h3 hv) (ren_nil _)).mono ?_
  rintro e w' ⟨c, rfl, hc, hb⟩
  exact ⟨c, ρ, rfl, goes_keep hr hb, hc _⟩
/-- Contracts one after the other. -/
noncomputable def orE (a b : Nat → List AV → St → Option (AV × St)) : Nat → List AV → St → Option (AV × St) := fun f args s =>
  match a f args s with
  | some r => some r
  | none => b f args s
theorem orE_ok {a b : Nat → List AV → St → Option (AV × St)} (h1 : CallOK P V a) (h2 : CallOK P V b) : CallOK P V (orE a b) := by
  intro f args s v s' h
  unfold orE at h
  split at h
  · rename_i r hr
    injection h with h
    subst h
    exact h1 f args s v s' hr
  · exact h2 f args s v s' h
/-- Only functions of a list, and none that goes back in numbers. -/
noncomputable def onlyE (E : Env) (a : Nat → List AV → St → Option (AV × St)) : Nat → List AV → St → Option (AV × St) := fun f args s =>
  match E.fn f with
  | none => none
  | some _ => match a f args s with
    | some (v, s') => bif Nat.ble s.next s'.next && Nat.ble s.ncap s'.ncap then some (v, s') else none
    | none => none
theorem onlyE_ok {a : Nat → List AV → St → Option (AV × St)} (h : CallOK P V a) {E' : Env} (he : E'.ext = onlyE E a) (hf : E'.fn = E.fn) : ExtOK P V E' := by
  have key : ∀ f args s v s', E'.ext f args s = some (v, s') → (∃ g, E.fn f = some g) ∧ a f args s = some (v, s') ∧ s.next ≤ s'.next ∧ s.ncap ≤ s'.ncap := by
    intro f args s v s' h
    rw [he] at h
    unfold onlyE at h
    split at h
    · cases h
    · rename_i g hg
      split at h
      · rename_i v1 s1 ha
        cases hk : (Nat.ble s.next s1.next && Nat.ble s.ncap s1.ncap)
        · simp [hk] at h
        · simp only [hk, cond_true, Option.some.injEq, Prod.mk.injEq] at h
          obtain ⟨rfl, rfl⟩ := h
          simp only [Bool.and_eq_true] at hk
          exact ⟨⟨g, hg⟩, ha, Nat.le_of_ble_eq_true hk.1, Nat.le_of_ble_eq_true hk.2⟩
      · cases h
  refine ⟨fun f args s v s' k => ?_, fun f args s v s' k => ?_, fun f args s r k => ?_⟩
  · exact h f args s v s' (key f args s v s' k).2.1
  · exact (key f args s v s' k).2.2
  · obtain ⟨g, hg⟩ := (key f args s r.1 r.2 k).1
    exact ⟨g, by rw [hf]; exact hg⟩
end
end Ab
end Go.Proofs.YtbfppnppijcnlaaGreat
namespace Go.Proofs.YtbfppnppijcnlaaGreat
namespace Ab
open Go.RowKit
set_option linter.unusedVariables false
set_option linter.unusedSimpArgs false
noncomputable def codeMD (E : Env) (dr : Draw1) (sp : Nat → Option Nat) : Nat → Code → Sl → St → Option (List (AE × Sl × St))
  | 0, _, _, _ => none
  | n + 1, c, t, s => match c with
    | .seq a b => match codeMD E dr sp n a t s with
      | some l => joinAll (l.map fun x => match x with
        | (.normal, t', s') => codeMD E dr sp n b t' s'
        | (e, t', s') => some [(e, t', s')])
      | none => none
    | .cond c a b => match eval t c with
      | .one (.c (.bool true)) => codeMD E dr sp n a t s
      | .one (.c (.bool false)) => codeMD E dr sp n b t s
      | .one (.c .bo) => match codeMD E dr sp n a t s, codeMD E dr sp n b t s with
        | some l, some m => some (l ++ m)
        | _, _ => none
      | _ => none
    | .block id b => match codeMD E dr sp n b t s with
      | some l => some (l.map fun x => match x with
        | (.exit j, t', s') => if j = id then (.normal, t', s') else (.exit j, t', s')
        | y => y)
      | none => none
    | .loop b => match codeMD E dr sp n b t s with
      | some l => joinAll (l.map fun x => match x with
        | (.normal, t', s') => codeMD E dr sp n (.loop b) t' s'
        | (e, t', s') => some [(e, t', s')])
      | none => none
    | .region id ops d => match codeA E (fnA E 30) dr 3 (.region id ops d) t s with
      | some (.normal, t', s') => (match sp id with
        | none => some [(.normal, t', s')]
        | some d => match splitN d t' with
          | some l => some (l.map fun u => (.normal, u, s'))
          | none => none)
      | _ => none
    | c => match codeA E (fnA E 30) dr 3 c t s with
      | some r => some [r]
      | none => none
section
variable {P : Program} {V : Nat → Value} {E : Env}
theorem codeMD_ok (hE : EnvOK P V E) (hx : ExtOK P V E) {dr : Draw1} (hdr : DrawOK P V dr) (hdu : DrawUp dr) {sp : Nat → Option Nat} : ∀ (n : Nat),
    (∀ (c : Code) {t : Sl} {s : St} {out : List (AE × Sl × St)}, codeMD E dr sp n c t s = some out → ∀ {ρ : Rho} {a : Act} {w : World}, TR V ρ t a → Rep V ρ s w → Clean ρ s → ∀ Q, AfterM V ρ s w out Q → c.wp P Q a w) ∧
    (∀ (c : Code) {t : Sl} {s : St} {out : List (AE × Sl × St)}, codeMD E dr sp n (.loop c) t s = some out → ∀ {ρ : Rho} {a : Act} {w : World}, TR V ρ t a → Rep V ρ s w → Clean ρ s → ∀ Q, AfterM V ρ s w out Q → LoopWp P c Q a w)
  | 0 => ⟨fun c _ _ _ h => by simp [codeMD] at h, fun c _ _ _ h => by simp [codeMD] at h⟩
  | n + 1 => by
    obtain ⟨ih1, ih2⟩ := codeMD_ok hE hx hdr hdu (sp := sp) n
    have hc := fnA_ok hE hx 30
    have hf := fnA_fn (E := E) hx.fn 30
    have hu := fnA_up (E := E) hx.up 30
    have det : ∀ (m : Nat) (c : Code) {t t' : Sl} {s s' : St} {e : AE}, codeA E (fnA E 30) dr m c t s = some (e, t', s') → ∀ {ρ : Rho} {a : Act} {w : World}, TR V ρ t a → Rep V ρ s w → Clean ρ s → ∀ Q : Exit → Act → World → Prop, (∀ ρ' a' w', Goes V ρ s w s' w' ρ' → TR V ρ' t' a' → Q (AEx e) a' w') → c.wp P Q a w := by
      intro m c t t' s s' e h ρ a w ht hr hcl Q hQ
      exact (code_ok hE hc hf hu hdr hdu m).1 c h ht hr (hcl.free _) Q hQ
    have hloop : ∀ (c : Code) {t : Sl} {s : St} {out : List (AE × Sl × St)}, codeMD E dr sp (n + 1) (.loop c) t s = some out → ∀ {ρ : Rho} {a : Act} {w : World}, TR V ρ t a → Rep V ρ s w → Clean ρ s → ∀ Q, AfterM V ρ s w out Q → LoopWp P c Q a w := by
      intro c t s out h ρ a w ht hr hcl Q hQ
      simp only [codeMD] at h
      refine loop_one ?_
      split at h
      · rename_i l hl
        refine ih1 c hl ht hr hcl _ (fun x hx ρ1 a1 w1 hg ht1 => ?_)
        obtain ⟨k, q1, q2⟩ := joinAll_ok h _ (List.mem_map.2 ⟨x, hx, rfl⟩)
        obtain ⟨e, t', s'⟩ := x
        cases e with
        | normal => exact ih2 c q1 ht1 hg.1 (hcl.goes hg) Q (fun z hz ρ2 a2 w2 hg2 ht2 => hQ z (q2 z hz) ρ2 a2 w2 (hg.trans V hg2) ht2)
        | ret =>
          simp only [Option.some.injEq] at q1
          exact hQ (.ret, t', s') (q2 _ (by rw [← q1]; simp)) ρ1 a1 w1 hg ht1
        | exit id =>
          simp only [Option.some.injEq] at q1
          exact hQ (.exit id, t', s') (q2 _ (by rw [← q1]; simp)) ρ1 a1 w1 hg ht1
      · cases h
    refine ⟨?_, hloop⟩
    intro c t s out h ρ a w ht hr hcl Q hQ
    have other : (∀ {t : Sl} {s : St} {out : List (AE × Sl × St)}, (match codeA E (fnA E 30) dr 3 c t s with | some r => some [r] | none => none) = some out → ∀ {ρ : Rho} {a : Act} {w : World}, TR V ρ t a → Rep V ρ s w → Clean ρ s → ∀ Q, AfterM V ρ s w out Q → c.wp P Q a w) := by
      intro t s out h ρ a w ht hr hcl Q hQ
      split at h
      · rename_i r hr'
        injection h with h
        subst h
        obtain ⟨e, t', s'⟩ := r
        exact det 3 c hr' ht hr hcl Q (fun ρ' a' w' g k => hQ (e, t', s') (by simp) ρ' a' w' g k)
      · cases h
    cases c with
    | seq x y =>
      simp only [codeMD] at h
      refine wp_seq ?_
      split at h
      · rename_i l hl
        refine ih1 x hl ht hr hcl _ (fun z hz ρ1 a1 w1 hg ht1 => ?_)
        obtain ⟨k, q1, q2⟩ := joinAll_ok h _ (List.mem_map.2 ⟨z, hz, rfl⟩)
        obtain ⟨e, t', s'⟩ := z
        cases e with
        | normal => exact ih1 y q1 ht1 hg.1 (hcl.goes hg) Q (fun z hz ρ2 a2 w2 hg2 ht2 => hQ z (q2 z hz) ρ2 a2 w2 (hg.trans V hg2) ht2)
        | ret =>
          simp only [Option.some.injEq] at q1
          exact hQ (.ret, t', s') (q2 _ (by rw [← q1]; simp)) ρ1 a1 w1 hg ht1
        | exit id =>
          simp only [Option.some.injEq] at q1
          exact hQ (.exit id, t', s') (q2 _ (by rw [← q1]; simp)) ρ1 a1 w1 hg ht1
      · cases h
    | cond b x y =>
      simp only [codeMD] at h
      have hv := eval_ok ht b
      split at h
      · rename_i he
        rw [he] at hv
        exact wp_cond (show a.eval b = .bool true from hv) (ih1 x h ht hr hcl Q hQ)
      · rename_i he
        rw [he] at hv
        exact wp_cond (show a.eval b = .bool false from hv) (ih1 y h ht hr hcl Q hQ)
      · rename_i he
        rw [he] at hv
        obtain ⟨k, hv⟩ := hv
        split at h
        · rename_i l m hl hm
          injection h with h
          subst h
          refine wp_cond hv ?_
          cases k
          · exact ih1 y hm ht hr hcl Q (fun z hz => hQ z (List.mem_append_right _ hz))
          · exact ih1 x hl ht hr hcl Q (fun z hz => hQ z (List.mem_append_left _ hz))
        · cases h
      · cases h
    | block id b =>
      simp only [codeMD] at h
      refine wp_block ?_
      split at h
      · rename_i l hl
        injection h with h
        subst h
        refine ih1 b hl ht hr hcl _ (fun p hp ρ1 a1 w1 hg ht1 => ?_)
        have hq := hQ _ (List.mem_map.2 ⟨p, hp, rfl⟩) ρ1 a1 w1
        obtain ⟨e, t', s'⟩ := p
        cases e with
        | normal => exact hq hg ht1
        | ret => exact hq hg ht1
        | exit j =>
          show (if j = id then _ else _)
          by_cases hj : j = id
          · rw [if_pos hj]
            simp only [if_pos hj] at hq
            exact hq hg ht1
          · rw [if_neg hj]
            simp only [if_neg hj] at hq
            exact hq hg ht1
      · cases h
    | loop b => exact wp_of_loop (hloop b h ht hr hcl Q hQ)
    | region id ops d =>
      simp only [codeMD] at h
      split at h
      · rename_i t' s' hr'
        refine det 3 _ hr' ht hr hcl Q (fun ρ' a' w' g k => ?_)
        split at h
        · injection h with h
          subst h
          exact hQ (.normal, t', s') (by simp) ρ' a' w' g k
        · split at h
          · rename_i l hl
            injection h with h
            subst h
            obtain ⟨u, hu1, hu2⟩ := split_ok hl k
            exact hQ (.normal, u, s') (List.mem_map.2 ⟨u, hu1, rfl⟩) ρ' a' w' g hu2
          · cases h
      · cases h
    | _ =>
      simp only [codeMD] at h
      exact other h ht hr hcl Q hQ
end
/-- A call's outcomes. -/
noncomputable def runMD (E : Env) (dr : Draw1) (sp : Nat → Option Nat) (n f : Nat) (args : List AV) (s : St) : Option (List (AV × St)) :=
  match E.fn f with
  | none => none
  | some fn => match fn.body with
    | none => none
    | some c =>
      bif !(Nat.ble args.length fn.ntmps) then none else
      match codeMD E dr sp n c (pad fn.ntmps args) { s with dirty := [] } with
      | none => none
      | some l => joinAll (l.map fun x => match x.1 with
        | .exit _ => none
        | _ => match resultsA E x.2.1 x.2.2 fn.results.toList with
          | some rs => some [(wrapA rs, tidy s.next rs x.2.2)]
          | none => none)
section
variable {P : Program} {V : Nat → Value} {E : Env}
theorem runMD_ok (hE : EnvOK P V E) (hx : ExtOK P V E) {dr : Draw1} (hdr : DrawOK P V dr) (hdu : DrawUp dr) {sp : Nat → Option Nat} {n f : Nat} {args : List AV} {s : St} {out : List (AV × St)} (h : runMD E dr sp n f args s = some out) (hd : s.dirty = []) {ρ : Rho} {w : World} {vals : Array Value} (hargs : F2 (VR V ρ) args vals.toList) (hr : Rep V ρ s w) (hcl : Clean ρ s) :
    Calls P f vals w fun e w' => ∃ x ∈ out, ∃ c ρ', e = .returned c ∧ Goes V ρ s w x.2 w' ρ' ∧ VR V ρ' x.1 c := by
  unfold runMD at h
  split at h
  · cases h
  · rename_i fn hfn
    obtain ⟨hF, _⟩ := hE.fn f fn hfn
    split at h
    · cases h
    · rename_i c hc
      cases hle : Nat.ble args.length fn.ntmps
      · simp [hle] at h
      · simp only [hle, Bool.not_true, cond_false] at h
        have hle := Nat.le_of_ble_eq_true hle
        split at h
        · cases h
        · rename_i l hl
          have hvl : vals.size = args.length := by rw [← Array.length_toList, ← hargs.length]
          have ht : TR V ρ (pad fn.ntmps args) { tmps := vals ++ Array.replicate (fn.ntmps - vals.size) undef, defers := [] } := by
            refine ⟨by rw [pad_length]; simp; omega, fun d => ?_, rfl⟩
            rw [pad_look _ _ _ hle]
            have h1 := lget_F2 hargs d
            have h2 : (vals ++ Array.replicate (fn.ntmps - vals.size) undef).getD d undef = vals.toList.getD d undef := by
              simp only [Array.getD_eq_getD_getElem?, List.getD_eq_getElem?_getD, Array.getElem?_append, Array.getElem?_toList]
              by_cases hd : d < vals.size
              · rw [if_pos hd]
              · rw [if_neg hd, Array.getElem?_eq_none (by omega : vals.size ≤ d), Array.getElem?_replicate]
                split <;> rfl
            show VR V ρ _ ((vals ++ Array.replicate (fn.ntmps - vals.size) undef).getD d undef)
            rw [h2]
            exact h1
          have hr0 : Rep V ρ { s with dirty := [] } w := ⟨hr.h, hr.inj, hr.bnd, hr.lt⟩
          refine calls_of_wp hF hc ?_
          refine (codeMD_ok hE hx hdr hdu n).1 c hl ht hr0 ⟨hcl.b, hcl.c⟩ _ ?_
          intro x hxm ρ' a' w' hg ht'
          obtain ⟨k, q1, q2⟩ := joinAll_ok h _ (List.mem_map.2 ⟨x, hxm, rfl⟩)
          obtain ⟨e, t', s1⟩ := x
          have fin : ∀ rs, resultsA E t' s1 fn.results.toList = some rs → (wrapA rs, tidy s.next rs s1) ∈ out → (e = .normal ∨ e = .ret) → bodyPost P fn (fun e w' => ∃ x ∈ out, ∃ c ρ', e = .returned c ∧ Goes V ρ s w x.2 w' ρ' ∧ VR V ρ' x.1 c) (AEx e) a' w' := by
            intro rs h2 hm he
            obtain ⟨vs, g1, g2⟩ := results_ok hE ht' hg.1 _ _ h2
            have hres : (results fn a'.tmps).run P w' = .ok (if h : vs.toArray.size = 1 then vs.toArray[0] else .tuple vs.toArray) w' := by
              unfold results
              rw [Array.mapM_eq_mapM_toList]
              simp only [Sem.run_bind, Sem.run_map, Sem.run_pure]
              generalize hX : Sem.run P (List.mapM _ fn.results.toList) w' = Y
              have hY : Y = .ok vs w' := hX.symm.trans g1
              rw [hY]
              simp only [Result.andThen_ok]
            have hgo := tidy_ok rs hg
            rw [hd, List.append_nil] at hgo
            rcases he with rfl | rfl
            · exact ⟨ht'.df, _, hres, _, hm, _, ρ', rfl, hgo, wrap_ok g2⟩
            · exact ⟨ht'.df, _, hres, _, hm, _, ρ', rfl, hgo, wrap_ok g2⟩
          cases e with
          | exit id => cases q1
          | normal =>
            simp only at q1
            split at q1
            · rename_i rs h2
              injection q1 with q1
              exact fin rs h2 (q2 _ (by rw [← q1]; simp)) (.inl rfl)
            · cases q1
          | ret =>
            simp only at q1
            split at q1
            · rename_i rs h2
              injection q1 with q1
              exact fin rs h2 (q2 _ (by rw [← q1]; simp)) (.inr rfl)
            · cases q1
end
end Ab
end Go.Proofs.YtbfppnppijcnlaaGreat
