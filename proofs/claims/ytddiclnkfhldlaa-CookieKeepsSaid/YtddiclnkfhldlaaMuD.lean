/-
  Code with several outcomes, and another way for the regions that draw.
  Conditions: none.
-/
import Derived.Test.YtddiclnkfhldlaaMu
import Derived.Test.YtddiclnkfhldlaaAbsK
namespace Go.Proofs.Ytddiclnkfhldlaa
namespace Ab
open Go.RowKit
set_option linter.unusedVariables false
set_option linter.unusedSimpArgs false
def codeMD (E : Env) (dr : Draw1) (sp : Nat → Option Nat) : Nat → Code → Sl → St → Option (List (AE × Sl × St))
  | 0, _, _, _ => none
  | n + 1, c, t, s => match c with
    | .seq a b => match codeMD E dr sp n a t s with
      | some l => joinAll (l.map fun x => match x with
        | (.normal, t', s') => codeMD E dr sp n b t' s'
        | (e, t', s') => some [(e, t', s')])
      | none => none
    | .cond c a b => match eval t c with
      | .one (.c (.bool true)) => codeMD E dr sp n a t s
      | .one (.c (.bool false)) => codeMD E dr sp n b t s
      | .one (.c .bo) => match codeMD E dr sp n a t s, codeMD E dr sp n b t s with
        | some l, some m => some (l ++ m)
        | _, _ => none
      | _ => none
    | .block id b => match codeMD E dr sp n b t s with
      | some l => some (l.map fun x => match x with
        | (.exit j, t', s') => if j = id then (.normal, t', s') else (.exit j, t', s')
        | y => y)
      | none => none
    | .loop b => match codeMD E dr sp n b t s with
      | some l => joinAll (l.map fun x => match x with
        | (.normal, t', s') => codeMD E dr sp n (.loop b) t' s'
        | (e, t', s') => some [(e, t', s')])
      | none => none
    | .region id ops d => match codeA E (fnA E 30) dr 3 (.region id ops d) t s with
      | some (.normal, t', s') => (match sp id with
        | none => some [(.normal, t', s')]
        | some d => match splitN d t' with
          | some l => some (l.map fun u => (.normal, u, s'))
          | none => none)
      | _ => none
    | c => match codeA E (fnA E 30) dr 3 c t s with
      | some r => some [r]
      | none => none
section
variable {P : Program} {V : Nat → Value} {E : Env}
theorem codeMD_ok (hE : EnvOK P V E) (hx : ExtOK P V E) {dr : Draw1} (hdr : DrawOK P V dr) (hdu : DrawUp dr) {sp : Nat → Option Nat} : ∀ (n : Nat),
    (∀ (c : Code) {t : Sl} {s : St} {out : List (AE × Sl × St)}, codeMD E dr sp n c t s = some out → ∀ {ρ : Rho} {a : Act} {w : World}, TR V ρ t a → Rep V ρ s w → Clean ρ s → ∀ Q, AfterM V ρ s w out Q → c.wp P Q a w) ∧
    (∀ (c : Code) {t : Sl} {s : St} {out : List (AE × Sl × St)}, codeMD E dr sp n (.loop c) t s = some out → ∀ {ρ : Rho} {a : Act} {w : World}, TR V ρ t a → Rep V ρ s w → Clean ρ s → ∀ Q, AfterM V ρ s w out Q → LoopWp P c Q a w)
  | 0 => ⟨fun c _ _ _ h => by simp [codeMD] at h, fun c _ _ _ h => by simp [codeMD] at h⟩
  | n + 1 => by
    obtain ⟨ih1, ih2⟩ := codeMD_ok hE hx hdr hdu (sp := sp) n
    have hc := fnA_ok hE hx 30
    have hf := fnA_fn (E := E) hx.fn 30
    have hu := fnA_up (E := E) hx.up 30
    have det : ∀ (m : Nat) (c : Code) {t t' : Sl} {s s' : St} {e : AE}, codeA E (fnA E 30) dr m c t s = some (e, t', s') → ∀ {ρ : Rho} {a : Act} {w : World}, TR V ρ t a → Rep V ρ s w → Clean ρ s → ∀ Q : Exit → Act → World → Prop, (∀ ρ' a' w', Goes V ρ s w s' w' ρ' → TR V ρ' t' a' → Q (AEx e) a' w') → c.wp P Q a w := by
      intro m c t t' s s' e h ρ a w ht hr hcl Q hQ
      exact (code_ok hE hc hf hu hdr hdu m).1 c h ht hr (hcl.free _) Q hQ
    have hloop : ∀ (c : Code) {t : Sl} {s : St} {out : List (AE × Sl × St)}, codeMD E dr sp (n + 1) (.loop c) t s = some out → ∀ {ρ : Rho} {a : Act} {w : World}, TR V ρ t a → Rep V ρ s w → Clean ρ s → ∀ Q, AfterM V ρ s w out Q → LoopWp P c Q a w := by
      intro c t s out h ρ a w ht hr hcl Q hQ
      simp only [codeMD] at h
      refine loop_one ?_
      split at h
      · rename_i l hl
        refine ih1 c hl ht hr hcl _ (fun x hx ρ1 a1 w1 hg ht1 => ?_)
        obtain ⟨k, q1, q2⟩ := joinAll_ok h _ (List.mem_map.2 ⟨x, hx, rfl⟩)
        obtain ⟨e, t', s'⟩ := x
        cases e with
        | normal => exact ih2 c q1 ht1 hg.1 (hcl.goes hg) Q (fun z hz ρ2 a2 w2 hg2 ht2 => hQ z (q2 z hz) ρ2 a2 w2 (hg.trans V hg2) ht2)
        | ret =>
          simp only [Option.some.injEq] at q1
          exact hQ (.ret, t', s') (q2 _ (by rw [← q1]; simp)) ρ1 a1 w1 hg ht1
        | exit id =>
          simp only [Option.some.injEq] at q1
          exact hQ (.exit id, t', s') (q2 _ (by rw [← q1]; simp)) ρ1 a1 w1 hg ht1
      · cases h
    refine ⟨?_, hloop⟩
    intro c t s out h ρ a w ht hr hcl Q hQ
    have other : (∀ {t : Sl} {s : St} {out : List (AE × Sl × St)}, (match codeA E (fnA E 30) dr 3 c t s with | some r => some [r] | none => none) = some out → ∀ {ρ : Rho} {a : Act} {w : World}, TR V ρ t a → Rep V ρ s w → Clean ρ s → ∀ Q, AfterM V ρ s w out Q → c.wp P Q a w) := by
      intro t s out h ρ a w ht hr hcl Q hQ
      split at h
      · rename_i r hr'
        injection h with h
        subst h
        obtain ⟨e, t', s'⟩ := r
        exact det 3 c hr' ht hr hcl Q (fun ρ' a' w' g k => hQ (e, t', s') (by simp) ρ' a' w' g k)
      · cases h
    cases c with
    | seq x y =>
      simp only [codeMD] at h
      refine wp_seq ?_
      split at h
      · rename_i l hl
        refine ih1 x hl ht hr hcl _ (fun z hz ρ1 a1 w1 hg ht1 => ?_)
        obtain ⟨k, q1, q2⟩ := joinAll_ok h _ (List.mem_map.2 ⟨z, hz, rfl⟩)
        obtain ⟨e, t', s'⟩ := z
        cases e with
        | normal => exact ih1 y q1 ht1 hg.1 (hcl.goes hg) Q (fun z hz ρ2 a2 w2 hg2 ht2 => hQ z (q2 z hz) ρ2 a2 w2 (hg.trans V hg2) ht2)
        | ret =>
          simp only [Option.some.injEq] at q1
          exact hQ (.ret, t', s') (q2 _ (by rw [← q1]; simp)) ρ1 a1 w1 hg ht1
        | exit id =>
          simp only [Option.some.injEq] at q1
          exact hQ (.exit id, t', s') (q2 _ (by rw [← q1]; simp)) ρ1 a1 w1 hg ht1
      · cases h
    | cond b x y =>
      simp only [codeMD] at h
      have hv := eval_ok ht b
      split at h
      · rename_i he
        rw [he] at hv
        exact wp_cond (show a.eval b = .bool true from hv) (ih1 x h ht hr hcl Q hQ)
      · rename_i he
        rw [he] at hv
        exact wp_cond (show a.eval b = .bool false from hv) (ih1 y h ht hr hcl Q hQ)
      · rename_i he
        rw [he] at hv
        obtain ⟨k, hv⟩ := hv
        split at h
        · rename_i l m hl hm
          injection h with h
          subst h
          refine wp_cond hv ?_
          cases k
          · exact ih1 y hm ht hr hcl Q (fun z hz => hQ z (List.mem_append_right _ hz))
          · exact ih1 x hl ht hr hcl Q (fun z hz => hQ z (List.mem_append_left _ hz))
        · cases h
      · cases h
    | block id b =>
      simp only [codeMD] at h
      refine wp_block ?_
      split at h
      · rename_i l hl
        injection h with h
        subst h
        refine ih1 b hl ht hr hcl _ (fun p hp ρ1 a1 w1 hg ht1 => ?_)
        have hq := hQ _ (List.mem_map.2 ⟨p, hp, rfl⟩) ρ1 a1 w1
        obtain ⟨e, t', s'⟩ := p
        cases e with
        | normal => exact hq hg ht1
        | ret => exact hq hg ht1
        | exit j =>
          show (if j = id then _ else _)
          by_cases hj : j = id
          · rw [if_pos hj]
            simp only [if_pos hj] at hq
            exact hq hg ht1
          · rw [if_neg hj]
            simp only [if_neg hj] at hq
            exact hq hg ht1
      · cases h
    | loop b => exact wp_of_loop (hloop b h ht hr hcl Q hQ)
    | region id ops d =>
      simp only [codeMD] at h
      split at h
      · rename_i t' s' hr'
        refine det 3 _ hr' ht hr hcl Q (fun ρ' a' w' g k => ?_)
        split at h
        · injection h with h
          subst h
          exact hQ (.normal, t', s') (by simp) ρ' a' w' g k
        · split at h
          · rename_i l hl
            injection h with h
            subst h
            obtain ⟨u, hu1, hu2⟩ := split_ok hl k
            exact hQ (.normal, u, s') (List.mem_map.2 ⟨u, hu1, rfl⟩) ρ' a' w' g hu2
          · cases h
      · cases h
    | _ =>
      simp only [codeMD] at h
      exact other h ht hr hcl Q hQ
end
/-- A call's outcomes. -/
def runMD (E : Env) (dr : Draw1) (sp : Nat → Option Nat) (n f : Nat) (args : List AV) (s : St) : Option (List (AV × St)) :=
  match E.fn f with
  | none => none
  | some fn => match fn.body with
    | none => none
    | some c =>
      bif !(Nat.ble args.length fn.ntmps) then none else
      match codeMD E dr sp n c (pad fn.ntmps args) { s with dirty := [] } with
      | none => none
      | some l => joinAll (l.map fun x => match x.1 with
        | .exit _ => none
        | _ => match resultsA E x.2.1 x.2.2 fn.results.toList with
          | some rs => some [(wrapA rs, tidy s.next rs x.2.2)]
          | none => none)
section
variable {P : Program} {V : Nat → Value} {E : Env}
theorem runMD_ok (hE : EnvOK P V E) (hx : ExtOK P V E) {dr : Draw1} (hdr : DrawOK P V dr) (hdu : DrawUp dr) {sp : Nat → Option Nat} {n f : Nat} {args : List AV} {s : St} {out : List (AV × St)} (h : runMD E dr sp n f args s = some out) (hd : s.dirty = []) {ρ : Rho} {w : World} {vals : Array Value} (hargs : F2 (VR V ρ) args vals.toList) (hr : Rep V ρ s w) (hcl : Clean ρ s) :
    Calls P f vals w fun e w' => ∃ x ∈ out, ∃ c ρ', e = .returned c ∧ Goes V ρ s w x.2 w' ρ' ∧ VR V ρ' x.1 c := by
  unfold runMD at h
  split at h
  · cases h
  · rename_i fn hfn
    obtain ⟨hF, _⟩ := hE.fn f fn hfn
    split at h
    · cases h
    · rename_i c hc
      cases hle : Nat.ble args.length fn.ntmps
      · simp [hle] at h
      · simp only [hle, Bool.not_true, cond_false] at h
        have hle := Nat.le_of_ble_eq_true hle
        split at h
        · cases h
        · rename_i l hl
          have hvl : vals.size = args.length := by rw [← Array.length_toList, ← hargs.length]
          have ht : TR V ρ (pad fn.ntmps args) { tmps := vals ++ Array.replicate (fn.ntmps - vals.size) undef, defers := [] } := by
            refine ⟨by rw [pad_length]; simp; omega, fun d => ?_, rfl⟩
            rw [pad_look _ _ _ hle]
            have h1 := lget_F2 hargs d
            have h2 : (vals ++ Array.replicate (fn.ntmps - vals.size) undef).getD d undef = vals.toList.getD d undef := by
              simp only [Array.getD_eq_getD_getElem?, List.getD_eq_getElem?_getD, Array.getElem?_append, Array.getElem?_toList]
              by_cases hd : d < vals.size
              · rw [if_pos hd]
              · rw [if_neg hd, Array.getElem?_eq_none (by omega : vals.size ≤ d), Array.getElem?_replicate]
                split <;> rfl
            show VR V ρ _ ((vals ++ Array.replicate (fn.ntmps - vals.size) undef).getD d undef)
            rw [h2]
            exact h1
          have hr0 : Rep V ρ { s with dirty := [] } w := ⟨hr.h, hr.inj, hr.bnd, hr.lt⟩
          refine calls_of_wp hF hc ?_
          refine (codeMD_ok hE hx hdr hdu n).1 c hl ht hr0 ⟨hcl.b, hcl.c⟩ _ ?_
          intro x hxm ρ' a' w' hg ht'
          obtain ⟨k, q1, q2⟩ := joinAll_ok h _ (List.mem_map.2 ⟨x, hxm, rfl⟩)
          obtain ⟨e, t', s1⟩ := x
          have fin : ∀ rs, resultsA E t' s1 fn.results.toList = some rs → (wrapA rs, tidy s.next rs s1) ∈ out → (e = .normal ∨ e = .ret) → bodyPost P fn (fun e w' => ∃ x ∈ out, ∃ c ρ', e = .returned c ∧ Goes V ρ s w x.2 w' ρ' ∧ VR V ρ' x.1 c) (AEx e) a' w' := by
            intro rs h2 hm he
            obtain ⟨vs, g1, g2⟩ := results_ok hE ht' hg.1 _ _ h2
            have hres : (results fn a'.tmps).run P w' = .ok (if h : vs.toArray.size = 1 then vs.toArray[0] else .tuple vs.toArray) w' := by
              unfold results
              rw [Array.mapM_eq_mapM_toList]
              simp only [Sem.run_bind, Sem.run_map, Sem.run_pure]
              generalize hX : Sem.run P (List.mapM _ fn.results.toList) w' = Y
              have hY : Y = .ok vs w' := hX.symm.trans g1
              rw [hY]
              simp only [Result.andThen_ok]
            have hgo := tidy_ok rs hg
            rw [hd, List.append_nil] at hgo
            rcases he with rfl | rfl
            · exact ⟨ht'.df, _, hres, _, hm, _, ρ', rfl, hgo, wrap_ok g2⟩
            · exact ⟨ht'.df, _, hres, _, hm, _, ρ', rfl, hgo, wrap_ok g2⟩
          cases e with
          | exit id => cases q1
          | normal =>
            simp only at q1
            split at q1
            · rename_i rs h2
              injection q1 with q1
              exact fin rs h2 (q2 _ (by rw [← q1]; simp)) (.inl rfl)
            · cases q1
          | ret =>
            simp only at q1
            split at q1
            · rename_i rs h2
              injection q1 with q1
              exact fin rs h2 (q2 _ (by rw [← q1]; simp)) (.inr rfl)
            · cases q1
end
end Ab
end Go.Proofs.Ytddiclnkfhldlaa
