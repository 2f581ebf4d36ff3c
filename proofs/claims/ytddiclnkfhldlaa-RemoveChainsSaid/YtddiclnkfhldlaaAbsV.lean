/-
  The operation whole: what the interpreter says of it, it does; what the interpreter's counters do.
  Conditions: none.
-/
import Derived.Test.YtddiclnkfhldlaaAbsU
namespace Go.Proofs.Ytddiclnkfhldlaa
namespace Ab
set_option linter.unusedVariables false
set_option linter.unusedSimpArgs false
section
variable {P : Program} {V : Nat → Value} {E : Env}
theorem zeroCells_list (z : Array Value) (hz : 0 < z.size) (n : Nat) : (Builtin.zeroCells z n).toList = (List.replicate n z.toList).flatten := by
  unfold Builtin.zeroCells
  have e := range'_cells z hz n 0
  rw [Nat.zero_mul] at e
  rw [Array.toList_map, Array.toList_range, List.range_eq_range', ← e]
theorem op_clear (hE : EnvOK P V E) {t : Sl} {s s' : St} {o : Oper} {c : Call} {x : AV} (ho : o.op = .call c) (hc : c.callee = .builtin .clear) (hx : evals t c.args.toList = [x]) (h : clearA E s c.argTypes x = some s') : OpOK P V t s o .any s' := by
  intro ρ a w ht hr hf K Q hK
  have he := evals_ok ht c.args.toList
  rw [hx] at he
  obtain ⟨u, hu, hx1⟩ : ∃ u, c.args.map a.eval = #[u] ∧ VR V ρ x u := by
    match hl : c.args.toList.map a.eval, he with
    | [u], he =>
      refine ⟨u, ?_, he.1⟩
      apply Array.ext'
      simpa using hl
  unfold clearA at h
  cases h0 : c.argTypes[0]? with
  | none => simp [h0] at h
  | some ty =>
    simp only [h0] at h
    have run1 : ∀ r w', (Builtin.clear_ c.argTypes o.type #[u]).run P w = .ok r w' → (execOp a.eval o).run P w = .ok (.value r) w' := by
      intro r w' hr
      simp [execOp, ho, resolve, hc, hu, invoke, builtin, hr]
    split at h
    · rename_i ti hti
      obtain ⟨i, z, h1, h2, h3, h4, h5, h6, h7⟩ := zero_ok hE hti ρ
      obtain ⟨q, m, rfl⟩ := hx1
      split at h
      · rename_i e hd
        rw [hd] at h7
        injection h with h
        subst h
        refine wp_val (run1 (.tuple #[]) w ?_) (hK ρ _ w (Goes.refl V hr) trivial)
        simp [Builtin.clear_, h0, run_underlying h7]
      · cases h
    · rename_i ti p n cap hti
      obtain ⟨i, z, h1, h2, h3, h4, h5, h6, h7⟩ := zero_ok hE hti ρ
      obtain ⟨q, m, rfl, hcap, hn, hq⟩ := slice_form (V := V) (ρ := ρ) hx1
      split at h
      · rename_i e hd
        rw [hd] at h7
        cases hte : E.ty e with
        | none => simp [hte] at h
        | some te =>
          simp only [hte] at h
          obtain ⟨j, zz, j1, j2, j3, j4, j5, j6, j7⟩ := zero_ok hE hte ρ
          cases hnb : Nat.beq n 0
          · simp only [hnb, cond_false] at h
            have hn0 : n ≠ 0 := by
              intro e
              rw [e] at hnb
              cases hnb
            obtain ⟨n', rfl⟩ : ∃ n', n = n' + 1 := ⟨n - 1, by omega⟩
            split at h
            · injection h with h
              subst h
              rcases hq with ⟨_, rfl⟩ | ⟨i2, off2, b, hq, _⟩
              · refine wp_val (run1 (.tuple #[]) w ?_) (hK ρ _ w (Goes.refl V hr) trivial)
                simp [Builtin.clear_, h0, run_underlying h7]
              · cases hq
            · rename_i i2 off
              cases hB : look s.heap i2 with
              | none => simp [hB] at h
              | some B =>
                simp only [hB] at h
                cases hov : over B.cells off (rep te.zero (n' + 1)) with
                | none => simp [hov] at h
                | some mm =>
                  simp only [hov, Option.some.injEq] at h
                  subst h
                  rcases hq with ⟨hq, _⟩ | ⟨i3, off3, b, hq, hb, rfl⟩
                  · cases hq
                  · injection hq with hq
                    injection hq with q1 q2
                    subst q1; subst q2
                    obtain ⟨b', cs, g1, g2, pre, post, g3, g4, g5⟩ := hr.h _ B hB
                    rw [hb] at g1
                    injection g1 with g1
                    subst g1
                    have hz : F2 (CR V ρ) (rep te.zero (n' + 1)) (Builtin.zeroCells zz.cells (n' + 1)).toList := by
                      by_cases hpos : 0 < zz.cells.size
                      · rw [zeroCells_list _ hpos]
                        exact rep_ok j5 _
                      · have e1 : zz.cells = #[] := Array.eq_empty_of_size_eq_zero (by omega)
                        rw [e1] at j5 ⊢
                        have e2 : te.zero = [] := by
                          have := j5.length
                          simp at this
                          exact this
                        have e3 : ∀ k, rep ([] : List AC) k = [] := by
                          intro k
                          induction k with
                          | zero => rfl
                          | succ k ih => simp [rep, ih]
                        rw [e2, e3]
                        have : (Builtin.zeroCells #[] (n' + 1)).toList = [] := by
                          apply List.eq_nil_of_length_eq_zero
                          simp [Builtin.zeroCells]
                        rw [this]
                        trivial
                    obtain ⟨k1, k2⟩ := F2.over _ g4 hz hov
                    have hone : ∀ u ∈ (Builtin.zeroCells zz.cells (n' + 1)).toList, u.oneCell' = true := by
                      intro u hu
                      obtain ⟨q, _, hq⟩ := hz.mem u hu
                      exact hq.one V hE.one
                    have hst := run_storeCells_at P b off B.ty (Builtin.zeroCells zz.cells (n' + 1)).toList 0 cs w g2 (by
                      rw [← Array.length_toList (xs := cs), g3, List.length_append]
                      omega) hone
                    have hcs : cs.toList.take (off + 0) ++ (Builtin.zeroCells zz.cells (n' + 1)).toList ++ cs.toList.drop (off + 0 + (Builtin.zeroCells zz.cells (n' + 1)).toList.length) = (pre.take off ++ (Builtin.zeroCells zz.cells (n' + 1)).toList ++ pre.drop (off + (Builtin.zeroCells zz.cells (n' + 1)).toList.length)) ++ post := by
                      rw [g3, List.take_append_of_le_length (by omega), List.drop_append_of_le_length (by omega)]
                      simp
                    rw [hcs] at hst
                    have hgo := go_store (cs' := ((pre.take off ++ (Builtin.zeroCells zz.cells (n' + 1)).toList ++ pre.drop (off + (Builtin.zeroCells zz.cells (n' + 1)).toList.length)) ++ post).toArray) V mm hr hB hb g2 (br_put V g3 g4 g5 hz hov)
                    refine wp_val (run1 (.tuple #[]) _ ?_) (hK ρ _ _ hgo trivial)
                    simp [Builtin.clear_, h0, run_underlying h7, zeroValue, typeInfo, j1, j4, hst]
          · simp only [hnb, cond_true, Option.some.injEq] at h
            subst h
            have hn0 := Nat.eq_of_beq_eq_true hnb
            subst hn0
            refine wp_val (run1 (.tuple #[]) w ?_) (hK ρ _ w (Goes.refl V hr) trivial)
            cases q <;> simp [Builtin.clear_, h0, run_underlying h7]
      · cases h
    · cases h
/-- What it is for calls to do what the interpreter says. -/
def CallOK (P : Program) (V : Nat → Value) (call : Call1) : Prop :=
  ∀ f args s v s', call f args s = some (v, s') → ∀ ρ w (vals : Array Value), F2 (VR V ρ) args vals.toList → Rep V ρ s w → Free ρ s s' → Calls P f vals w fun e w' => ∃ c ρ', e = .returned c ∧ Goes V ρ s w s' w' ρ' ∧ VR V ρ' v c
def CallUp (call : Call1) : Prop := ∀ f args s v s', call f args s = some (v, s') → s.next ≤ s'.next ∧ s.ncap ≤ s'.ncap
theorem mapc_ok {ρ : Rho} : ∀ {l : List AC} {m : List Value}, F2 (CR V ρ) l m → F2 (VR V ρ) (l.map (fun x => AV.one (.c x))) m
  | [], [], _ => trivial
  | _ :: _, _ :: _, h => ⟨h.1, mapc_ok h.2⟩
  | [], _ :: _, h => h.elim
  | _ :: _, [], h => h.elim
def CallFn (E : Env) (call : Call1) : Prop := ∀ f args s r, call f args s = some r → ∃ g, E.fn f = some g
theorem op_call (hE : EnvOK P V E) {call : Call1} (hcall : CallOK P V call) (hfn : CallFn E call) {t : Sl} {s s' : St} {o : Oper} {c : Call} {f : Operand} {g : Nat} {cap : List AC} {v : AV} (ho : o.op = .call c) (hc : c.callee = .value f)
    (hev : eval t f = .fn g cap ∨ (eval t f = .one (.c (.fn g)) ∧ cap = [])) (h : call g (evals t c.args.toList ++ cap.map (fun x => .one (.c x))) s = some (v, s')) : OpOK P V t s o v s' := by
  intro ρ a w ht hr hf K Q hK
  have he := evals_ok ht c.args.toList
  have hfv := eval_ok ht f
  obtain ⟨cs, hfc, hcs⟩ : ∃ cs : Array Value, a.eval f = .func (.func g) #[] cs ∧ F2 (CR V ρ) cap cs.toList := by
    rcases hev with hev | ⟨hev, rfl⟩
    · rw [hev] at hfv
      exact hfv
    · rw [hev] at hfv
      exact ⟨#[], hfv, trivial⟩
  obtain ⟨fn, hfn⟩ := hfn _ _ _ _ h
  obtain ⟨_, hcf⟩ := hE.fn g fn hfn
  have hargs : F2 (VR V ρ) (evals t c.args.toList ++ cap.map (fun x => .one (.c x))) ((c.args.map a.eval) ++ cs).toList := by
    rw [Array.toList_append, Array.toList_map]
    exact he.append (mapc_ok hcs)
  have hres := hcall g _ s v s' h ρ w _ hargs hr hf
  have hrun : (execOp a.eval o).run P w = .ok (.enter g ((c.args.map a.eval) ++ cs)) w := by
    simp [execOp, ho, resolve, hc, hfc, Deferred.ofValue, invoke, hcf]
  unfold Oper.wp
  rw [hrun, Oper.upon_enter]
  refine hres.mono ?_
  rintro e w' ⟨c', ρ', rfl, h1, h2⟩
  exact hK ρ' c' w' h1 h2
theorem opA_ok (hE : EnvOK P V E) {call : Call1} (hcall : CallOK P V call) (hfn : CallFn E call) {t : Sl} {s s' : St} {o : Oper} {v : AV} (h : opA E call t s o = some (v, s')) : OpOK P V t s o v s' := by
  unfold opA at h
  split at h
  · rename_i x ho
    simp only [Option.some.injEq, Prod.mk.injEq] at h
    obtain ⟨rfl, rfl⟩ := h
    exact op_move (.inl ho)
  · rename_i x ho
    simp only [Option.some.injEq, Prod.mk.injEq] at h
    obtain ⟨rfl, rfl⟩ := h
    exact op_move (.inr ho)
  · rename_i c x y ho
    split at h
    · rename_i k hk
      simp only [Option.some.injEq, Prod.mk.injEq] at h
      obtain ⟨rfl, rfl⟩ := h
      exact op_pick ho hk
    · cases h
  · rename_i ty ho
    split at h
    · rename_i ti hti
      simp only [Option.some.injEq, Prod.mk.injEq] at h
      obtain ⟨rfl, rfl⟩ := h
      exact op_alloc hE ho hti
    · cases h
  · rename_i ty x ho
    split at h
    · rename_i l hl
      simp only [Option.some.injEq, Prod.mk.injEq] at h
      obtain ⟨rfl, rfl⟩ := h
      exact op_box hE ho hl
    · cases h
  · rename_i ty parts ho
    split at h
    · rename_i ti hti
      split at h
      · rename_i fs hd
        cases hh : haveAll E fs.toList
        · simp [hh] at h
        · simp only [hh, cond_true] at h
          split at h
          · rename_i ps hp
            split at h
            · rename_i l hl
              simp only [Option.some.injEq, Prod.mk.injEq] at h
              obtain ⟨rfl, rfl⟩ := h
              exact op_buildS hE ho hti hd hh hp hl
            · cases h
          · cases h
      · rename_i n e hd
        split at h
        · rename_i te hte
          split at h
          · rename_i ps hp
            split at h
            · rename_i l hl
              simp only [Option.some.injEq, Prod.mk.injEq] at h
              obtain ⟨rfl, rfl⟩ := h
              exact op_buildE hE ho hti hd hte hp hl
            · cases h
          · cases h
        · cases h
      · cases h
    · cases h
  · rename_i ty len parts ho
    split at h
    · rename_i ti hti
      split at h
      · rename_i e hd
        split at h
        · rename_i te hte
          cases hb : (Nat.ble (len * te.size) 16777216 && !(Nat.beq te.size 0))
          · simp [hb] at h
          · simp only [hb, cond_true] at h
            simp only [Bool.and_eq_true, Bool.not_eq_true'] at hb
            split at h
            · rename_i ps hp
              split at h
              · rename_i l hl
                simp only [Option.some.injEq, Prod.mk.injEq] at h
                obtain ⟨rfl, rfl⟩ := h
                exact op_buildSlice hE ho hti hd hte hb.2 hb.1 hp hl
              · cases h
            · cases h
        · cases h
      · cases h
    · cases h
  · rename_i ty x ho
    split at h
    · rename_i v' hv
      simp only [Option.some.injEq, Prod.mk.injEq] at h
      obtain ⟨rfl, rfl⟩ := h
      exact op_load hE ho hv
    · cases h
  · rename_i ty x y ho
    split at h
    · rename_i v' hv
      simp only [Option.some.injEq, Prod.mk.injEq] at h
      obtain ⟨rfl, rfl⟩ := h
      exact op_store hE ho hv
    · cases h
  · rename_i x ho
    split at h
    · rename_i p hp
      simp only [Option.some.injEq, Prod.mk.injEq] at h
      obtain ⟨rfl, rfl⟩ := h
      exact op_nil ho hp
    · cases h
  · rename_i op xt x y yt ho
    split at h
    · rename_i v' hv
      simp only [Option.some.injEq, Prod.mk.injEq] at h
      obtain ⟨rfl, rfl⟩ := h
      exact op_bin hE ho hv
    · cases h
  · rename_i op xt x ho
    split at h
    · rename_i v' hv
      simp only [Option.some.injEq, Prod.mk.injEq] at h
      obtain ⟨rfl, rfl⟩ := h
      exact op_un ho hv
    · cases h
  · rename_i a b x ho
    split at h
    · rename_i v' hv
      simp only [Option.some.injEq, Prod.mk.injEq] at h
      obtain ⟨rfl, rfl⟩ := h
      exact op_cvt hE ho hv
    · cases h
  · rename_i f first captured ho
    split at h
    · rename_i l h1 h2
      simp only [Option.some.injEq, Prod.mk.injEq] at h
      obtain ⟨rfl, rfl⟩ := h
      exact op_func ho h1 h2
    · cases h
  · rename_i ty l c ho
    exact op_makeSlice hE ho h
  · rename_i ty x lo hi mx ho
    exact op_slice hE ho h
  · rename_i st x f ho
    split at h
    · rename_i v' hv
      simp only [Option.some.injEq, Prod.mk.injEq] at h
      obtain ⟨rfl, rfl⟩ := h
      exact op_fieldAddr hE ho hv
    · cases h
  · rename_i st x f ho
    split at h
    · rename_i v' hv
      simp only [Option.some.injEq, Prod.mk.injEq] at h
      obtain ⟨rfl, rfl⟩ := h
      exact op_field hE ho hv
    · cases h
  · rename_i ty x ix ho
    split at h
    · rename_i v' hv
      simp only [Option.some.injEq, Prod.mk.injEq] at h
      obtain ⟨rfl, rfl⟩ := h
      exact op_indexAddr hE ho hv
    · cases h
  · rename_i ty x ix ho
    split at h
    · rename_i v' hv
      simp only [Option.some.injEq, Prod.mk.injEq] at h
      obtain ⟨rfl, rfl⟩ := h
      exact op_index hE ho hv
    · cases h
  · rename_i x i ho
    split at h
    · rename_i l hl
      split at h
      · rename_i v' hv
        simp only [Option.some.injEq, Prod.mk.injEq] at h
        obtain ⟨rfl, rfl⟩ := h
        exact op_extract ho hl hv
      · cases h
    · cases h
  · rename_i c ho
    split at h
    · rename_i f hc
      split at h
      · rename_i g cap hev
        exact op_call hE hcall hfn ho hc (.inl hev) h
      · rename_i g hev
        exact op_call (cap := []) hE hcall hfn ho hc (.inr ⟨hev, rfl⟩) (by simpa using h)
      · cases h
    · rename_i hc
      split at h
      · rename_i x hx
        split at h
        · rename_i v' hv
          simp only [Option.some.injEq, Prod.mk.injEq] at h
          obtain ⟨rfl, rfl⟩ := h
          exact op_len hE ho hc hx hv
        · cases h
      · cases h
    · rename_i hc
      split at h
      · rename_i x y hx
        cases hb : Nat.beq c.argTypes.size 2
        · simp [hb] at h
        · simp only [hb, cond_true] at h
          exact op_append hE ho hc hx (Nat.eq_of_beq_eq_true hb) h
      · cases h
    · rename_i hc
      split at h
      · rename_i x hx
        split at h
        · rename_i v' hv
          simp only [Option.some.injEq, Prod.mk.injEq] at h
          obtain ⟨rfl, rfl⟩ := h
          exact op_clear hE ho hc hx hv
        · cases h
      · cases h
    · rename_i hc
      split at h
      · rename_i l hl
        split at h
        · rename_i v' hv
          simp only [Option.some.injEq, Prod.mk.injEq] at h
          obtain ⟨rfl, rfl⟩ := h
          exact op_max ho hc hl hv
        · cases h
      · cases h
    · rename_i hc
      split at h
      · rename_i l hl
        split at h
        · rename_i v' hv
          simp only [Option.some.injEq, Prod.mk.injEq] at h
          obtain ⟨rfl, rfl⟩ := h
          exact op_min ho hc hl hv
        · cases h
      · cases h
    · cases h
  · cases h
end
end Ab
end Go.Proofs.Ytddiclnkfhldlaa
