/-
  Slices of slices, appends, clear, calls.
  Conditions: none.
-/
import Derived.Test.YtddiclnkfhldlaaAbsR
namespace Go.Proofs.Ytddiclnkfhldlaa
namespace Ab
set_option linter.unusedVariables false
set_option linter.unusedSimpArgs false
section
variable {P : Program} {V : Nat → Value} {E : Env}
theorem vr_c {ρ : Rho} {x : AC} {v : Value} (h : CR V ρ x v) : VR V ρ (.one (.c x)) v := h
theorem capMin_ok {ρ : Rho} {s : St} {w : World} {size : Nat} {p : Option (Nat × Nat)} {len m : Nat} {cap : Cap} (hr : Rep V ρ s w) (hc : CapR ρ cap m) (hn : len ≤ m) (hb : ∀ q, p = some q → ∃ b, ρ.blk q.1 = some b) : capMin s size p len cap ≤ m := by
  unfold capMin
  split
  · rename_i c
    have : m = c := hc
    omega
  · rename_i j
    have hc : ρ.cap j = some m := hc
    split
    · rename_i i
      cases hB : look s.heap i with
      | none => exact hn
      | some B =>
        simp only
        cases hm : B.more with
        | none => exact hn
        | some q =>
          obtain ⟨j', sz⟩ := q
          simp only
          cases hq : (Nat.beq j' j && Nat.beq sz size && !(Nat.beq size 0))
          · exact hn
          · simp only [cond_true]
            simp only [Bool.and_eq_true, Bool.not_eq_true'] at hq
            obtain ⟨⟨q1, q2⟩, q3⟩ := hq
            have q1 := Nat.eq_of_beq_eq_true q1
            have q2 := Nat.eq_of_beq_eq_true q2
            subst q1; subst q2
            obtain ⟨b, cs, g1, g2, pre, post, g3, g4, g5⟩ := hr.h i B hB
            unfold MR at g5
            rw [hm] at g5
            have hsz : ¬ sz = 0 := by
              intro e
              subst e
              cases q3
            simp only [if_neg hsz] at g5
            obtain ⟨m', k1, k2⟩ := g5
            rw [hc] at k1
            injection k1 with k1
            subst k1
            have hpos : 0 < sz := by
              cases sz with
              | zero => cases q3
              | succ n => omega
            have hl : B.cells.length ≤ m * sz := by
              rw [g4.length, ← k2, ← Array.length_toList, g3, List.length_append]
              omega
            have := Nat.div_le_of_le_mul (by rw [Nat.mul_comm]; exact hl : B.cells.length ≤ sz * m)
            exact Nat.max_le.2 ⟨hn, this⟩
    · exact hn
theorem run_bound (w : World) (k : IntKind) (i : Int) (y : Nat) (c : BoundsCode) (h0 : 0 ≤ i) (h1 : i ≤ y) : (Instr.sliceBound (.int k i) y c).run P w = .ok i.toNat w := by
  simp [Instr.sliceBound, asIntOf, h0, h1]
theorem run_bounds2 (w : World) (len cap : Nat) (lo hi : Option Value) (l h : Int) (hlo : (lo = none ∧ l = 0) ∨ ∃ k, lo = some (.int k l)) (hhi : (hi = none ∧ h = len) ∨ ∃ k, hi = some (.int k h)) (h0 : 0 ≤ l) (h1 : l ≤ h) (h2 : h ≤ cap) :
    (Instr.sliceBounds true len cap lo hi none).run P w = .ok (l.toNat, h.toNat, cap) w := by
  have e : l ≤ (h.toNat : Int) := by omega
  rcases hlo with ⟨rfl, rfl⟩ | ⟨k, rfl⟩ <;> rcases hhi with ⟨rfl, rfl⟩ | ⟨k', rfl⟩
  · simp [Instr.sliceBounds]
  · simp [Instr.sliceBounds, run_bound w k' h cap _ (by omega) h2]
  · simp [Instr.sliceBounds, run_bound w k l len _ h0 h1]
  · simp [Instr.sliceBounds, run_bound w k' h cap _ (by omega) h2, run_bound w k l h.toNat _ h0 e]
theorem run_bounds3 (w : World) (len cap : Nat) (lo hi mx : Option Value) (l h m : Int) (hlo : (lo = none ∧ l = 0) ∨ ∃ k, lo = some (.int k l)) (hhi : ∃ k, hi = some (.int k h)) (hmx : ∃ k, mx = some (.int k m)) (h0 : 0 ≤ l) (h1 : l ≤ h) (h2 : h ≤ m) (h3 : m ≤ cap) :
    (Instr.sliceBounds true len cap lo hi mx).run P w = .ok (l.toNat, h.toNat, m.toNat) w := by
  have e : l ≤ (h.toNat : Int) := by omega
  have e2 : h ≤ (m.toNat : Int) := by omega
  obtain ⟨k', rfl⟩ := hhi
  obtain ⟨k2, rfl⟩ := hmx
  rcases hlo with ⟨rfl, rfl⟩ | ⟨k, rfl⟩
  · simp [Instr.sliceBounds, run_bound w k2 m cap _ (by omega) h3, run_bound w k' h m.toNat _ (by omega) e2]
  · simp [Instr.sliceBounds, run_bound w k2 m cap _ (by omega) h3, run_bound w k' h m.toNat _ (by omega) e2, run_bound w k l h.toNat _ h0 e]
theorem run_sliceOf (w : World) (ty e : Nat) (i : TypeInfo) (a : Option Addr) (len cap : Nat) (lo hi mx : Option Value) (l h m : Nat) (hu : P.underlying ty = some (.slice e)) (hi' : P.info? e = some i) (hb : (Instr.sliceBounds true len cap lo hi mx).run P w = .ok (l, h, m) w) :
    (Instr.sliceAt ty (.slice a len cap) lo hi mx).run P w = .ok (.slice (if m = l then a else a.map (·.add (l * i.size))) (h - l) (m - l)) w := by
  simp [Instr.sliceAt, run_underlying hu, Instr.slice, hb, sizeOf, typeInfo, hi']
theorem optLo {ρ : Rho} {t : Sl} {a : Act} (ht : TR V ρ t a) {lo : Option Operand} {l d : Int} (h : (match lo.map (eval t) with | none => some d | some v => litInt v) = some l) : (lo.map a.eval = none ∧ l = d) ∨ ∃ k, lo.map a.eval = some (.int k l) := by
  cases lo with
  | none =>
    simp only [Option.map_none, Option.some.injEq] at h
    exact .inl ⟨rfl, h.symm⟩
  | some x =>
    simp only [Option.map_some] at h
    obtain ⟨k, hk⟩ := litInt_ok h (eval_ok ht x)
    exact .inr ⟨k, by simp [hk]⟩
theorem add_lit' (b off n : Nat) : (⟨b, off, none⟩ : Addr).add n = ⟨b, off + n, none⟩ := by
  unfold Addr.add
  split <;> simp_all
/-- What a slice is, whatever its address. -/
theorem slice_form {ρ : Rho} {p : Option (Nat × Nat)} {len : Nat} {cap : Cap} {u : Value} (h : CR V ρ (.slice p len cap) u) :
    ∃ q m, u = .slice q len m ∧ CapR ρ cap m ∧ len ≤ m ∧ ((p = none ∧ q = none) ∨ ∃ i off b, p = some (i, off) ∧ ρ.blk i = some b ∧ q = some ⟨b, off, none⟩) := by
  cases p with
  | none =>
    obtain ⟨m, g1, g2, rfl⟩ := h
    exact ⟨none, m, rfl, g1, g2, .inl ⟨rfl, rfl⟩⟩
  | some p =>
    obtain ⟨b, m, g0, g1, g2, rfl⟩ := h
    exact ⟨_, m, rfl, g1, g2, .inr ⟨p.1, p.2, b, rfl, g0, rfl⟩⟩
theorem op_slice (hE : EnvOK P V E) {t : Sl} {s s' : St} {o : Oper} {ty : Nat} {x : Operand} {lo hi mx : Option Operand} {v : AV} (ho : o.op = .slice ty x lo hi mx) (h : sliceA E s ty (eval t x) (lo.map (eval t)) (hi.map (eval t)) (mx.map (eval t)) = some (v, s')) : OpOK P V t s o v s' := by
  intro ρ a w ht hr hf K Q hK
  have hx := eval_ok ht x
  have run1 : ∀ c, (Instr.sliceAt ty (a.eval x) (lo.map a.eval) (hi.map a.eval) (mx.map a.eval)).run P w = .ok c w → (execOp a.eval o).run P w = .ok (.value c) w := by
    intro c hc
    simp only [execOp, ho, Sem.run_bind, hc, Result.andThen_ok, Sem.run_pure]
  unfold sliceA at h
  split at h
  · rename_i m0 hm0
    split at h
    · rename_i ti p len cap m l hh hti he hm hl hhi
      rw [he] at hx
      obtain ⟨q, c, hu, hc, hn, hq⟩ := slice_form hx
      obtain ⟨i, z, h1, h2, h3, h4, h5, h6, h7⟩ := zero_ok hE hti ρ
      split at h
      · rename_i e hd
        rw [hd] at h7
        cases hte : E.ty e with
        | none => simp [hte] at h
        | some te =>
          simp only [hte] at h
          obtain ⟨j, z', j1, j2, _⟩ := zero_ok hE hte ρ
          split at h
          · rename_i hin
            obtain ⟨b0, b1, b2, b3⟩ := hin
            injection h with h
            injection h with e1 e2
            subst e1; subst e2
            have hcm := capMin_ok (size := te.size) hr hc hn (p := p) (by
              rintro q' rfl
              rcases hq with ⟨hq, _⟩ | ⟨i', off, b, hq, hb, _⟩
              · cases hq
              · injection hq with hq
                subst hq
                exact ⟨b, hb⟩)
            have hlo := optLo ht hl
            have hhi' : ∃ k, hi.map a.eval = some (.int k hh) := by
              cases hi with
              | none => simp at hhi
              | some y =>
                simp only [Option.map_some] at hhi
                obtain ⟨k, hk⟩ := litInt_ok hhi (eval_ok ht y)
                exact ⟨k, by simp [hk]⟩
            have hmx' : ∃ k, mx.map a.eval = some (.int k m) := by
              cases mx with
              | none => simp at hm0
              | some y =>
                simp only [Option.map_some, Option.some.injEq] at hm0
                subst hm0
                obtain ⟨k, hk⟩ := litInt_ok hm (eval_ok ht y)
                exact ⟨k, by simp [hk]⟩
            have hbd := run_bounds3 (P := P) w len c _ _ _ l hh m hlo hhi' hmx' b0 b1 b2 (by omega)
            have hrun := run_sliceOf w ty e j q len c _ _ _ _ _ _ h7 j1 hbd
            rw [← hu] at hrun
            refine wp_val (run1 _ hrun) (hK ρ _ w (Goes.refl V hr) ?_)
            rw [j2]
            have hml : (m.toNat = l.toNat) ↔ (l = m) := by omega
            rcases hq with ⟨rfl, rfl⟩ | ⟨i', off, b, rfl, hb, rfl⟩
            · refine vr_c ?_
              have e1 : (if l = m then (none : Option (Nat × Nat)) else none) = none := by split <;> rfl
              have e2 : (if m.toNat = l.toNat then (none : Option Addr) else Option.map (fun x : Addr => x.add (l.toNat * te.size)) none) = none := by split <;> rfl
              rw [e1, e2]
              exact ⟨m.toNat - l.toNat, rfl, by omega, rfl⟩
            · refine vr_c ?_
              by_cases hlm : l = m
              · rw [if_pos hlm, if_pos (hml.2 hlm)]
                exact ⟨b, m.toNat - l.toNat, hb, rfl, by omega, rfl⟩
              · rw [if_neg hlm, if_neg (fun e => hlm (hml.1 e))]
                refine ⟨b, m.toNat - l.toNat, hb, rfl, by omega, ?_⟩
                simp [add_lit']
          · cases h
      · cases h
    · cases h
  · rename_i hm0
    have hmx : mx.map a.eval = none := by
      cases mx with
      | none => rfl
      | some y => simp at hm0
    split at h
    · rename_i ti p len cap hti he
      rw [he] at hx
      obtain ⟨q, c, hu, hc, hn, hq⟩ := slice_form hx
      obtain ⟨i, z, h1, h2, h3, h4, h5, h6, h7⟩ := zero_ok hE hti ρ
      split at h
      · rename_i e hd
        rw [hd] at h7
        cases hte : E.ty e with
        | none => simp [hte] at h
        | some te =>
          simp only [hte] at h
          obtain ⟨j, z', j1, j2, _⟩ := zero_ok hE hte ρ
          have hcm := capMin_ok (size := te.size) hr hc hn (p := p) (by
            rintro q' rfl
            rcases hq with ⟨hq, _⟩ | ⟨i', off, b, hq, hb, _⟩
            · cases hq
            · injection hq with hq
              subst hq
              exact ⟨b, hb⟩)
          split at h
          · rename_i l hh hl hhi
            have hlo := optLo ht hl
            have hhi' := optLo ht hhi
            split at h
            · rename_i hin
              obtain ⟨b0, b1⟩ := hin
              split at h
              · rename_i c0
                have hc0 : c = c0 := hc
                subst hc0
                split at h
                · rename_i b2
                  injection h with h
                  injection h with e1 e2
                  subst e1; subst e2
                  have hbd := run_bounds2 (P := P) w len c _ _ l hh hlo hhi' b0 b1 b2
                  rw [← hmx] at hbd
                  have hrun := run_sliceOf w ty e j q len c _ _ _ _ _ _ h7 j1 hbd
                  rw [← hu] at hrun
                  refine wp_val (run1 _ hrun) (hK ρ _ w (Goes.refl V hr) ?_)
                  rw [j2]
                  have hml : (c = l.toNat) ↔ (l = c) := by omega
                  rcases hq with ⟨rfl, rfl⟩ | ⟨i', off, b, rfl, hb, rfl⟩
                  · refine vr_c ?_
                    have e1 : (if l = (c : Int) then (none : Option (Nat × Nat)) else none) = none := by split <;> rfl
                    have e2 : (if c = l.toNat then (none : Option Addr) else Option.map (fun x : Addr => x.add (l.toNat * te.size)) none) = none := by split <;> rfl
                    rw [e1, e2]
                    exact ⟨c - l.toNat, rfl, by omega, rfl⟩
                  · refine vr_c ?_
                    by_cases hlm : l = c
                    · rw [if_pos hlm, if_pos (hml.2 hlm)]
                      exact ⟨b, c - l.toNat, hb, rfl, by omega, rfl⟩
                    · rw [if_neg hlm, if_neg (fun e => hlm (hml.1 e))]
                      refine ⟨b, c - l.toNat, hb, rfl, by omega, ?_⟩
                      simp [add_lit']
                · cases h
              · rename_i jc
                split at h
                · rename_i b2
                  have b3 : hh ≤ (c : Int) := by omega
                  have hbd := run_bounds2 (P := P) w len c _ _ l hh hlo hhi' b0 b1 b3
                  rw [← hmx] at hbd
                  have hrun := run_sliceOf w ty e j q len c _ _ _ _ _ _ h7 j1 hbd
                  rw [← hu] at hrun
                  split at h
                  · rename_i hl0
                    injection h with h
                    injection h with e1 e2
                    subst e1; subst e2
                    refine wp_val (run1 _ hrun) (hK ρ _ w (Goes.refl V hr) ?_)
                    subst hl0
                    rcases hq with ⟨rfl, rfl⟩ | ⟨i', off, b, rfl, hb, rfl⟩
                    · refine vr_c ?_
                      refine ⟨c, hc, by omega, ?_⟩
                      simp
                    · refine vr_c ?_
                      refine ⟨b, c, hb, hc, by omega, ?_⟩
                      simp [add_lit']
                  · rename_i hl0
                    split at h
                    · rename_i hlt
                      split at h
                      · rename_i i' off
                        injection h with h
                        injection h with e1 e2
                        subst e1; subst e2
                        rcases hq with ⟨hq, _⟩ | ⟨i2, off2, b, hq, hb, rfl⟩
                        · cases hq
                        · injection hq with hq
                          injection hq with q1 q2
                          subst q1; subst q2
                          have hfc : ρ.cap s.ncap = none := hf.c _ (Nat.le_refl _) (by simp)
                          have hgo : Goes V ρ s w { s with ncap := s.ncap + 1 } w (ρ.setC s.ncap (c - l.toNat)) := by
                            have hle : Le ρ (ρ.setC s.ncap (c - l.toNat)) := setC_le hfc
                            refine ⟨⟨fun i B hB => ?_, hr.inj, hr.bnd, hr.lt⟩, ⟨fun _ _ => rfl, fun k hk => ?_, Nat.le_refl _, Nat.le_succ _, fun _ h => h, fun _ _ _ => rfl, fun i b h1 h2 => absurd h2 (by simp; omega), fun j h => .inl h, fun _ _ h => h, rfl, rfl, rfl, Nat.le_refl _⟩, hle⟩
                            · obtain ⟨b1, cs, g1, g2, g3⟩ := hr.h i B hB
                              exact ⟨b1, cs, g1, g2, g3.mono V hle⟩
                            · show (if k = s.ncap then _ else _) = _
                              rw [if_neg (nx hk)]
                          refine wp_val (run1 _ hrun) (hK _ _ w hgo ?_)
                          refine vr_c ?_
                          have hne : ¬ c = l.toNat := by omega
                          rw [j2, if_neg hne]
                          refine ⟨b, c - l.toNat, hb, by simp [CapR, Rho.setC], by omega, ?_⟩
                          simp [add_lit']
                      · cases h
                    · rename_i hge
                      split at h
                      · rename_i pp
                        injection h with h
                        injection h with e1 e2
                        subst e1; subst e2
                        rcases hq with ⟨hq, _⟩ | ⟨i2, off2, b, hq, hb, rfl⟩
                        · cases hq
                        · refine wp_val (run1 _ hrun) (hK ρ _ w (Goes.refl V hr) ?_)
                          have hz : hh.toNat - l.toNat = 0 := by omega
                          rw [hz]
                          by_cases hcl : c = l.toNat
                          · rw [if_pos hcl]
                            exact ⟨_, _, rfl⟩
                          · rw [if_neg hcl]
                            exact ⟨_, _, rfl⟩
                      · cases h
                · cases h
            · cases h
          · cases h
      · cases h
    · cases h
end
end Ab
end Go.Proofs.Ytddiclnkfhldlaa
