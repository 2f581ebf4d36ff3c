/-
  Fresh symbols for the cells of a value; a region in pieces, deep memory kept beside.
  Conditions: none.
-/
import Derived.Test.YtbfppnppijcnlaaGreatChL
import Derived.Test.YtbfppnppijcnlaaGreatAbsKp
namespace Go.Proofs.YtbfppnppijcnlaaGreat
namespace Ab
open Go.RowKit
set_option linter.unusedVariables false
set_option linter.unusedSimpArgs false
noncomputable def rfreeC (lo hi : Nat) : AC → Bool
  | .sym i => Nat.blt i lo || Nat.ble hi i
  | _ => true
noncomputable def rfreeL (lo hi : Nat) : List AC → Bool
  | [] => true
  | x :: r => rfreeC lo hi x && rfreeL lo hi r
noncomputable def rfree1 (lo hi : Nat) : A1 → Bool
  | .c x => rfreeC lo hi x
  | .agg l => rfreeL lo hi l
noncomputable def rfreeV (lo hi : Nat) : AV → Bool
  | .one x => rfree1 lo hi x
  | .tup l => l.all (rfree1 lo hi)
  | .fn _ cap => rfreeL lo hi cap
  | _ => true
noncomputable def rfreeT (lo hi : Nat) (t : Sl) : Nat → Bool
  | 0 => true
  | d + 1 => rfreeV lo hi (lget t d) && rfreeT lo hi t d
noncomputable def rfreeM (lo hi : Nat) : Option (Nat × Nat) → Bool
  | some (j, 0) => Nat.blt j lo || Nat.ble hi j
  | _ => true
noncomputable def rfreeH (lo hi : Nat) : List (Nat × Blk) → Bool
  | [] => true
  | x :: r => rfreeL lo hi x.2.cells && rfreeM lo hi x.2.more && rfreeH lo hi r
section
variable {V V' : Nat → Value} {lo hi : Nat} {ρ : Rho}
theorem cr_raV (hV : ∀ i, (i < lo ∨ hi ≤ i) → V i = V' i) : ∀ {x : AC} {v : Value}, rfreeC lo hi x = true → CR V ρ x v → CR V' ρ x v := by
  intro x v h hx
  cases x with
  | sym i =>
    have hi : i < lo ∨ hi ≤ i := by
      have h : (Nat.blt i lo || Nat.ble hi i) = true := h
      simp only [Bool.or_eq_true] at h
      rcases h with h | h
      · exact .inl (Nat.le_of_ble_eq_true (show Nat.ble (i + 1) lo = true from h))
      · exact .inr (Nat.le_of_ble_eq_true h)
    have hx : v = V i := hx
    show v = V' i
    rw [hx, hV i hi]
  | ptr p => cases p <;> exact hx
  | slice p n c => cases p <;> exact hx
  | _ => exact hx
theorem crl_raV (hV : ∀ i, (i < lo ∨ hi ≤ i) → V i = V' i) : ∀ {l : List AC} {m : List Value}, rfreeL lo hi l = true → F2 (CR V ρ) l m → F2 (CR V' ρ) l m
  | [], [], _, _ => trivial
  | x :: r, y :: s, h, hx => by
    simp only [rfreeL, Bool.and_eq_true] at h
    exact ⟨cr_raV hV h.1 hx.1, crl_raV hV h.2 hx.2⟩
  | [], _ :: _, _, h => h.elim
  | _ :: _, [], _, h => h.elim
theorem v1_raV (hV : ∀ i, (i < lo ∨ hi ≤ i) → V i = V' i) {x : A1} {v : Value} (h : rfree1 lo hi x = true) (hx : V1R V ρ x v) : V1R V' ρ x v := by
  cases x with
  | c x => exact cr_raV hV h hx
  | agg l =>
    obtain ⟨cs, h1, h2⟩ := hx
    exact ⟨cs, h1, crl_raV hV h h2⟩
theorem v1l_raV (hV : ∀ i, (i < lo ∨ hi ≤ i) → V i = V' i) : ∀ {l : List A1} {m : List Value}, l.all (rfree1 lo hi) = true → F2 (V1R V ρ) l m → F2 (V1R V' ρ) l m
  | [], [], _, _ => trivial
  | x :: r, y :: s, h, hx => by
    simp only [List.all_cons, Bool.and_eq_true] at h
    exact ⟨v1_raV hV h.1 hx.1, v1l_raV hV h.2 hx.2⟩
  | [], _ :: _, _, h => h.elim
  | _ :: _, [], _, h => h.elim
theorem vr_raV (hV : ∀ i, (i < lo ∨ hi ≤ i) → V i = V' i) {x : AV} {v : Value} (h : rfreeV lo hi x = true) (hx : VR V ρ x v) : VR V' ρ x v := by
  cases x with
  | any => trivial
  | undef => exact hx
  | one x => exact v1_raV hV h hx
  | tup l =>
    obtain ⟨vs, h1, h2⟩ := hx
    exact ⟨vs, h1, v1l_raV hV h h2⟩
  | fn f cap =>
    obtain ⟨cs, h1, h2⟩ := hx
    exact ⟨cs, h1, crl_raV hV h h2⟩
theorem rfreeT_ok {t : Sl} : ∀ {n : Nat}, rfreeT lo hi t n = true → ∀ d, d < n → rfreeV lo hi (lget t d) = true
  | n + 1, h, d, hd => by
    simp only [rfreeT, Bool.and_eq_true] at h
    by_cases e : d = n
    · rw [e]
      exact h.1
    · exact rfreeT_ok h.2 d (by omega)
theorem tr_raV (hV : ∀ i, (i < lo ∨ hi ≤ i) → V i = V' i) {t : Sl} {a : Act} (h : rfreeT lo hi t t.length = true) (ht : TR V ρ t a) : TR V' ρ t a :=
  ⟨ht.z, fun d => by
    by_cases hd : d < t.length
    · exact vr_raV hV (rfreeT_ok h d hd) (ht.v d)
    · have := ht.v d
      rw [lget_far hd] at this ⊢
      exact this, ht.df⟩
theorem rfreeH_ok : ∀ {H : List (Nat × Blk)}, rfreeH lo hi H = true → ∀ i B, look H i = some B → rfreeL lo hi B.cells = true ∧ rfreeM lo hi B.more = true
  | x :: r, h, i, B, hB => by
    simp only [rfreeH, Bool.and_eq_true] at h
    rw [look_cons] at hB
    by_cases e : x.1 = i
    · rw [if_pos e, Option.some.injEq] at hB
      subst hB
      exact h.1
    · rw [if_neg e] at hB
      exact rfreeH_ok h.2 i B hB
theorem br_raV (hV : ∀ i, (i < lo ∨ hi ≤ i) → V i = V' i) {b : Nat} {B : Blk} {cs : Array Value} (h1 : rfreeL lo hi B.cells = true) (h2 : rfreeM lo hi B.more = true) (h : BR V ρ b B cs) : BR V' ρ b B cs := by
  obtain ⟨pre, post, g1, g2, g3⟩ := h
  refine ⟨pre, post, g1, crl_raV hV h1 g2, ?_⟩
  unfold MR at g3 ⊢
  cases hm : B.more with
  | none => simpa [hm] using g3
  | some x =>
    obtain ⟨j, z⟩ := x
    simp only [hm] at g3 ⊢
    by_cases hz : z = 0
    · subst hz
      simp only [if_pos] at g3 ⊢
      have hj : j < lo ∨ hi ≤ j := by
        rw [hm] at h2
        have h2 : (Nat.blt j lo || Nat.ble hi j) = true := h2
        simp only [Bool.or_eq_true] at h2
        rcases h2 with h2 | h2
        · exact .inl (Nat.le_of_ble_eq_true (show Nat.ble (j + 1) lo = true from h2))
        · exact .inr (Nat.le_of_ble_eq_true h2)
      rw [← hV j hj]
      exact g3
    · simp only [if_neg hz] at g3 ⊢
      exact g3
theorem rep_raV (hV : ∀ i, (i < lo ∨ hi ≤ i) → V i = V' i) {s : St} {w : World} (h : rfreeH lo hi s.heap = true) (hr : Rep V ρ s w) : Rep V' ρ s w := by
  refine ⟨fun i B hB => ?_, hr.inj, hr.bnd, hr.lt⟩
  obtain ⟨b, cs, h1, h2, h3⟩ := hr.h i B hB
  obtain ⟨k1, k2⟩ := rfreeH_ok h i B hB
  exact ⟨b, cs, h1, h2, br_raV hV k1 k2 h3⟩
end
/-- The symbols from lo on stand for the cells cs. -/
noncomputable def withVs (V : Nat → Value) (lo : Nat) (cs : List Value) : Nat → Value := fun i => if i < lo then V i else match cs[i - lo]? with | some v => v | none => V i
theorem withVs_out {V : Nat → Value} {lo : Nat} {cs : List Value} : ∀ i, (i < lo ∨ lo + cs.length ≤ i) → V i = withVs V lo cs i := by
  intro i hi
  unfold withVs
  by_cases h : i < lo
  · rw [if_pos h]
  · rw [if_neg h, List.getElem?_eq_none (by omega)]
theorem withVs_in {V : Nat → Value} {lo j : Nat} {cs : List Value} {v : Value} (h : cs[j]? = some v) : withVs V lo cs (lo + j) = v := by
  unfold withVs
  rw [if_neg (by omega), show lo + j - lo = j by omega, h]
theorem withVs_one {V : Nat → Value} {lo : Nat} {cs : List Value} (h1 : ∀ i, (V i).oneCell' = true) (h2 : ∀ v ∈ cs, v.oneCell' = true) (i : Nat) : (withVs V lo cs i).oneCell' = true := by
  unfold withVs
  split
  · exact h1 i
  · split
    · rename_i v hv
      exact h2 v (List.mem_of_getElem? hv)
    · exact h1 i
/-- Some operations of a region, the rest to come. -/
theorem ops_takeK {P : Program} {V : Nat → Value} {E : Env} {DK : Nat → Prop} {wK : World} (hE : EnvOK P V E) {call : Call1} (hcall : CallOKK DK wK P V call) (hfn : CallFnK E call) (hup : CallUp call) {ops : Array Oper} {Q : Exit → Act → World → Prop} : ∀ (l : List Oper) (k m : Nat), (∀ i o, l[i]? = some o → ops[k + i]? = some o) → ∀ {t t' : Sl} {s s' : St}, opsA E call ops l t s = some (t', s') → ∀ {ρ : Rho} {a : Act} {w : World}, TR V ρ t a → Rep V ρ s w → Free ρ s s' → KP DK wK ρ w →
    (∀ ρ' a' w', Goes V ρ s w s' w' ρ' → TR V ρ' t' a' → KP DK wK ρ' w' → wpOps P ops Q (List.range' (k + l.length) m) a' w') → wpOps P ops Q (List.range' k (l.length + m)) a w
  | [], k, m, hk, t, t', s, s', h, ρ, a, w, ht, hr, hf, hk0, hQ => by
    simp only [opsA, Option.some.injEq, Prod.mk.injEq] at h
    obtain ⟨rfl, rfl⟩ := h
    have := hQ ρ a w (Goes.refl V hr) ht hk0
    simpa using this
  | o :: l, k, m, hk, t, t', s, s', h, ρ, a, w, ht, hr, hf, hk0, hQ => by
    simp only [opsA] at h
    split at h
    · rename_i v s1 h1
      have hi : ops[k]? = some o := hk 0 o rfl
      have hup1 := opsA_up hup l h
      rw [List.length_cons, Nat.add_right_comm, List.range'_succ, wpOps_cons]
      refine step_okK hE hcall hfn hi h1 ht hr (hf.left hup1.1 hup1.2) hk0 ?_
      intro ρ1 c w1 hg hv
      refine ops_takeK hE hcall hfn hup l (k + 1) m (fun i o' hi' => by rw [Nat.add_assoc, Nat.add_comm 1 i]; exact hk (i + 1) o' (by simpa using hi')) h (tr_put (ht.mono V hg.2.2) hv o.dst) hg.1 (hf.right hg.2.1) (hk0.ext hg.2.1) ?_
      intro ρ2 a2 w2 hg2 ht2 hk2
      have := hQ ρ2 a2 w2 (hg.trans V hg2) ht2 hk2
      rw [List.length_cons] at this
      rw [show k + 1 + l.length = k + (l.length + 1) by omega]
      exact this
    · cases h
end Ab
end Go.Proofs.YtbfppnppijcnlaaGreat
