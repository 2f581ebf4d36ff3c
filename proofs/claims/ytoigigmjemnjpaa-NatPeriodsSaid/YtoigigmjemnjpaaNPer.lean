/-
  The walk of the law NatPeriods, by the interpreter: the loop by induction over its rounds, the rest by one run each.
  Conditions: none.
-/
import Derived.Test.YtoigigmjemnjpaaNPerA
import Derived.Test.YtoigigmjemnjpaaNPerB
import Derived.Test.YtoigigmjemnjpaaNPerC
import Derived.Test.YtoigigmjemnjpaaNPerD
namespace Go.Proofs.Ytoigigmjemnjpaa
namespace Ab
open Go.RowKit
set_option linter.unusedVariables false
set_option maxRecDepth 100000
noncomputable def hkP (b u : Bool) : Nat → Sl → St → Option (AE × Sl × St) := fun id t s =>
  bif Nat.beq id 0 then match lget t 8 with
    | .one (.c (.ptr (some (g, _)))) => bif subOK (fOf g s).1 (fOf g s).2 t s (slC b u 0) (stI b u) then some (.normal, slX b u (.sym 7), st0) else none
    | _ => none
  else none
noncomputable def runP (b u : Bool) : Bool :=
  match codeH (eX (b && u)) (fnA (eX (b && u)) 60) (hkP b u) pC (pad Try.f3.ntmps [.one (.c (.sym 0)), .one (.c (.bool b)), .one (.c (.bool u))]) st0 with
  | some (.ret, t', s') => (match resultsA (eX (b && u)) t' s' Try.f3.results.toList with | some [.c (.bool true)] => true | _ => false)
  | _ => false
theorem runP_all : (runP true true && runP true false && runP false true && runP false false) = true := by kernel_rfl
theorem rounds (b u : Bool) (h1 : rdAll b u 51 1 = true) (h2 : rdAll b u 51 52 = true) (h3 : rdAll b u 51 103 = true) (h4 : rdAll b u 51 154 = true) (h5 : rdAll b u 51 205 = true) : ∀ j, 1 ≤ j → j < 256 → rdP b u j (stC b u j) = true ∧ exP b u j (stC b u j) = true := by
  intro j g1 g2
  by_cases k1 : j < 52
  · exact rdAll_ok h1 j (by omega) (by omega)
  · by_cases k2 : j < 103
    · exact rdAll_ok h2 j (by omega) (by omega)
    · by_cases k3 : j < 154
      · exact rdAll_ok h3 j (by omega) (by omega)
      · by_cases k4 : j < 205
        · exact rdAll_ok h4 j (by omega) (by omega)
        · exact rdAll_ok h5 j (by omega) (by omega)
section
variable {n m : Nat} {base : Nat} {w0 : World} {b u : Bool}
theorem envP (hn : n ≤ 255) {k : Nat} {e : Bool} (he : decide (k < n) = e) : EnvOK Try.prog (vP n m) (eP k e) := env_ok (tabP_ok n m k e he) (cvP_ok n m hn) (vP_one n m)
/-- A round that goes on. -/
theorem round_ok (hn : n ≤ 255) {k : Nat} {s : St} (hk : k < n) (h : rdP b u k s = true) {a : Act} {w : World} (hh : Here (vP n m) base w0 (slC b u k) s a w) {Q : Exit → Act → World → Prop} (hQ : ∀ a' w', Here (vP n m) base w0 (slC b u (k + 1)) (stC b u (k + 1)) a' w' → Q .normal a' w') : pL.wp Try.prog Q a w := by
  unfold rdP at h
  split at h
  · rename_i t' s' hc
    exact code_here (envP hn (by simpa using hk)) (noExt_ok rfl) 30 1000 hc hh (fun a' w' h' => hQ a' w' (here_sub (vP_one n m) _ _ h h'))
  · cases h
/-- The round that ends. -/
theorem last_ok (hn : n ≤ 255) {k : Nat} {s : St} (hk : k = n) (h : exP b u k s = true) {a : Act} {w : World} (hh : Here (vP n m) base w0 (slC b u k) s a w) {Q : Exit → Act → World → Prop} (hQ : ∀ a' w', Here (vP n m) base w0 (slX b u (iC (sentN b u k))) st0 a' w' → Q (.exit 0) a' w') : pL.wp Try.prog Q a w := by
  unfold exP at h
  split at h
  · rename_i t' s' hc
    exact code_here (envP hn (by simp [hk])) (noExt_ok rfl) 30 1000 hc hh (fun a' w' h' => hQ a' w' (here_sub (vP_one n m) _ _ h h'))
  · cases h
theorem loop_ok (hn : n ≤ 255) (hr : ∀ j, 1 ≤ j → j < 256 → rdP b u j (stC b u j) = true ∧ exP b u j (stC b u j) = true) {Q : Exit → Act → World → Prop} (hQ : ∀ a' w', Here (vP n m) base w0 (slX b u (iC (sentN b u n))) st0 a' w' → Q (.exit 0) a' w') : ∀ (d k : Nat), k + d = n → 1 ≤ k → ∀ a w, Here (vP n m) base w0 (slC b u k) (stC b u k) a w → LoopWp Try.prog pL Q a w
  | 0, k, hd, h1, a, w, hh => by
    have hk : k = n := by omega
    refine loop_one (last_ok hn hk (hr k h1 (by omega)).2 hh (fun a' w' h' => ?_))
    exact hQ a' w' (hk ▸ h')
  | d + 1, k, hd, h1, a, w, hh => by
    refine loop_one (round_ok hn (by omega) (hr k h1 (by omega)).1 hh (fun a' w' h' => ?_))
    exact loop_ok hn hr hQ d (k + 1) (by omega) (by omega) a' w' h'
/-- What was sent, as a symbol. -/
theorem sent_sym {a : Act} {w : World} (h : Here (vP n (sentN b u n)) base w0 (slX b u (iC (sentN b u n))) st0 a w) : Here (vP n (sentN b u n)) base w0 (slX b u (.sym 7)) st0 a w := by
  obtain ⟨ρ, ht, rest⟩ := h
  refine ⟨ρ, ⟨ht.z, fun d => ?_, ht.df⟩, rest⟩
  have hv := ht.v d
  unfold slX at hv ⊢
  rw [lget_lset] at hv ⊢
  by_cases h9 : d = 9 ∧ 9 < (lset (lset (lset (anyT 55 ⟨55, .leaf⟩) 0 (.one (.c (.sym 0)))) 1 (.one (.c (.bool b)))) 2 (.one (.c (.bool u)))).length
  · rw [if_pos h9] at hv ⊢
    exact hv
  · rw [if_neg h9] at hv ⊢
    exact hv
theorem hook_ok (hn : n ≤ 255) (h0 : rdP b u 0 (stI b u) = true) (e0 : exP b u 0 (stI b u) = true) (hr : ∀ j, 1 ≤ j → j < 256 → rdP b u j (stC b u j) = true ∧ exP b u j (stC b u j) = true) : HookOK Try.prog (vP n (sentN b u n)) base w0 pC (hkP b u) := by
  intro id blk hb t s e t' s' hk a w hh Q hQ
  unfold hkP at hk
  by_cases hid : id = 0
  · subst hid
    rw [pL_is] at hb
    simp only [List.mem_cons, List.not_mem_nil, or_false] at hb
    subst hb
    simp only [Nat.beq_refl, cond_true] at hk
    split at hk
    · rename_i g o hg
      cases hs : subOK (fOf g s).1 (fOf g s).2 t s (slC b u 0) (stI b u)
      · simp [hs] at hk
      · simp only [hs, cond_true, Option.some.injEq, Prod.mk.injEq] at hk
        obtain ⟨rfl, rfl, rfl⟩ := hk
        have h1 := here_sub (vP_one n (sentN b u n)) _ _ hs hh
        refine wp_block (wp_of_loop ?_)
        have hend : ∀ a' w', Here (vP n (sentN b u n)) base w0 (slX b u (iC (sentN b u n))) st0 a' w' → Exit.inBlock 0 Q (.exit 0) a' w' := by
          intro a' w' h'
          show (if 0 = 0 then Q .normal a' w' else Q (.exit 0) a' w')
          rw [if_pos rfl]
          exact hQ a' w' (sent_sym h')
        by_cases hz : n = 0
        · refine loop_one (last_ok hn hz.symm e0 h1 (fun a' w' h' => ?_))
          exact hend a' w' (by rw [hz] at h' ⊢; exact h')
        · refine loop_one (round_ok hn (by omega) h0 h1 (fun a' w' h' => ?_))
          exact loop_ok hn hr hend (n - 1) 1 (by omega) (by omega) a' w' h'
    · cases hk
  · simp only [beq_no hid, cond_false] at hk
    cases hk
end
theorem walkP (w : World) (n : Nat) (hn : n ≤ 255) (b u : Bool) (h0 : rdP b u 0 (stI b u) = true) (e0 : exP b u 0 (stI b u) = true) (hr : ∀ j, 1 ≤ j → j < 256 → rdP b u j (stC b u j) = true ∧ exP b u j (stC b u j) = true) (hrun : runP b u = true) :
    Calls Try.prog 3 #[.int .u8 n, .bool b, .bool u] w fun e w' => e = .returned (.bool true) ∧ Below w.heap.size w w' := by
  have args : F2 (VR (vP n (sentN b u n)) ρ0) [.one (.c (.sym 0)), .one (.c (.bool b)), .one (.c (.bool u))] #[.int .u8 n, .bool b, .bool u].toList := ⟨rfl, rfl, rfl, trivial⟩
  unfold runP at hrun
  split at hrun
  · rename_i t' s' hc
    split at hrun
    · rename_i hres
      exact here_call (env_ok (tabX_ok n (sentN b u n) hn (b && u) (by cases b <;> cases u <;> rfl)) (cvP_ok n (sentN b u n) hn) (vP_one n (sentN b u n))) (noExt_ok rfl) 60 Try.func3 pC_is args (by rw [Try.ntmps3]; show 3 ≤ _; omega) w (hook_ok hn h0 e0 hr) hc (.inr rfl) hres
    · cases hrun
  · cases hrun
end Ab
namespace natPeriods
open Ab RowKit
theorem natPeriods_walk (w : World) (a0 : Int) (h0 : 0 ≤ a0 ∧ a0 ≤ 255) (a1 a2 : Bool) :
    Calls Try.prog 3 #[.int .u8 a0, .bool a1, .bool a2] w fun e w' => e = .returned (.bool true) ∧ Below w.heap.size w w' := by
  obtain ⟨n, rfl⟩ := Int.eq_ofNat_of_zero_le h0.1
  have hn : n ≤ 255 := by omega
  have hr := runP_all
  simp only [Bool.and_eq_true] at hr
  cases a1 <;> cases a2
  · exact walkP w n hn _ _ rd0FF ex0FF (rounds _ _ rdFF1 rdFF2 rdFF3 rdFF4 rdFF5) hr.2
  · exact walkP w n hn _ _ rd0FT ex0FT (rounds _ _ rdFT1 rdFT2 rdFT3 rdFT4 rdFT5) hr.1.2
  · exact walkP w n hn _ _ rd0TF ex0TF (rounds _ _ rdTF1 rdTF2 rdTF3 rdTF4 rdTF5) hr.1.1.2
  · exact walkP w n hn _ _ rd0TT ex0TT (rounds _ _ rdTT1 rdTT2 rdTT3 rdTT4 rdTT5) hr.1.1.1
end natPeriods
end Go.Proofs.Ytoigigmjemnjpaa
