/-
  Code behind a state of which one block's place is kept; a call that is opened by hand.
  Conditions: none.
-/
import Derived.Test.YtbfppnppijcnlaaGreatGwL
namespace Go.Proofs.YtbfppnppijcnlaaGreat
namespace Ab
open Go.RowKit
set_option linter.unusedVariables false
set_option linter.unusedSimpArgs false
set_option maxRecDepth 100000
/-- Slots of which nothing is said. -/
noncomputable def anyL : Nat → Sl → Sl
  | 0, t => t
  | d + 1, t => anyL d (lset t d .any)
noncomputable def lowVk : AV → AV → Bool
  | _, .any => true
  | .one (.c (.ptr (some (0, q)))), .one (.c (.ptr (some (0, q')))) => Nat.beq q q'
  | _, _ => false
noncomputable def lowTk (t u : Sl) : Nat → Bool
  | 0 => true
  | d + 1 => lowVk (lget t d) (lget u d) && lowTk t u d
theorem lowTk_ok {t u : Sl} : ∀ {n : Nat}, lowTk t u n = true → ∀ d, d < n → lowVk (lget t d) (lget u d) = true
  | n + 1, h, d, hd => by
    simp only [lowTk, Bool.and_eq_true] at h
    by_cases e : d = n
    · rw [e]
      exact h.1
    · exact lowTk_ok h.2 d (by omega)
section
variable {P : Program} {V V' : Nat → Value} {E : Env} {DK : Nat → Prop} {wK : World}
theorem lowVk_ok {ρ ρ' : Rho} (h0 : ρ'.blk 0 = ρ.blk 0) {x y : AV} {v : Value} (h : lowVk x y = true) (hx : VR V ρ x v) : VR V ρ' y v := by
  unfold lowVk at h
  split at h
  · exact trivial
  · obtain ⟨b, h1, h2⟩ := hx
    have h := Nat.eq_of_beq_eq_true h
    subst h
    exact ⟨b, by rw [h0]; exact h1, h2⟩
  · cases h
/-- The slots of a call that waits: block 0 alone is known. -/
theorem low_ok {ρ ρ' : Rho} (h0 : ρ'.blk 0 = ρ.blk 0) {t u : Sl} {a : Act} (hl : Nat.beq t.length u.length = true) (h : lowTk t u u.length = true) (ht : TR V ρ t a) : TR V ρ' u a := by
  have hl := Nat.eq_of_beq_eq_true hl
  refine ⟨by rw [ht.z, hl], fun d => ?_, ht.df⟩
  by_cases hd : d < u.length
  · exact lowVk_ok h0 (lowTk_ok h d hd) (ht.v d)
  · have := ht.v d
    rw [lget_far (by omega)] at this
    rw [lget_far hd]
    exact this
/-- What holds here, block 0 at b0. -/
noncomputable def HereB (DK : Nat → Prop) (wK : World) (V : Nat → Value) (base : Nat) (w0 : World) (b0 : Nat) (t : Sl) (s : St) (a : Act) (w : World) : Prop :=
  ∃ ρ, TR V ρ t a ∧ Rep V ρ s w ∧ (∀ i, s.next ≤ i → ρ.blk i = none) ∧ (∀ i, s.ncap ≤ i → ρ.cap i = none) ∧ (∀ i b, ρ.blk i = some b → base ≤ b) ∧ RowKit.Below base w0 w ∧ base ≤ w.heap.size ∧ KP DK wK ρ w ∧ ρ.blk 0 = some b0
theorem hereB_goes {base b0 : Nat} {w0 w w' : World} {ρ ρ' : Rho} {t' : Sl} {s s' : St} {a' : Act} (hr : Rep V ρ s w) (h1 : ∀ i, s.next ≤ i → ρ.blk i = none) (h2 : ∀ i, s.ncap ≤ i → ρ.cap i = none) (h3 : ∀ i b, ρ.blk i = some b → base ≤ b) (h4 : RowKit.Below base w0 w) (h5 : base ≤ w.heap.size) (hk : KP DK wK ρ w) (h0 : ρ.blk 0 = some b0)
    (hg : Goes V ρ s w s' w' ρ') (ht : TR V ρ' t' a') : HereB DK wK V base w0 b0 t' s' a' w' := by
  have hn : 0 < s.next := by
    rcases Nat.eq_zero_or_pos s.next with e | e
    · rw [h1 0 (by omega)] at h0
      cases h0
    · exact e
  obtain ⟨g1, g2, g3⟩ := hg
  refine ⟨ρ', ht, g1, fun i hi => ?_, fun i hi => ?_, fun i b hb => ?_, h4.trans ⟨g2.os, g2.tape, g2.out, g2.size, fun k hk => g2.fr k (by omega) (fun i _ _ e => ?_)⟩, Nat.le_trans h5 g2.size, hk.ext g2, ?_⟩
  · rw [g2.blk i (.inr hi)]
    exact h1 i (Nat.le_trans g2.n hi)
  · rw [g2.cap i (.inr hi)]
    exact h2 i (Nat.le_trans g2.c hi)
  · by_cases hi : i < s.next ∨ s'.next ≤ i
    · rw [g2.blk i hi] at hb
      exact h3 i b hb
    · rcases g2.new i b (by omega) (by omega) hb with h | ⟨j, _, _, h⟩
      · omega
      · exact h3 j b h
  · have := h3 i k e
    omega
  · rw [g2.blk 0 (.inl hn)]
    exact h0
theorem code_hereB (hE : EnvOK P V E) (hx : ExtOKK DK wK P V E) (m n : Nat) {c : Code} {t t' : Sl} {s s' : St} {e : AE} (h : codeA E (fnA E m) (drawA E (fnA E m)) n c t s = some (e, t', s')) {base b0 : Nat} {w0 : World} {a : Act} {w : World} (hh : HereB DK wK V base w0 b0 t s a w)
    {Q : Exit → Act → World → Prop} (hQ : ∀ a' w', HereB DK wK V base w0 b0 t' s' a' w' → Q (AEx e) a' w') : c.wp P Q a w := by
  obtain ⟨ρ, ht, hr, h1, h2, h3, h4, h5, hk, h0⟩ := hh
  have hc := fnA_okK hE hx m
  have hf := fnA_fnK hx.fn m
  have hu := fnA_up (E := E) hx.up m
  refine (code_okK hE hc hf hu (draw_okK hE hc hf hu) (drawA_up hu) n).1 c h ht hr ⟨fun i hi _ => h1 i hi, fun i hi _ => h2 i hi⟩ hk Q ?_
  intro ρ' a' w' hg ht'
  exact hQ a' w' (hereB_goes hr h1 h2 h3 h4 h5 hk h0 hg ht')
theorem codeALB_ok (hE : EnvOK P V E) (hx : ExtOKK DK wK P V E) {base b0 : Nat} {w0 : World} {Q : Exit → Act → World → Prop} {r : List Code} : ∀ (l : List Code) {t t' : Sl} {s s' : St}, codeAL E l t s = some (t', s') → ∀ {a : Act} {w : World}, HereB DK wK V base w0 b0 t s a w → (∀ a' w', HereB DK wK V base w0 b0 t' s' a' w' → wpL P Q r a' w') → wpL P Q (l ++ r) a w
  | [], t, t', s, s', h, a, w, hh, hQ => by
    simp only [codeAL, Option.some.injEq, Prod.mk.injEq] at h
    obtain ⟨rfl, rfl⟩ := h
    exact hQ a w hh
  | c :: l, t, t', s, s', h, a, w, hh, hQ => by
    simp only [codeAL] at h
    split at h
    · rename_i t1 s1 h1
      exact code_hereB hE hx 30 1000 h1 hh (fun a' w' h' => codeALB_ok hE hx l h h' hQ)
    · cases h
theorem codeAEB_ok (hE : EnvOK P V E) (hx : ExtOKK DK wK P V E) {base b0 : Nat} {w0 : World} {Q : Exit → Act → World → Prop} : ∀ (l : List Code) {t t' : Sl} {s s' : St} {e : AE}, codeAE E l t s = some (e, t', s') → ∀ {a : Act} {w : World}, HereB DK wK V base w0 b0 t s a w → (∀ a' w', HereB DK wK V base w0 b0 t' s' a' w' → Q (AEx e) a' w') → wpL P Q l a w
  | [], t, t', s, s', e, h, a, w, hh, hQ => by
    simp only [codeAE, Option.some.injEq, Prod.mk.injEq] at h
    obtain ⟨rfl, rfl, rfl⟩ := h
    exact hQ a w hh
  | c :: l, t, t', s, s', e, h, a, w, hh, hQ => by
    simp only [codeAE] at h
    split at h
    · rename_i t1 s1 h1
      exact code_hereB hE hx 30 1000 h1 hh (fun a' w' h' => codeAEB_ok hE hx l h h' hQ)
    · rename_i hno
      refine code_hereB hE hx 30 1000 h hh (fun a' w' h' => ?_)
      cases e with
      | normal => exact (hno _ _ h).elim
      | ret => exact hQ a' w' h'
      | exit id => exact hQ a' w' h'
theorem ops_hereB (hE : EnvOK P V E) (hx : ExtOKK DK wK P V E) {ops : Array Oper} {l : List Oper} {k m : Nat} (hl : ∀ i o, l[i]? = some o → ops[k + i]? = some o) {t t' : Sl} {s s' : St} (h : opsA E (fnA E 30) ops l t s = some (t', s')) {base b0 : Nat} {w0 : World} {a : Act} {w : World} (hh : HereB DK wK V base w0 b0 t s a w) {Q : Exit → Act → World → Prop} (hQ : ∀ a' w', HereB DK wK V base w0 b0 t' s' a' w' → wpOps P ops Q (List.range' (k + l.length) m) a' w') : wpOps P ops Q (List.range' k (l.length + m)) a w := by
  obtain ⟨ρ, ht, hr, h1, h2, h3, h4, h5, hk, h0⟩ := hh
  have c0 : Clean ρ s := ⟨h1, h2⟩
  exact ops_takeK hE (fnA_okK hE hx 30) (fnA_fnK hx.fn 30) (fnA_up (E := E) hx.up 30) l k m hl h ht hr (c0.free _) hk (fun ρ4 a4 w4 g4 ht4 _ => hQ a4 w4 (hereB_goes hr h1 h2 h3 h4 h5 hk h0 g4 ht4))
theorem HereB.k {base b0 : Nat} {w0 : World} {t : Sl} {s : St} {a : Act} {w : World} (h : HereB DK wK V base w0 b0 t s a w) : HereK DK wK V base w0 t s a w := by
  obtain ⟨ρ, h1, h2, h3, h4, h5, h6, h7, h8, _⟩ := h
  exact ⟨ρ, h1, h2, h3, h4, h5, h6, h7, h8⟩
theorem HereK.b {base : Nat} {w0 : World} {t : Sl} {s : St} {a : Act} {w : World} (h : HereK DK wK V base w0 t s a w) {B : Blk} (hB : look s.heap 0 = some B) : ∃ b0, HereB DK wK V base w0 b0 t s a w := by
  obtain ⟨ρ, h1, h2, h3, h4, h5, h6, h7, h8⟩ := h
  obtain ⟨b, cs, e, _⟩ := h2.h 0 B hB
  exact ⟨b, ρ, h1, h2, h3, h4, h5, h6, h7, h8, e⟩
theorem hereB_tell {T : Tell} (hsy : T.sy = []) (hone : ∀ i, (V i).oneCell' = true) (hV : ∀ j, T.p j = true → V' j = V (T.src j)) (hL : ∀ j b, T.lit j = some b → V' j = .int .i64 b) (hT0 : lkN T.f 0 = some 0) {base b0 : Nat} {w0 : World} {t u : Sl} {s r : St} {a : Act} {w : World} (h : retOK T t s u r = true) (hh : HereB DK wK V base w0 b0 t s a w) : HereB DK wK V' base w0 b0 u r a w := by
  obtain ⟨ρ, ht, hr, g1, g2, g3, g4, g5, gk, g0⟩ := hh
  obtain ⟨k1, k2, k3, k4, k5⟩ := tell_all hone hV hL (fun j x v e => by rw [hsy] at e; cases e) h ht hr
  refine ⟨ρ.tell T, k1, k2, k3, k4, fun j b hb => ?_, g4, g5, ⟨gk.lt, gk.eq, fun b hb j e => ?_⟩, ?_⟩
  · obtain ⟨i, _, e⟩ := k5 j b hb
    exact g3 i b e
  · obtain ⟨i, _, e⟩ := k5 j b e
    exact gk.no b hb i e
  · show (lkN T.f 0).bind ρ.blk = some b0
    rw [hT0]
    exact g0
end
section
variable {V : Nat → Value} {E : Env} {DK : Nat → Prop} {wK : World}
theorem endTrueLK_ok (hE : EnvOK Tryz.prog V E) (hx : ExtOKK DK wK Tryz.prog V E) {fn : Func} {base : Nat} {w0 w1 : World} (hlow : ∀ w', RowKit.Below base w1 w' → RowKit.Below w0.heap.size w0 w') {l : List Code} {t : Sl} {s : St} (h : endTrue E fn.results.toList (codeAE E l t s) = true) {a : Act} {w : World} (hh : HereK DK wK V base w1 t s a w) : wpL Tryz.prog (LawQ fn w0) l a w := by
  unfold endTrue at h
  split at h
  · rename_i t' s' hr
    split at h
    · rename_i hres
      refine codeAE_okK hE hx l hr hh (fun a' w' h' => ?_)
      obtain ⟨ρ', ht', hr', _, _, _, hb, _⟩ := h'
      obtain ⟨vs, g2, hr2⟩ := results_at hE ht' hr' hres
      have hv : vs = [.bool true] := by
        match vs, g2 with
        | [v], g2 => rw [show v = .bool true from g2.1]
      subst hv
      exact ⟨ht'.df, _, hr2, rfl, hlow _ hb⟩
    · cases h
  · cases h
/-- How a call begins. -/
theorem enter_ok {ρ : Rho} {fn : Func} {args : List AV} {vals : Array Value} (hargs : F2 (VR V ρ) args vals.toList) (hle : args.length ≤ fn.ntmps) : TR V ρ (pad fn.ntmps args) { tmps := vals ++ Array.replicate (fn.ntmps - vals.size) undef, defers := [] } := by
  have hvl : vals.size = args.length := by rw [← Array.length_toList, ← hargs.length]
  refine ⟨by rw [pad_length]; simp; omega, fun d => ?_, rfl⟩
  rw [pad_look _ _ _ hle]
  have h1 := lget_F2 hargs d
  have h2 : (vals ++ Array.replicate (fn.ntmps - vals.size) undef).getD d undef = vals.toList.getD d undef := by
    simp only [Array.getD_eq_getD_getElem?, List.getD_eq_getElem?_getD, Array.getElem?_append, Array.getElem?_toList]
    by_cases hd : d < vals.size
    · rw [if_pos hd]
    · rw [if_neg hd, Array.getElem?_eq_none (by omega : vals.size ≤ d), Array.getElem?_replicate]
      split <;> rfl
  show VR V ρ _ ((vals ++ Array.replicate (fn.ntmps - vals.size) undef).getD d undef)
  rw [h2]
  exact h1
/-- A call that is opened by hand: its code runs on; what it returns is put, and the operations behind it follow. -/
theorem call_open (hE : EnvOK Tryz.prog V E) {ops : Array Oper} {i m : Nat} {o : Oper} {f : Nat} {fn : Func} (hfn : E.fn f = some fn) {c : Code} (hc : fn.body = some c) {l : List Operand} (hi : ops[i]? = some o) (hcal : calleeOf o = some (f, l)) {t u : Sl} {s : St} (hle : (evals t l).length ≤ fn.ntmps) (hlen : Nat.beq t.length u.length = true) (hlow : lowTk t u u.length = true)
    {base b0 : Nat} {w0 : World} {a : Act} {w : World} (hh : HereB DK wK V base w0 b0 t s a w) {Q : Exit → Act → World → Prop} (d : Nat) (hd : o.dst = some d)
    (hbody : ∀ a' (Q' : Exit → Act → World → Prop), HereB DK wK V base w0 b0 (pad fn.ntmps (evals t l)) s a' w →
      (∀ E' e t' s' rs a2 w2, EnvOK Tryz.prog V E' → (e = AE.normal ∨ e = AE.ret) → resultsA E' t' s' fn.results.toList = some rs → HereB DK wK V base w0 b0 t' s' a2 w2 →
        (∀ a3, HereB DK wK V base w0 b0 (lset u d (wrapA rs)) s' a3 w2 → wpOps Tryz.prog ops Q (List.range' (i + 1) m) a3 w2) → Q' (AEx e) a2 w2) → wpL Tryz.prog Q' (lin c) a' w) :
    wpOps Tryz.prog ops Q (List.range' i (m + 1)) a w := by
  obtain ⟨ρ, ht, hr, h1, h2, h3, h4, h5, hk, h0⟩ := hh
  rw [List.range'_succ, wpOps_cons]
  refine wp_callee2 hE hfn hi hcal ht (fun vals hv => ?_)
  obtain ⟨hF, _⟩ := hE.fn f fn hfn
  refine calls_of_wp hF hc (wp_of_lin ?_)
  refine hbody _ _ ⟨ρ, enter_ok hv hle, hr, h1, h2, h3, h4, h5, hk, h0⟩ (fun E' e t' s' rs a2 w2 hE' he hres hh2 hgo => ?_)
  obtain ⟨ρ2, ht2, hr2, g1, g2, g3, g4, g5, gk, g0⟩ := hh2
  obtain ⟨vs, k1, k2⟩ := results_at hE' ht2 hr2 hres
  have hput : HereB DK wK V base w0 b0 (lset u d (wrapA rs)) s' (a.put o.dst (if h : vs.toArray.size = 1 then vs.toArray[0] else .tuple vs.toArray)) w2 := by
    refine ⟨ρ2, ?_, hr2, g1, g2, g3, g4, g5, gk, g0⟩
    rw [hd]
    exact tr_put (low_ok (by rw [g0, h0]) hlen hlow ht) (wrap_ok k1) (some d)
  rcases he with rfl | rfl
  · exact ⟨ht2.df, _, k2, _, rfl, hgo _ hput⟩
  · exact ⟨ht2.df, _, k2, _, rfl, hgo _ hput⟩
end
end Ab
end Go.Proofs.YtbfppnppijcnlaaGreat
