/-
  A law that draws its input: from New on, and from its beginning to its end.
  Conditions: none.
-/
import Derived.Test.YtbfppnppijcnlaaGreatChN
import Derived.Test.YtbfppnppijcnlaaGreatEnv
namespace Go.Proofs.YtbfppnppijcnlaaGreat
namespace Ab
open Go.RowKit
set_option linter.unusedVariables false
set_option linter.unusedSimpArgs false
/-- Code as a list. -/
noncomputable def lin : Code → List Code
  | .seq a b => lin a ++ lin b
  | c => [c]
noncomputable def wpL (P : Program) (Q : Exit → Act → World → Prop) : List Code → Act → World → Prop
  | [], a, w => Q .normal a w
  | c :: r, a, w => c.wp P (Exit.then (wpL P Q r) Q) a w
section
variable {P : Program}
theorem lin_wp (Q : Exit → Act → World → Prop) : ∀ (c : Code) (r : List Code) (a : Act) (w : World), wpL P Q (lin c ++ r) a w → c.wp P (Exit.then (wpL P Q r) Q) a w
  | .seq x y, r, a, w, h => by
    have h1 : wpL P Q (lin x ++ (lin y ++ r)) a w := by
      have : lin (.seq x y) ++ r = lin x ++ (lin y ++ r) := by simp [lin]
      rw [← this]
      exact h
    refine wp_seq (wp_mono (lin_wp Q x _ a w h1) ?_)
    intro e a1 w1 he
    cases e with
    | normal => exact lin_wp Q y r a1 w1 he
    | _ => exact he
  | .skip, r, a, w, h => h
  | .region .., r, a, w, h => h
  | .cond .., r, a, w, h => h
  | .block .., r, a, w, h => h
  | .loop .., r, a, w, h => h
  | .exit .., r, a, w, h => h
  | .ret, r, a, w, h => h
  | .rangeFunc .., r, a, w, h => h
  | .scope .., r, a, w, h => h
  | .label .., r, a, w, h => h
  | .goto .., r, a, w, h => h
  | .refuse .., r, a, w, h => h
theorem wp_of_lin {Q : Exit → Act → World → Prop} {c : Code} {a : Act} {w : World} (h : wpL P Q (lin c) a w) : c.wp P Q a w := by
  refine wp_mono (lin_wp Q c [] a w (by simpa using h)) ?_
  intro e a1 w1 he
  cases e <;> exact he
/-- What is left of a list behind its first codes. -/
noncomputable def codeAL (E : Env) : List Code → Sl → St → Option (Sl × St)
  | [], t, s => some (t, s)
  | c :: r, t, s => match codeA E (fnA E 30) (drawA E (fnA E 30)) 1000 c t s with
    | some (.normal, t', s') => codeAL E r t' s'
    | _ => none
theorem codeAL_ok {V : Nat → Value} {E : Env} (hE : EnvOK P V E) (hx : ExtOK P V E) {base : Nat} {w0 : World} {Q : Exit → Act → World → Prop} {r : List Code} : ∀ (l : List Code) {t t' : Sl} {s s' : St}, codeAL E l t s = some (t', s') → ∀ {a : Act} {w : World}, Here V base w0 t s a w → (∀ a' w', Here V base w0 t' s' a' w' → wpL P Q r a' w') → wpL P Q (l ++ r) a w
  | [], t, t', s, s', h, a, w, hh, hQ => by
    simp only [codeAL, Option.some.injEq, Prod.mk.injEq] at h
    obtain ⟨rfl, rfl⟩ := h
    exact hQ a w hh
  | c :: l, t, t', s, s', h, a, w, hh, hQ => by
    simp only [codeAL] at h
    split at h
    · rename_i t1 s1 h1
      exact code_here hE hx 30 1000 h1 hh (fun a' w' h' => codeAL_ok hE hx l h h' hQ)
    · cases h
noncomputable def codeNL (hl : Bool) (i0 i1 : Nat) (E : Env) (eR : Int → Int → Env) (mOf : Nat → Option (Nat × Bool)) (hk : Nat → Sl → St → Option (List (AE × Sl × St))) (n : Nat) : List Code → Sl → St → Option (List (AE × Sl × St))
  | [], t, s => some [(.normal, t, s)]
  | c :: r, t, s => match codeN hl i0 i1 E eR mOf hk n c t s with
    | some l => joinAll (l.map fun x => match x with
      | (.normal, t', s') => codeNL hl i0 i1 E eR mOf hk n r t' s'
      | (e, t', s') => some [(e, t', s')])
    | none => none
theorem codeNL_ok {V0 : Nat → Value} {q : Ls} {ga : Nat} {row : Array Value} {hl : Bool} {i0 i1 : Nat} {E : Env} {eR : Int → Int → Env} (hD : DrawsOK P V0 hl q ga row E eR) {mOf : Nat → Option (Nat × Bool)} (hm : ∀ id m mg, mOf id = some (m, mg) → 1 ≤ m ∧ m ≤ 1000) {hk : Nat → Sl → St → Option (List (AE × Sl × St))} {base : Nat} {w0 : World} (n : Nat) {Q : Exit → Act → World → Prop} : ∀ (l : List Code), (∀ c ∈ l, HookC P V0 q ga row base w0 c hk) → ∀ {t : Sl} {s : St} {out : List (AE × Sl × St)}, codeNL hl i0 i1 E eR mOf hk n l t s = some out →
    ∀ {a : Act} {w : World}, HereC V0 q ga row base w0 t s a w → (∀ x ∈ out, ∀ a' w', HereC V0 q ga row base w0 x.2.1 x.2.2 a' w' → Q (AEx x.1) a' w') → wpL P Q l a w
  | [], _, t, s, out, h, a, w, hh, hQ => by
    simp only [codeNL, Option.some.injEq] at h
    subst h
    exact hQ (.normal, t, s) (by simp) a w hh
  | c :: l, hH, t, s, out, h, a, w, hh, hQ => by
    simp only [codeNL] at h
    split at h
    · rename_i o ho
      refine (codeN_ok hD hm (hH c (by simp)) n).1 c (fun _ _ h => h) ho hh _ (fun x hx a1 w1 g1 => ?_)
      obtain ⟨k, q1, q2⟩ := joinAll_ok h _ (List.mem_map.2 ⟨x, hx, rfl⟩)
      obtain ⟨e, t', s'⟩ := x
      cases e with
      | normal => exact codeNL_ok hD hm n l (fun c hc => hH c (List.mem_cons_of_mem _ hc)) q1 g1 (fun z hz => hQ z (q2 z hz))
      | ret =>
        simp only [Option.some.injEq] at q1
        exact hQ (.ret, t', s') (q2 _ (by rw [← q1]; simp)) a1 w1 g1
      | exit id =>
        simp only [Option.some.injEq] at q1
        exact hQ (.exit id, t', s') (q2 _ (by rw [← q1]; simp)) a1 w1 g1
    · cases h
end
/-- The state behind New. -/
noncomputable def newS (hl : Bool) (s : St) : St := { s with heap := (s.next, ⟨103, [], some (900, 0)⟩) :: (bif hl then (s.next + 1, ⟨5, [], some (901, 0)⟩) :: s.heap else s.heap), next := s.next + 2 }
section
variable {V0 : Nat → Value}
theorem vL_low {q : Ls} {ga : Nat} {row : Array Value} {b p i : Nat} (hi : i < 900) : vL V0 q ga row b p i = V0 i := by
  unfold vL
  rw [if_neg (by omega), if_neg (by omega), if_neg (by omega)]
/-- No symbol from 900 on. -/
noncomputable def lowC : AC → Bool
  | .sym i => Nat.blt i 900
  | _ => true
noncomputable def lowL : List AC → Bool
  | [] => true
  | x :: r => lowC x && lowL r
noncomputable def lowV : AV → Bool
  | .any => true
  | .undef => true
  | .one (.c x) => lowC x
  | .one (.agg l) => lowL l
  | _ => false
noncomputable def lowT (t : Sl) : Nat → Bool
  | 0 => true
  | d + 1 => lowV (lget t d) && lowT t d
theorem low_c {q : Ls} {ga : Nat} {row : Array Value} {b p : Nat} {ρ : Rho} {x : AC} {v : Value} (h : lowC x = true) (hx : CR V0 ρ x v) : CR (vL V0 q ga row b p) ρ x v := by
  cases x with
  | sym i =>
    have hi : i < 900 := Nat.le_of_ble_eq_true (show Nat.ble (i + 1) 900 = true from h)
    have hx : v = V0 i := hx
    show v = vL V0 q ga row b p i
    rw [hx, vL_low hi]
  | ptr p => cases p <;> exact hx
  | slice p n c => cases p <;> exact hx
  | _ => exact hx
theorem low_l {q : Ls} {ga : Nat} {row : Array Value} {b p : Nat} {ρ : Rho} : ∀ {l : List AC} {m : List Value}, lowL l = true → F2 (CR V0 ρ) l m → F2 (CR (vL V0 q ga row b p) ρ) l m
  | [], [], _, _ => trivial
  | x :: r, y :: s, h, hx => by
    simp only [lowL, Bool.and_eq_true] at h
    exact ⟨low_c h.1 hx.1, low_l h.2 hx.2⟩
  | [], _ :: _, _, h => h.elim
  | _ :: _, [], _, h => h.elim
theorem low_v {q : Ls} {ga : Nat} {row : Array Value} {b p : Nat} {ρ : Rho} {x : AV} {v : Value} (h : lowV x = true) (hx : VR V0 ρ x v) : VR (vL V0 q ga row b p) ρ x v := by
  cases x with
  | any => trivial
  | undef => exact hx
  | one x =>
    cases x with
    | c x => exact low_c h hx
    | agg l =>
      obtain ⟨cs, h1, h2⟩ := hx
      exact ⟨cs, h1, low_l h h2⟩
  | tup _ => cases h
  | fn _ _ => cases h
theorem lowT_ok {t : Sl} : ∀ {n : Nat}, lowT t n = true → ∀ d, d < n → lowV (lget t d) = true
  | n + 1, h, d, hd => by
    simp only [lowT, Bool.and_eq_true] at h
    by_cases e : d = n
    · rw [e]
      exact h.1
    · exact lowT_ok h.2 d (by omega)
/-- The world behind New; nothing else is told. -/
theorem here_new {base : Nat} {w0 : World} {t : Sl} {s : St} {a : Act} {w w' : World} {gc : Nat} {q : Ls} (hh : Here V0 base w0 t s a w) (hs : s.heap = []) (ht : lowT t t.length = true) (hgc : w.heap.size ≤ gc) (hC : Cod w' gc q 0) (hA : ∀ ga, q.A = some ⟨ga, 0, none⟩ → w.heap.size ≤ ga ∧ ∃ cs, MBlk w' ga 5 cs) (hB : RowKit.Below w.heap.size w w') :
    ∃ hl ga row, LsOK hl q ga row ∧ ∀ d, HereC V0 q ga row base w0 (put t d (.one (.c (.ptr (some (s.next, 0)))))) (newS hl s) (a.put d (.pointer (some ⟨gc, 0, none⟩))) w' := by
  obtain ⟨ρ, hT, hr, h1, h2, h3, h4, h5⟩ := hh
  have hsz : gc < w'.heap.size := hC.lt
  have hbw : RowKit.Below base w0 w' := h4.trans ⟨hB.os, hB.tape, hB.output, hB.size, fun k hk => hB.block k (by omega)⟩
  have hcs : MBlk w' gc 103 #[.slice q.A q.n q.cap, .int .i64 ((0 : Nat) : Int)] := hC.2.2.1
  have slots : ∀ {ga : Nat} {row : Array Value} {ρ' : Rho} (d : Option Nat), Le ρ ρ' → ρ'.blk s.next = some gc → TR (vL V0 q ga row 0 0) ρ' (put t d (.one (.c (.ptr (some (s.next, 0)))))) (a.put d (.pointer (some ⟨gc, 0, none⟩))) := by
    intro ga row ρ' d hle hb
    refine tr_put ⟨hT.z, fun e => ?_, hT.df⟩ (show VR _ _ (.one (.c (.ptr (some (s.next, 0))))) _ from ⟨gc, hb, rfl⟩) d
    by_cases he : e < t.length
    · exact low_v (lowT_ok ht e he) (VR.mono V0 hle (hT.v e))
    · have := hT.v e
      rw [lget_far he] at this ⊢
      exact this
  have code : ∀ {ga : Nat} {row : Array Value} {ρ' : Rho}, BR (vL V0 q ga row 0 0) ρ' gc ⟨103, [], some (900, 0)⟩ #[.slice q.A q.n q.cap, .int .i64 ((0 : Nat) : Int)] :=
    ⟨[], _, by simp; rfl, trivial, rfl, pb_some (Nat.zero_le _)⟩
  by_cases hn : 0 < q.n
  · obtain ⟨ga, x, hAe, hne, _, _, _⟩ := hC.2.2.2.2 0 hn
    obtain ⟨hga, row, hrow⟩ := hA ga hAe
    have hgs : ga < w'.heap.size := hrow.lt
    refine ⟨true, ga, row, ⟨fun _ => ⟨hAe, fun k hk => ?_⟩, fun h => (by cases h), hC.2.1, hC.2.2.2.1⟩, fun d => ?_⟩
    · obtain ⟨ga', x', e', _, hx', _, hc'⟩ := hC.2.2.2.2 k hk
      rw [hAe] at e'
      cases e'
      exact ⟨x', hx', (hrow.cell k).symm.trans hc'⟩
    · have hρ : ∀ j, ((ρ.setB s.next gc).setB (s.next + 1) ga).blk j = if j = s.next + 1 then some ga else if j = s.next then some gc else ρ.blk j := fun _ => rfl
      have hl1 : Le ρ (ρ.setB s.next gc) := setB_le (h1 _ (Nat.le_refl _))
      have hl2 : Le (ρ.setB s.next gc) ((ρ.setB s.next gc).setB (s.next + 1) ga) := setB_le (by
        show (if s.next + 1 = s.next then _ else ρ.blk (s.next + 1)) = none
        rw [if_neg (by omega)]
        exact h1 _ (by omega))
      have hle := hl1.trans hl2
      refine ⟨0, 0, Nat.zero_le _, (ρ.setB s.next gc).setB (s.next + 1) ga, slots d hle (by rw [hρ, if_neg (by omega), if_pos rfl]), ⟨?_, ?_, ?_, ?_⟩, ?_, h2, ?_, hbw, Nat.le_trans h5 hB.size⟩
      · intro i B hB'
        simp only [newS, cond_true, hs, look_cons] at hB'
        by_cases e0 : s.next = i
        · rw [if_pos e0, Option.some.injEq] at hB'
          subst hB'
          exact ⟨gc, _, by rw [hρ, if_neg (by omega), if_pos e0.symm], hcs, code⟩
        · rw [if_neg e0] at hB'
          by_cases e1 : s.next + 1 = i
          · rw [if_pos e1, Option.some.injEq] at hB'
            subst hB'
            exact ⟨ga, row, by rw [hρ, if_pos e1.symm], hrow, [], _, by simp; rfl, trivial, rfl, .inl rfl⟩
          · rw [if_neg e1] at hB'
            cases hB'
      · intro i j B C b hBi hCj g1 g2
        simp only [newS, cond_true, hs, look_cons] at hBi hCj
        rw [hρ] at g1 g2
        by_cases i1 : i = s.next + 1
        · by_cases j1 : j = s.next + 1
          · omega
          · rw [if_pos i1] at g1
            rw [if_neg j1] at g2
            by_cases j0 : j = s.next
            · rw [if_pos j0] at g2
              injection g1 with g1
              injection g2 with g2
              exact absurd (g1.trans g2.symm) hne
            · rw [if_neg (Ne.symm j0), if_neg (fun e => j1 e.symm)] at hCj
              cases hCj
        · by_cases i0 : i = s.next
          · by_cases j1 : j = s.next + 1
            · rw [if_neg i1, if_pos i0] at g1
              rw [if_pos j1] at g2
              injection g1 with g1
              injection g2 with g2
              exact absurd (g2.trans g1.symm) hne
            · by_cases j0 : j = s.next
              · omega
              · rw [if_neg (Ne.symm j0), if_neg (fun e => j1 e.symm)] at hCj
                cases hCj
          · rw [if_neg (Ne.symm i0), if_neg (fun e => i1 e.symm)] at hBi
            cases hBi
      · intro i b g
        rw [hρ] at g
        split at g
        · injection g with g
          omega
        · split at g
          · injection g with g
            omega
          · exact Nat.lt_of_lt_of_le (hr.bnd _ _ g) hB.size
      · intro i B hB'
        simp only [newS, cond_true, hs, look_cons] at hB'
        by_cases e0 : s.next = i
        · simp only [newS]; omega
        · rw [if_neg e0] at hB'
          by_cases e1 : s.next + 1 = i
          · simp only [newS]; omega
          · rw [if_neg e1] at hB'
            cases hB'
      · intro i hi
        simp only [newS] at hi
        rw [hρ, if_neg (by omega), if_neg (by omega)]
        exact h1 _ (by omega)
      · intro i b g
        rw [hρ] at g
        split at g
        · injection g with g
          omega
        · split at g
          · injection g with g
            omega
          · exact h3 _ _ g
  · refine ⟨false, 0, #[], ⟨fun h => (by cases h), fun _ => by omega, hC.2.1, hC.2.2.2.1⟩, fun d => ?_⟩
    have hρ : ∀ j, (ρ.setB s.next gc).blk j = if j = s.next then some gc else ρ.blk j := fun _ => rfl
    have hle : Le ρ (ρ.setB s.next gc) := setB_le (h1 _ (Nat.le_refl _))
    refine ⟨0, 0, Nat.zero_le _, ρ.setB s.next gc, slots d hle (by rw [hρ, if_pos rfl]), ⟨?_, ?_, ?_, ?_⟩, ?_, h2, ?_, hbw, Nat.le_trans h5 hB.size⟩
    · intro i B hB'
      simp only [newS, cond_false, hs, look_cons] at hB'
      by_cases e0 : s.next = i
      · rw [if_pos e0, Option.some.injEq] at hB'
        subst hB'
        exact ⟨gc, _, by rw [hρ, if_pos e0.symm], hcs, code⟩
      · rw [if_neg e0] at hB'
        cases hB'
    · intro i j B C b hBi hCj g1 g2
      simp only [newS, cond_false, hs, look_cons] at hBi hCj
      by_cases i0 : s.next = i
      · by_cases j0 : s.next = j
        · omega
        · rw [if_neg j0] at hCj
          cases hCj
      · rw [if_neg i0] at hBi
        cases hBi
    · intro i b g
      rw [hρ] at g
      split at g
      · injection g with g
        omega
      · exact Nat.lt_of_lt_of_le (hr.bnd _ _ g) hB.size
    · intro i B hB'
      simp only [newS, cond_false, hs, look_cons] at hB'
      by_cases e0 : s.next = i
      · simp only [newS]; omega
      · rw [if_neg e0] at hB'
        cases hB'
    · intro i hi
      simp only [newS] at hi
      rw [hρ, if_neg (by omega)]
      exact h1 _ (by omega)
    · intro i b g
      rw [hρ] at g
      split at g
      · injection g with g
        omega
      · exact h3 _ _ g
end
end Ab
end Go.Proofs.YtbfppnppijcnlaaGreat
namespace Go.Proofs.YtbfppnppijcnlaaGreat
namespace Ab
open Go.RowKit
set_option linter.unusedVariables false
set_option linter.unusedSimpArgs false
/-- The region that calls New: a move, the call, an assignment; the slots behind it. -/
noncomputable def newR (E : Env) (most : Nat) (ops : Array Oper) (t : Sl) (s : St) : Option Sl :=
  match ops.toList with
  | [o0, o1, o2] => match o0.guard, o1.guard, o2.guard with
    | none, none, none => match opA E (fnA E 30) t s o0 with
      | some (v0, s0) => match o1.op with
        | .call c => match c.callee with
          | .value x => match eval (put t o0.dst v0) x, evals (put t o0.dst v0) c.args.toList with
            | .one (.c (.fn g)), [.one (.c (.sym i)), .one (.c (.int .i64 m))] =>
              bif Nat.beq g 10 && Nat.beq i 0 && decide (m = (most : Int)) && s0.heap.isEmpty && Nat.beq s0.next s.next && Nat.beq s0.ncap s.ncap && lowT (put t o0.dst v0) (put t o0.dst v0).length then
                (match o2.op with
                | .assign y => some (put (put (put t o0.dst v0) o1.dst (.one (.c (.ptr (some (s.next, 0)))))) o2.dst (eval (put (put t o0.dst v0) o1.dst (.one (.c (.ptr (some (s.next, 0)))))) y))
                | _ => none)
              else none
            | _, _ => none
          | _ => none
        | _ => none
      | none => none
    | _, _, _ => none
  | _ => none
section
variable {V0 : Nat → Value} {E : Env}
theorem byts_same {w w' : World} {A : Option Addr} {n : Nat} (h : Byts w A n) (hb : RowKit.Below w.heap.size w w') : Byts w' A n := by
  intro k hk
  obtain ⟨ad, x, e, hx, hc⟩ := h k hk
  exact ⟨ad, x, e, hx, (World.cell?_of_block (a := ad.add k) (hb.block _ (World.block_lt_of_cell? w (ad.add k) hc))).trans hc⟩
theorem newR_ok (hE : EnvOK Tryz.prog V0 E) (hx : ExtOK Tryz.prog V0 E) {most : Nat} (hmost : most ≤ 250) {id : Nat} {ops : Array Oper} {t t' : Sl} {s : St} (h : newR E most ops t s = some t') (hnewf : E.fn 10 = some Tryz.f10)
    {w0 : World} {A : Option Addr} {len cap : Nat} (hV : V0 0 = .slice A len cap) (hB : Byts w0 A len) (hl1 : len ≤ cap) (hl2 : cap ≤ maxLen) {a : Act} {w : World} (hh : Here V0 w0.heap.size w0 t s a w) {Q : Exit → Act → World → Prop}
    (hQ : ∀ hl q ga row, LsOK hl q ga row → ∀ a' w', HereC V0 q ga row w0.heap.size w0 t' (newS hl { s with heap := [] }) a' w' → Q .normal a' w') : (Code.region id ops false).wp Tryz.prog Q a w := by
  unfold newR at h
  split at h
  · rename_i o0 o1 o2 hops
    split at h
    · rename_i g0 g1 g2
      split at h
      · rename_i v0 s0 hop0
        split at h
        · rename_i c ho1
          split at h
          · rename_i x hcal
            split at h
            · rename_i g i m hev hargs
              cases hk : (Nat.beq g 10 && Nat.beq i 0 && decide (m = (most : Int)) && s0.heap.isEmpty && Nat.beq s0.next s.next && Nat.beq s0.ncap s.ncap && lowT (put t o0.dst v0) (put t o0.dst v0).length)
              · simp [hk] at h
              · simp only [hk, cond_true] at h
                simp only [Bool.and_eq_true, decide_eq_true_eq] at hk
                obtain ⟨⟨⟨⟨⟨⟨k1, k2⟩, k3⟩, k4⟩, k5⟩, k6⟩, k7⟩ := hk
                have k1 := Nat.eq_of_beq_eq_true k1
                have k2 := Nat.eq_of_beq_eq_true k2
                have k5 := Nat.eq_of_beq_eq_true k5
                have k6 := Nat.eq_of_beq_eq_true k6
                have k4 : s0.heap = [] := List.isEmpty_iff.1 k4
                subst k1
                subst k2
                split at h
                · rename_i y ho2
                  injection h with h
                  subst h
                  have hcall := fnA_ok hE hx 30
                  have hfn := fnA_fn (E := E) hx.fn 30
                  refine wp_region ?_
                  have hz : ops.size = 3 := by rw [← Array.length_toList, hops]; rfl
                  have i0 : ops[0]? = some o0 := by rw [← Array.getElem?_toList, hops]; rfl
                  have i1 : ops[1]? = some o1 := by rw [← Array.getElem?_toList, hops]; rfl
                  have i2 : ops[2]? = some o2 := by rw [← Array.getElem?_toList, hops]; rfl
                  rw [hz, show List.range 3 = [0, 1, 2] from rfl, wpOps_cons]
                  obtain ⟨ρ, ht, hr, h1, h2, h3, h4, h5⟩ := hh
                  unfold wpOp
                  rw [i0]
                  simp only
                  have wanted : ∀ (o : Oper) (ops : Array Oper) (a : Act), o.guard = none → Region.wanted o (yielded ops a.tmps) = true := by
                    intro o ops a hg
                    unfold Region.wanted
                    rw [hg]
                  rw [wanted _ _ _ g0, if_pos rfl]
                  refine .inl (opA_ok hE hcall hfn hop0 ρ a w ht hr ⟨fun i hi _ => h1 i hi, fun i hi _ => h2 i hi⟩ _ _ ?_)
                  intro ρ1 c1 w1 gg1 gg2
                  have hput := tr_put (ht.mono V0 gg1.2.2) gg2 o0.dst
                  have hh1 := here_goes hr h1 h2 h3 h4 h5 gg1 hput
                  rw [wpOps_cons]
                  unfold wpOp
                  rw [i1]
                  simp only
                  rw [wanted _ _ _ g1, if_pos rfl]
                  refine .inl ?_
                  have hev2 := eval_ok hput x
                  rw [hev] at hev2
                  have hfv : (a.put o0.dst c1).eval x = .func (.func 10) #[] #[] := hev2
                  have he := evals_ok hput c.args.toList
                  rw [hargs] at he
                  have hvals : c.args.map (a.put o0.dst c1).eval = #[.slice A len cap, .int .i64 (most : Nat)] := by
                    apply Array.ext'
                    rw [Array.toList_map]
                    match hl : c.args.toList.map (a.put o0.dst c1).eval, he with
                    | [x, y], hv =>
                      have e1 : x = V0 0 := hv.1
                      have e2 : y = .int .i64 m := hv.2.1
                      rw [e1, e2, hV, k3]
                  obtain ⟨_, hcf⟩ := hE.fn _ _ hnewf
                  have hrun : (execOp (a.put o0.dst c1).eval o1).run Tryz.prog w1 = .ok (.enter 10 (c.args.map (a.put o0.dst c1).eval)) w1 := by
                    simp [execOp, ho1, resolve, hcal, hfv, Deferred.ofValue, invoke, hcf]
                  unfold Oper.wp
                  rw [hrun, Oper.upon_enter, hvals]
                  have hb1 : RowKit.Below w0.heap.size w0 w1 := by
                    obtain ⟨_, _, _, _, _, _, h, _⟩ := hh1
                    exact h
                  refine (new_any A len cap most w1 (byts_same hB hb1) hl1 hl2 (by omega) (by omega)).mono ?_
                  rintro e w' ⟨gc, q, rfl, hgc, hC, hqm, hA, hbel⟩
                  obtain ⟨hl, ga, row, hL, hhc⟩ := here_new hh1 k4 k7 hgc hC hA hbel
                  obtain ⟨b, p, hp, ρ2, ht2, hr2, rest⟩ := hhc o1.dst
                  rw [k5] at ht2
                  show wpOps Tryz.prog ops Q [2] ((a.put o0.dst c1).put o1.dst (.pointer (some ⟨gc, 0, none⟩))) w'
                  rw [wpOps_cons]
                  unfold wpOp
                  rw [i2]
                  simp only
                  rw [wanted _ _ _ g2, if_pos rfl]
                  refine .inl ?_
                  refine wp_val (c := ((a.put o0.dst c1).put o1.dst (.pointer (some ⟨gc, 0, none⟩))).eval y) (w' := w') ?_ ?_
                  · simp [execOp, ho2]
                  have hput2 := tr_put ht2 (eval_ok ht2 y) o2.dst
                  refine hQ hl q ga row hL _ _ ⟨b, p, hp, ρ2, hput2, ?_, ?_⟩
                  · have e : newS hl { s with heap := [] } = { newS hl s0 with dirty := s.dirty } := by
                      simp [newS, k4, k5, k6]
                    rw [e]
                    exact ⟨hr2.h, hr2.inj, hr2.bnd, hr2.lt⟩
                  · have e1 : (newS hl { s with heap := [] }).next = (newS hl s0).next := by simp [newS, k5]
                    have e2 : (newS hl { s with heap := [] }).ncap = (newS hl s0).ncap := by simp [newS, k6]
                    rw [e1, e2]
                    exact rest
                · cases h
            · cases h
          · cases h
        · cases h
      · cases h
    · cases h
  · cases h
/-- Do all outcomes return true? -/
noncomputable def allTrue (E : Env) (rs : List ResultVar) : Option (List (AE × Sl × St)) → Bool
  | some l => l.all fun x => match x with
    | (.ret, t, s) => (match resultsA E t s rs with | some [.c (.bool true)] => true | _ => false)
    | _ => false
  | none => false
theorem law_ok {E0 : Env} {E : Bool → Env} {eR : Bool → Int → Int → Env} {mOf : Nat → Option (Nat × Bool)} {hk : Bool → Nat → Sl → St → Option (List (AE × Sl × St))} {f : Nat} {fn : Func} {c : Code} (hf : Tryz.prog.funcs[f]? = some fn) (hc : fn.body = some c) {args : List AV} {vals : Array Value} (hargs : F2 (VR V0 ρ0) args vals.toList) (hle : args.length ≤ fn.ntmps) (w : World)
    {A : Option Addr} {len cap : Nat} (hV : V0 0 = .slice A len cap) (hB : Byts w A len) (hl1 : len ≤ cap) (hl2 : cap ≤ maxLen) {most : Nat} (hmost : most ≤ 250)
    (hE : EnvOK Tryz.prog V0 E0) (hx : ExtOK Tryz.prog V0 E0) (hnewf : E0.fn 10 = some Tryz.f10)
    {pre rest : List Code} {id : Nat} {ops : Array Oper} (hlin : lin c = pre ++ (.region id ops false :: rest)) {t1 t2 : Sl} {s1 : St} (hpre : codeAL E0 pre (pad fn.ntmps args) st0 = some (t1, s1)) (hnew : newR E0 most ops t1 s1 = some t2)
    (hD : ∀ hl q ga row, LsOK hl q ga row → DrawsOK Tryz.prog V0 hl q ga row (E hl) (eR hl)) (hm : ∀ id m mg, mOf id = some (m, mg) → 1 ≤ m ∧ m ≤ 1000)
    (hH : ∀ hl q ga row, LsOK hl q ga row → ∀ c ∈ rest, HookC Tryz.prog V0 q ga row w.heap.size w c (hk hl)) (n : Nat)
    (hrun : ∀ hl, allTrue (E hl) fn.results.toList (codeNL hl s1.next (s1.next + 1) (E hl) (eR hl) mOf (hk hl) n rest t2 (newS hl { s1 with heap := [] })) = true) :
    Calls Tryz.prog f vals w fun e w' => e = .returned (.bool true) ∧ RowKit.Below w.heap.size w w' := by
  have hvl : vals.size = args.length := by rw [← Array.length_toList, ← hargs.length]
  have ht : TR V0 ρ0 (pad fn.ntmps args) { tmps := vals ++ Array.replicate (fn.ntmps - vals.size) undef, defers := [] } := by
    refine ⟨by rw [pad_length]; simp; omega, fun d => ?_, rfl⟩
    rw [pad_look _ _ _ hle]
    have h1 := lget_F2 hargs d
    have h2 : (vals ++ Array.replicate (fn.ntmps - vals.size) undef).getD d undef = vals.toList.getD d undef := by
      simp only [Array.getD_eq_getD_getElem?, List.getD_eq_getElem?_getD, Array.getElem?_append, Array.getElem?_toList]
      by_cases hd : d < vals.size
      · rw [if_pos hd]
      · rw [if_neg hd, Array.getElem?_eq_none (by omega : vals.size ≤ d), Array.getElem?_replicate]
        split <;> rfl
    show VR V0 ρ0 _ ((vals ++ Array.replicate (fn.ntmps - vals.size) undef).getD d undef)
    rw [h2]
    exact h1
  refine calls_of_wp hf hc (wp_of_lin ?_)
  rw [hlin]
  refine codeAL_ok hE hx pre hpre ⟨ρ0, ht, rep0 w, fun _ _ => rfl, fun _ _ => rfl, fun i b hb => (by cases hb), Below.refl _ _, Nat.le_refl _⟩ (fun a1 w1 hh1 => ?_)
  refine newR_ok hE hx hmost hnew hnewf hV hB hl1 hl2 hh1 (fun hl q ga row hL a2 w2 hh2 => ?_)
  have hr := hrun hl
  unfold allTrue at hr
  split at hr
  · rename_i out hout
    refine codeNL_ok (hD hl q ga row hL) hm n rest (hH hl q ga row hL) hout hh2 (fun x hxm a' w' hh' => ?_)
    have hxr := List.all_eq_true.1 hr x hxm
    obtain ⟨e, t', s'⟩ := x
    cases e with
    | ret =>
      simp only at hxr
      split at hxr
      · rename_i hres
        obtain ⟨b, p, hp, ρ', ht', hr', _, _, _, hb, _⟩ := hh'
        obtain ⟨vs, g1, g2⟩ := results_ok ((hD hl q ga row hL).e b p hp).1 ht' hr' _ _ hres
        have hr2 : (results fn a'.tmps).run Tryz.prog w' = .ok (if h : vs.toArray.size = 1 then vs.toArray[0] else .tuple vs.toArray) w' := by
          unfold results
          rw [Array.mapM_eq_mapM_toList]
          simp only [Sem.run_bind, Sem.run_map, Sem.run_pure]
          generalize hX : Sem.run Tryz.prog (List.mapM _ fn.results.toList) w' = Y
          have hY : Y = .ok vs w' := hX.symm.trans g1
          rw [hY]
          simp only [Result.andThen_ok]
        have hv : vs = [.bool true] := by
          match vs, g2 with
          | [v], g2 => rw [show v = .bool true from g2.1]
        subst hv
        exact ⟨ht'.df, _, hr2, rfl, hb⟩
      · cases hxr
    | normal => cases hxr
    | exit _ => cases hxr
  · cases hr
end
end Ab
end Go.Proofs.YtbfppnppijcnlaaGreat
