/-
  A law that draws its input: from New on, and from its beginning to its end.
  Conditions: none.
-/
import Derived.Test.YtddiclnkfhldlaaChN
import Derived.Test.YtddiclnkfhldlaaEnv
namespace Go.Proofs.Ytddiclnkfhldlaa
namespace Ab
open Go.RowKit
set_option linter.unusedVariables false
set_option linter.unusedSimpArgs false
/-- Code as a list. -/
def lin : Code → List Code
  | .seq a b => lin a ++ lin b
  | c => [c]
def wpL (P : Program) (Q : Exit → Act → World → Prop) : List Code → Act → World → Prop
  | [], a, w => Q .normal a w
  | c :: r, a, w => c.wp P (Exit.then (wpL P Q r) Q) a w
section
variable {P : Program}
theorem lin_wp (Q : Exit → Act → World → Prop) : ∀ (c : Code) (r : List Code) (a : Act) (w : World), wpL P Q (lin c ++ r) a w → c.wp P (Exit.then (wpL P Q r) Q) a w
  | .seq x y, r, a, w, h => by
    have h1 : wpL P Q (lin x ++ (lin y ++ r)) a w := by
      have : lin (.seq x y) ++ r = lin x ++ (lin y ++ r) := by simp [lin]
      rw [← this]
      exact h
    refine wp_seq (wp_mono (lin_wp Q x _ a w h1) ?_)
    intro e a1 w1 he
    cases e with
    | normal => exact lin_wp Q y r a1 w1 he
    | _ => exact he
  | .skip, r, a, w, h => h
  | .region .., r, a, w, h => h
  | .cond .., r, a, w, h => h
  | .block .., r, a, w, h => h
  | .loop .., r, a, w, h => h
  | .exit .., r, a, w, h => h
  | .ret, r, a, w, h => h
  | .rangeFunc .., r, a, w, h => h
  | .scope .., r, a, w, h => h
  | .label .., r, a, w, h => h
  | .goto .., r, a, w, h => h
  | .refuse .., r, a, w, h => h
theorem wp_of_lin {Q : Exit → Act → World → Prop} {c : Code} {a : Act} {w : World} (h : wpL P Q (lin c) a w) : c.wp P Q a w := by
  refine wp_mono (lin_wp Q c [] a w (by simpa using h)) ?_
  intro e a1 w1 he
  cases e <;> exact he
/-- What is left of a list behind its first codes. -/
def codeAL (E : Env) : List Code → Sl → St → Option (Sl × St)
  | [], t, s => some (t, s)
  | c :: r, t, s => match codeA E (fnA E 30) (drawA E (fnA E 30)) 1000 c t s with
    | some (.normal, t', s') => codeAL E r t' s'
    | _ => none
theorem codeAL_ok {V : Nat → Value} {E : Env} (hE : EnvOK P V E) (hx : ExtOK P V E) {base : Nat} {w0 : World} {Q : Exit → Act → World → Prop} {r : List Code} : ∀ (l : List Code) {t t' : Sl} {s s' : St}, codeAL E l t s = some (t', s') → ∀ {a : Act} {w : World}, Here V base w0 t s a w → (∀ a' w', Here V base w0 t' s' a' w' → wpL P Q r a' w') → wpL P Q (l ++ r) a w
  | [], t, t', s, s', h, a, w, hh, hQ => by
    simp only [codeAL, Option.some.injEq, Prod.mk.injEq] at h
    obtain ⟨rfl, rfl⟩ := h
    exact hQ a w hh
  | c :: l, t, t', s, s', h, a, w, hh, hQ => by
    simp only [codeAL] at h
    split at h
    · rename_i t1 s1 h1
      exact code_here hE hx 30 1000 h1 hh (fun a' w' h' => codeAL_ok hE hx l h h' hQ)
    · cases h
def codeNL (hl : Bool) (i0 i1 : Nat) (E : Env) (eR : Int → Int → Env) (mOf : Nat → Option (Nat × Bool)) (hk : Nat → Sl → St → Option (List (AE × Sl × St))) (n : Nat) : List Code → Sl → St → Option (List (AE × Sl × St))
  | [], t, s => some [(.normal, t, s)]
  | c :: r, t, s => match codeN hl i0 i1 E eR mOf hk n c t s with
    | some l => joinAll (l.map fun x => match x with
      | (.normal, t', s') => codeNL hl i0 i1 E eR mOf hk n r t' s'
      | (e, t', s') => some [(e, t', s')])
    | none => none
theorem codeNL_ok {V0 : Nat → Value} {q : Ls} {ga : Nat} {row : Array Value} {hl : Bool} {i0 i1 : Nat} {E : Env} {eR : Int → Int → Env} (hD : DrawsOK P V0 hl q ga row E eR) {mOf : Nat → Option (Nat × Bool)} (hm : ∀ id m mg, mOf id = some (m, mg) → 1 ≤ m ∧ m ≤ 1000) {hk : Nat → Sl → St → Option (List (AE × Sl × St))} {base : Nat} {w0 : World} (n : Nat) {Q : Exit → Act → World → Prop} : ∀ (l : List Code), (∀ c ∈ l, HookC P V0 q ga row base w0 c hk) → ∀ {t : Sl} {s : St} {out : List (AE × Sl × St)}, codeNL hl i0 i1 E eR mOf hk n l t s = some out →
    ∀ {a : Act} {w : World}, HereC V0 q ga row base w0 t s a w → (∀ x ∈ out, ∀ a' w', HereC V0 q ga row base w0 x.2.1 x.2.2 a' w' → Q (AEx x.1) a' w') → wpL P Q l a w
  | [], _, t, s, out, h, a, w, hh, hQ => by
    simp only [codeNL, Option.some.injEq] at h
    subst h
    exact hQ (.normal, t, s) (by simp) a w hh
  | c :: l, hH, t, s, out, h, a, w, hh, hQ => by
    simp only [codeNL] at h
    split at h
    · rename_i o ho
      refine (codeN_ok hD hm (hH c (by simp)) n).1 c (fun _ _ h => h) ho hh _ (fun x hx a1 w1 g1 => ?_)
      obtain ⟨k, q1, q2⟩ := joinAll_ok h _ (List.mem_map.2 ⟨x, hx, rfl⟩)
      obtain ⟨e, t', s'⟩ := x
      cases e with
      | normal => exact codeNL_ok hD hm n l (fun c hc => hH c (List.mem_cons_of_mem _ hc)) q1 g1 (fun z hz => hQ z (q2 z hz))
      | ret =>
        simp only [Option.some.injEq] at q1
        exact hQ (.ret, t', s') (q2 _ (by rw [← q1]; simp)) a1 w1 g1
      | exit id =>
        simp only [Option.some.injEq] at q1
        exact hQ (.exit id, t', s') (q2 _ (by rw [← q1]; simp)) a1 w1 g1
    · cases h
end
/-- The state behind New. -/
def newS (hl : Bool) (s : St) : St := { s with heap := (s.next, ⟨84, [], some (900, 0)⟩) :: (bif hl then (s.next + 1, ⟨5, [], some (901, 0)⟩) :: s.heap else s.heap), next := s.next + 2 }
section
variable {V0 : Nat → Value}
theorem vL_low {q : Ls} {ga : Nat} {row : Array Value} {b p i : Nat} (hi : i < 900) : vL V0 q ga row b p i = V0 i := by
  unfold vL
  rw [if_neg (by omega), if_neg (by omega), if_neg (by omega)]
/-- No symbol from 900 on. -/
def lowC : AC → Bool
  | .sym i => Nat.blt i 900
  | _ => true
def lowL : List AC → Bool
  | [] => true
  | x :: r => lowC x && lowL r
def lowV : AV → Bool
  | .any => true
  | .undef => true
  | .one (.c x) => lowC x
  | .one (.agg l) => lowL l
  | _ => false
def lowT (t : Sl) : Nat → Bool
  | 0 => true
  | d + 1 => lowV (lget t d) && lowT t d
theorem low_c {q : Ls} {ga : Nat} {row : Array Value} {b p : Nat} {ρ : Rho} {x : AC} {v : Value} (h : lowC x = true) (hx : CR V0 ρ x v) : CR (vL V0 q ga row b p) ρ x v := by
  cases x with
  | sym i =>
    have hi : i < 900 := Nat.le_of_ble_eq_true (show Nat.ble (i + 1) 900 = true from h)
    have hx : v = V0 i := hx
    show v = vL V0 q ga row b p i
    rw [hx, vL_low hi]
  | ptr p => cases p <;> exact hx
  | slice p n c => cases p <;> exact hx
  | _ => exact hx
theorem low_l {q : Ls} {ga : Nat} {row : Array Value} {b p : Nat} {ρ : Rho} : ∀ {l : List AC} {m : List Value}, lowL l = true → F2 (CR V0 ρ) l m → F2 (CR (vL V0 q ga row b p) ρ) l m
  | [], [], _, _ => trivial
  | x :: r, y :: s, h, hx => by
    simp only [lowL, Bool.and_eq_true] at h
    exact ⟨low_c h.1 hx.1, low_l h.2 hx.2⟩
  | [], _ :: _, _, h => h.elim
  | _ :: _, [], _, h => h.elim
theorem low_v {q : Ls} {ga : Nat} {row : Array Value} {b p : Nat} {ρ : Rho} {x : AV} {v : Value} (h : lowV x = true) (hx : VR V0 ρ x v) : VR (vL V0 q ga row b p) ρ x v := by
  cases x with
  | any => trivial
  | undef => exact hx
  | one x =>
    cases x with
    | c x => exact low_c h hx
    | agg l =>
      obtain ⟨cs, h1, h2⟩ := hx
      exact ⟨cs, h1, low_l h h2⟩
  | tup _ => cases h
  | fn _ _ => cases h
theorem lowT_ok {t : Sl} : ∀ {n : Nat}, lowT t n = true → ∀ d, d < n → lowV (lget t d) = true
  | n + 1, h, d, hd => by
    simp only [lowT, Bool.and_eq_true] at h
    by_cases e : d = n
    · rw [e]
      exact h.1
    · exact lowT_ok h.2 d (by omega)
/-- The world behind New; nothing else is told. -/
theorem here_new {base : Nat} {w0 : World} {t : Sl} {s : St} {a : Act} {w w' : World} {gc : Nat} {q : Ls} (hh : Here V0 base w0 t s a w) (hs : s.heap = []) (ht : lowT t t.length = true) (hgc : w.heap.size ≤ gc) (hC : Cod w' gc q 0) (hA : ∀ ga, q.A = some ⟨ga, 0, none⟩ → w.heap.size ≤ ga ∧ ∃ cs, MBlk w' ga 5 cs) (hB : RowKit.Below w.heap.size w w') :
    ∃ hl ga row, LsOK hl q ga row ∧ ∀ d, HereC V0 q ga row base w0 (put t d (.one (.c (.ptr (some (s.next, 0)))))) (newS hl s) (a.put d (.pointer (some ⟨gc, 0, none⟩))) w' := by
  obtain ⟨ρ, hT, hr, h1, h2, h3, h4, h5⟩ := hh
  have hsz : gc < w'.heap.size := hC.lt
  have hbw : RowKit.Below base w0 w' := h4.trans ⟨hB.os, hB.tape, hB.output, hB.size, fun k hk => hB.block k (by omega)⟩
  have hcs : MBlk w' gc 84 #[.slice q.A q.n q.cap, .int .i64 ((0 : Nat) : Int)] := hC.2.2.1
  have slots : ∀ {ga : Nat} {row : Array Value} {ρ' : Rho} (d : Option Nat), Le ρ ρ' → ρ'.blk s.next = some gc → TR (vL V0 q ga row 0 0) ρ' (put t d (.one (.c (.ptr (some (s.next, 0)))))) (a.put d (.pointer (some ⟨gc, 0, none⟩))) := by
    intro ga row ρ' d hle hb
    refine tr_put ⟨hT.z, fun e => ?_, hT.df⟩ (show VR _ _ (.one (.c (.ptr (some (s.next, 0))))) _ from ⟨gc, hb, rfl⟩) d
    by_cases he : e < t.length
    · exact low_v (lowT_ok ht e he) (VR.mono V0 hle (hT.v e))
    · have := hT.v e
      rw [lget_far he] at this ⊢
      exact this
  have code : ∀ {ga : Nat} {row : Array Value} {ρ' : Rho}, BR (vL V0 q ga row 0 0) ρ' gc ⟨84, [], some (900, 0)⟩ #[.slice q.A q.n q.cap, .int .i64 ((0 : Nat) : Int)] :=
    ⟨[], _, by simp; rfl, trivial, rfl, pb_some (Nat.zero_le _)⟩
  by_cases hn : 0 < q.n
  · obtain ⟨ga, x, hAe, hne, _, _, _⟩ := hC.2.2.2.2 0 hn
    obtain ⟨hga, row, hrow⟩ := hA ga hAe
    have hgs : ga < w'.heap.size := hrow.lt
    refine ⟨true, ga, row, ⟨fun _ => ⟨hAe, fun k hk => ?_⟩, fun h => (by cases h), hC.2.1, hC.2.2.2.1⟩, fun d => ?_⟩
    · obtain ⟨ga', x', e', _, hx', _, hc'⟩ := hC.2.2.2.2 k hk
      rw [hAe] at e'
      cases e'
      exact ⟨x', hx', (hrow.cell k).symm.trans hc'⟩
    · have hρ : ∀ j, ((ρ.setB s.next gc).setB (s.next + 1) ga).blk j = if j = s.next + 1 then some ga else if j = s.next then some gc else ρ.blk j := fun _ => rfl
      have hl1 : Le ρ (ρ.setB s.next gc) := setB_le (h1 _ (Nat.le_refl _))
      have hl2 : Le (ρ.setB s.next gc) ((ρ.setB s.next gc).setB (s.next + 1) ga) := setB_le (by
        show (if s.next + 1 = s.next then _ else ρ.blk (s.next + 1)) = none
        rw [if_neg (by omega)]
        exact h1 _ (by omega))
      have hle := hl1.trans hl2
      refine ⟨0, 0, Nat.zero_le _, (ρ.setB s.next gc).setB (s.next + 1) ga, slots d hle (by rw [hρ, if_neg (by omega), if_pos rfl]), ⟨?_, ?_, ?_, ?_⟩, ?_, h2, ?_, hbw, Nat.le_trans h5 hB.size⟩
      · intro i B hB'
        simp only [newS, cond_true, hs, look_cons] at hB'
        by_cases e0 : s.next = i
        · rw [if_pos e0, Option.some.injEq] at hB'
          subst hB'
          exact ⟨gc, _, by rw [hρ, if_neg (by omega), if_pos e0.symm], hcs, code⟩
        · rw [if_neg e0] at hB'
          by_cases e1 : s.next + 1 = i
          · rw [if_pos e1, Option.some.injEq] at hB'
            subst hB'
            exact ⟨ga, row, by rw [hρ, if_pos e1.symm], hrow, [], _, by simp; rfl, trivial, rfl, .inl rfl⟩
          · rw [if_neg e1] at hB'
            cases hB'
      · intro i j B C b hBi hCj g1 g2
        simp only [newS, cond_true, hs, look_cons] at hBi hCj
        rw [hρ] at g1 g2
        by_cases i1 : i = s.next + 1
        · by_cases j1 : j = s.next + 1
          · omega
          · rw [if_pos i1] at g1
            rw [if_neg j1] at g2
            by_cases j0 : j = s.next
            · rw [if_pos j0] at g2
              injection g1 with g1
              injection g2 with g2
              exact absurd (g1.trans g2.symm) hne
            · rw [if_neg (Ne.symm j0), if_neg (fun e => j1 e.symm)] at hCj
              cases hCj
        · by_cases i0 : i = s.next
          · by_cases j1 : j = s.next + 1
            · rw [if_neg i1, if_pos i0] at g1
              rw [if_pos j1] at g2
              injection g1 with g1
              injection g2 with g2
              exact absurd (g2.trans g1.symm) hne
            · by_cases j0 : j = s.next
              · omega
              · rw [if_neg (Ne.symm j0), if_neg (fun e => j1 e.symm)] at hCj
                cases hCj
          · rw [if_neg (Ne.symm i0), if_neg (fun e => i1 e.symm)] at hBi
            cases hBi
      · intro i b g
        rw [hρ] at g
        split at g
        · injection g with g
          omega
        · split at g
          · injection g with g
            omega
          · exact Nat.lt_of_lt_of_le (hr.bnd _ _ g) hB.size
      · intro i B hB'
        simp only [newS, cond_true, hs, look_cons] at hB'
        by_cases e0 : s.next = i
        · simp only [newS]; omega
        · rw [if_neg e0] at hB'
          by_cases e1 : s.next + 1 = i
          · simp only [newS]; omega
          · rw [if_neg e1] at hB'
            cases hB'
      · intro i hi
        simp only [newS] at hi
        rw [hρ, if_neg (by omega), if_neg (by omega)]
        exact h1 _ (by omega)
      · intro i b g
        rw [hρ] at g
        split at g
        · injection g with g
          omega
        · split at g
          · injection g with g
            omega
          · exact h3 _ _ g
  · refine ⟨false, 0, #[], ⟨fun h => (by cases h), fun _ => by omega, hC.2.1, hC.2.2.2.1⟩, fun d => ?_⟩
    have hρ : ∀ j, (ρ.setB s.next gc).blk j = if j = s.next then some gc else ρ.blk j := fun _ => rfl
    have hle : Le ρ (ρ.setB s.next gc) := setB_le (h1 _ (Nat.le_refl _))
    refine ⟨0, 0, Nat.zero_le _, ρ.setB s.next gc, slots d hle (by rw [hρ, if_pos rfl]), ⟨?_, ?_, ?_, ?_⟩, ?_, h2, ?_, hbw, Nat.le_trans h5 hB.size⟩
    · intro i B hB'
      simp only [newS, cond_false, hs, look_cons] at hB'
      by_cases e0 : s.next = i
      · rw [if_pos e0, Option.some.injEq] at hB'
        subst hB'
        exact ⟨gc, _, by rw [hρ, if_pos e0.symm], hcs, code⟩
      · rw [if_neg e0] at hB'
        cases hB'
    · intro i j B C b hBi hCj g1 g2
      simp only [newS, cond_false, hs, look_cons] at hBi hCj
      by_cases i0 : s.next = i
      · by_cases j0 : s.next = j
        · omega
        · rw [if_neg j0] at hCj
          cases hCj
      · rw [if_neg i0] at hBi
        cases hBi
    · intro i b g
      rw [hρ] at g
      split at g
      · injection g with g
        omega
      · exact Nat.lt_of_lt_of_le (hr.bnd _ _ g) hB.size
    · intro i B hB'
      simp only [newS, cond_false, hs, look_cons] at hB'
      by_cases e0 : s.next = i
      · simp only [newS]; omega
      · rw [if_neg e0] at hB'
        cases hB'
    · intro i hi
      simp only [newS] at hi
      rw [hρ, if_neg (by omega)]
      exact h1 _ (by omega)
    · intro i b g
      rw [hρ] at g
      split at g
      · injection g with g
        omega
      · exact h3 _ _ g
end
end Ab
end Go.Proofs.Ytddiclnkfhldlaa
