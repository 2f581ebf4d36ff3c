/-
  The contract of Gateways.
  Conditions: none.
-/
import Derived.Test.YtddiclnkfhldlaaGwR
import Derived.Test.YtddiclnkfhldlaaMuD
namespace Go.Proofs.Ytddiclnkfhldlaa
namespace Ab
open Go.RowKit
set_option linter.unusedVariables false
set_option maxRecDepth 100000
theorem f2_of {α β : Type} {R : α → β → Prop} : ∀ {l : List α} {m : List β}, l.length = m.length → (∀ (i : Nat) x y, l[i]? = some x → m[i]? = some y → R x y) → F2 R l m
  | [], [], _, _ => trivial
  | x :: l, y :: m, h, k => ⟨k 0 x y rfl rfl, f2_of (by simpa using h) fun i a b h1 h2 => k (i + 1) a b (by simpa using h1) (by simpa using h2)⟩
  | [], _ :: _, h, _ => by cases h
  | _ :: _, [], h, _ => by cases h
theorem gwC_at : ∀ i x, gwC[i]? = some x → x = .any ∨ (i = 6 ∧ x = .int .i64 0) ∨ (i = 15 ∧ x = .slice none 0 (.lit 0)) := by
  intro i x h
  have hi : i < 19 := by
    have := (List.getElem?_eq_some_iff.1 h).1
    simpa [gwC] using this
  have : ∀ j, j < 19 → (gwC[j]? = some .any) ∨ (j = 6 ∧ gwC[j]? = some (.int .i64 0)) ∨ (j = 15 ∧ gwC[j]? = some (.slice none 0 (.lit 0))) := by
    intro j hj
    match j, hj with
    | 0, _ => exact .inl rfl
    | 1, _ => exact .inl rfl
    | 2, _ => exact .inl rfl
    | 3, _ => exact .inl rfl
    | 4, _ => exact .inl rfl
    | 5, _ => exact .inl rfl
    | 6, _ => exact .inr (.inl ⟨rfl, rfl⟩)
    | 7, _ => exact .inl rfl
    | 8, _ => exact .inl rfl
    | 9, _ => exact .inl rfl
    | 10, _ => exact .inl rfl
    | 11, _ => exact .inl rfl
    | 12, _ => exact .inl rfl
    | 13, _ => exact .inl rfl
    | 14, _ => exact .inl rfl
    | 15, _ => exact .inr (.inr ⟨rfl, rfl⟩)
    | 16, _ => exact .inl rfl
    | 17, _ => exact .inl rfl
    | 18, _ => exact .inl rfl
    | _ + 19, h => omega
  rcases this i hi with k | ⟨e, k⟩ | ⟨e, k⟩
  · rw [k] at h
    injection h with h
    exact .inl h.symm
  · rw [k] at h
    injection h with h
    exact .inr (.inl ⟨e, h.symm⟩)
  · rw [k] at h
    injection h with h
    exact .inr (.inr ⟨e, h.symm⟩)
section
variable {V0 : Nat → Value} {q : Ls} {ga b p : Nat} {row : Array Value} {hl : Bool} {i0 i1 : Nat}
theorem gwv_f2 {V : Nat → Value} {ρ : Rho} {cs : Array Value} (h : GwV cs) : F2 (CR V ρ) gwC cs.toList := by
  obtain ⟨h1, h2, h3, h4⟩ := h
  refine f2_of (by have e : cs.toList.length = 19 := by rw [Array.length_toList, h1]
                   rw [e]; rfl) fun i x y hx hy => ?_
  rcases gwC_at i x hx with rfl | ⟨rfl, rfl⟩ | ⟨rfl, rfl⟩
  · exact h2 y (List.mem_of_getElem? hy)
  · rw [Array.getElem?_toList, h3] at hy
    injection hy with hy
    exact hy.symm
  · rw [Array.getElem?_toList, h4] at hy
    injection hy with hy
    exact ⟨0, rfl, Nat.le_refl _, hy.symm⟩
/-- A row of known numbers. -/
def ints : List AC → Option (List Int)
  | [] => some []
  | .int .i64 n :: r => (match ints r with | some l => some (n :: l) | none => none)
  | _ :: _ => none
theorem ints_ok {V : Nat → Value} {ρ : Rho} : ∀ {l : List AC} {m : List Int} {vs : List Value}, ints l = some m → F2 (CR V ρ) l vs → vs = m.map (Value.int .i64)
  | [], m, vs, h, hv => by
    simp only [ints, Option.some.injEq] at h
    subst h
    cases vs with
    | nil => rfl
    | cons _ _ => exact hv.elim
  | x :: r, m, vs, h, hv => by
    match vs, hv with
    | v :: vs, hv =>
      unfold ints at h
      split at h
      · rename_i heq
        cases heq
      · rename_i n r' heq
        injection heq with e1 e2
        subst e1
        subst e2
        split at h
        · rename_i l hl
          simp only [Option.some.injEq] at h
          subst h
          have e : v = .int .i64 n := hv.1
          rw [List.map_cons, ← ints_ok hl hv.2, e]
        · cases h
      · cases h
/-- Rules, its value not told. -/
def rulesE (hl : Bool) (i0 i1 : Nat) (args : List AV) (s : St) : Option (AV × St) :=
  match args with
  | [.one (.c (.ptr (some (i, 0)))), .one (.c (.int .i64 side))] => bif Nat.beq i i0 && codesIn hl i0 i1 s 900 then some (.any, codeOn s i0) else none
  | _ => none
/-- New on what Rules has yielded. -/
def newE (args : List AV) (s : St) : Option (AV × St) :=
  match args with
  | [.one (.c (.int .i64 id)), .one (.c (.int .i64 lo)), .one (.c (.int .i64 re)), .any, .one (.c (.slice (some (j, 0)) n (.lit c)))] =>
    (match look s.heap j with
    | some ⟨ty, cells, none⟩ => (match ints cells with
      | some l => bif Nat.beq ty 3 && Nat.beq l.length n && Nat.beq n c && (Nat.beq n 1 || Nat.beq n 2) && ((decide (id = 0) && decide (lo = 1) && decide (re = 2)) || (decide (id = 1) && decide (lo = 2) && decide (re = 1))) then some (gwR, s) else none
      | none => none)
    | _ => none)
  | _ => none
def callG (hl : Bool) (i0 i1 : Nat) : Call1 := fun f args s =>
  bif Nat.beq f 40 then rulesE hl i0 i1 args s else bif Nat.beq f 39 then newE args s else none
def KR (hl : Bool) (q : Ls) (ga : Nat) (row : Array Value) (v : Value) (w : World) : Prop := ∃ g B, RulesOK hl q ga row g B w v
theorem rulesE_ok (hL : LsOK hl q ga row) {args : List AV} {s s1 : St} {v : AV} (h : callG hl i0 i1 40 args s = some (v, s1)) (ρ : Rho) (w : World) (vals : Array Value) (hv : F2 (VR (vL V0 q ga row b p) ρ) args vals.toList) (hr : Rep (vL V0 q ga row b p) ρ s w) (hf : Free ρ s s1) :
    Calls Try.prog 40 vals w fun e w' => ∃ c ρ', e = .returned c ∧ Goes (vL V0 q ga row b p) ρ s w s1 w' ρ' ∧ VR (vL V0 q ga row b p) ρ' v c ∧ KR hl q ga row c w' := by
  unfold callG at h
  simp only [Nat.beq_refl, cond_true] at h
  unfold rulesE at h
  split at h
  · rename_i i side
    cases hk : (Nat.beq i i0 && codesIn hl i0 i1 s 900)
    · simp [hk] at h
    · simp only [hk, cond_true, Option.some.injEq, Prod.mk.injEq] at h
      obtain ⟨rfl, rfl⟩ := h
      simp only [Bool.and_eq_true] at hk
      obtain ⟨k1, k2⟩ := hk
      have k1 := Nat.eq_of_beq_eq_true k1
      subst k1
      obtain ⟨c0, c1⟩ := codesIn_ok k2
      obtain ⟨g, p', hb, hC⟩ := rep_some hL hr c0 c1
      have hvals : vals = #[.pointer (some ⟨g, 0, none⟩), .int .i64 side] := by
        apply Array.ext'
        match hl : vals.toList, hv with
        | [x, y], hv =>
          obtain ⟨b', e0, e1⟩ := hv.1
          rw [hb] at e0
          injection e0 with e0
          subst e0
          have e2 : y = .int .i64 side := hv.2.1
          rw [e1, e2]
      subst hvals
      have hrow : RowIn hl ga row w := fun e => (rep_list hr (c1 e)).2
      have hne : hl = true → ga ≠ g := by
        intro e he
        have h1 := hrow e
        have h2 : MBlk w g 84 #[.slice q.A q.n q.cap, .int .i64 (p' : Nat)] := hC.2.2.1
        subst he
        unfold MBlk Go.Proofs.Ytddiclnkfhldlaa.Blk at h1 h2
        rw [h1] at h2
        injection h2 with h2
        injection h2 with _ h2
        exact absurd h2 (by decide)
      refine (rules_any hL hC hrow hne side).mono ?_
      rintro e w' ⟨c, rfl, hR, ⟨p2, hC'⟩, hg, _⟩
      exact ⟨c, ρ, rfl, go_codes hr c0 hb hg hC'.2.2.1 (pb_some hC'.1), trivial, g, w.heap.size, hR⟩
  · cases h
theorem newE_ok {V : Nat → Value} {args : List AV} {s s1 : St} {v : AV} (h : callG hl i0 i1 39 args s = some (v, s1)) (ρ : Rho) (w : World) (vals : Array Value) (hv : F2 (VR V ρ) args vals.toList) (hr : Rep V ρ s w) (hf : Free ρ s s1) (hK : KR hl q ga row (vals.toList[3]?.getD undef) w) :
    Calls Try.prog 39 vals w fun e w' => ∃ c ρ', e = .returned c ∧ Goes V ρ s w s1 w' ρ' ∧ VR V ρ' v c := by
  unfold callG at h
  have hb0 : Nat.beq 39 40 = false := by decide
  simp only [hb0, cond_false, Nat.beq_refl, cond_true] at h
  unfold newE at h
  split at h
  · rename_i id lo re j n c
    split at h
    · rename_i ty cells hlook
      split at h
      · rename_i l hints
        cases hk : (Nat.beq ty 3 && Nat.beq l.length n && Nat.beq n c && (Nat.beq n 1 || Nat.beq n 2) && ((decide (id = 0) && decide (lo = 1) && decide (re = 2)) || (decide (id = 1) && decide (lo = 2) && decide (re = 1))))
        · rw [hk] at h
          cases h
        · rw [hk] at h
          simp only [cond_true, Option.some.injEq, Prod.mk.injEq] at h
          obtain ⟨rfl, rfl⟩ := h
          simp only [Bool.and_eq_true, Bool.or_eq_true, decide_eq_true_eq] at hk
          obtain ⟨⟨⟨⟨k1, k2⟩, k3⟩, k4⟩, k5⟩ := hk
          have k1 := Nat.eq_of_beq_eq_true k1
          have k2 := Nat.eq_of_beq_eq_true k2
          have k3 := Nat.eq_of_beq_eq_true k3
          subst k1
          subst k3
          subst k2
          obtain ⟨gg, cs, g1, g2, pre, post, g3, g4, g5⟩ := hr.h j _ hlook
          have g5 : post = [] := g5
          subst g5
          have hpre := ints_ok hints g4
          rw [List.append_nil, hpre] at g3
          have hcs : cs = (l.map (Value.int .i64)).toArray := Array.ext' (by rw [g3])
          subst hcs
          obtain ⟨g, B, hR⟩ := hK
          have hvals : vals = #[.int .i64 id, .int .i64 lo, .int .i64 re, vals.toList[3]?.getD undef, .slice (some ⟨gg, 0, none⟩) l.length l.length] := by
            apply Array.ext'
            match hl : vals.toList, hv with
            | [x0, x1, x2, x3, x4], hv =>
              have e0 : x0 = .int .i64 id := hv.1
              have e1 : x1 = .int .i64 lo := hv.2.1
              have e2 : x2 = .int .i64 re := hv.2.2.1
              obtain ⟨b', m, e4, e5, _, e6⟩ := hv.2.2.2.2.1
              rw [g1] at e4
              injection e4 with e4
              subst e4
              have e5 : m = l.length := e5
              subst e5
              rw [e0, e1, e2, e6]
              simp
          rw [hvals]
          refine (new_gw hR (l := l) (gg := gg) ?_ g2 (id := id) (lo := lo) (re := re) ?_).mono ?_
          · rcases k4 with k4 | k4
            · exact .inl (Nat.eq_of_beq_eq_true k4)
            · exact .inr (Nat.eq_of_beq_eq_true k4)
          · rcases k5 with ⟨⟨x1, x2⟩, x3⟩ | ⟨⟨x1, x2⟩, x3⟩
            · exact .inl ⟨x1, x2, x3⟩
            · exact .inr ⟨x1, x2, x3⟩
          · rintro e w' ⟨cs, k, rfl, hG, hb⟩
            exact ⟨_, ρ, rfl, goes_keep hr hb, #[.agg cs, .int .i64 k], rfl, ⟨cs, rfl, gwv_f2 hG⟩, ⟨k, rfl⟩, trivial⟩
      · cases h
    · cases h
  · cases h
noncomputable def envG (hl : Bool) : Env := env noTab noCvt (onlyE envZ (nextW hl 0 1))
def twoA : Two := ⟨1, 40, 19, 9, 39, 3⟩
def twoB : Two := ⟨1, 40, 32, 9, 39, 3⟩
def orD (a b : Draw1) : Draw1 := fun ops t s => match a ops t s with | some r => some r | none => b ops t s
theorem orD_ok {P : Program} {V : Nat → Value} {a b : Draw1} (h1 : DrawOK P V a) (h2 : DrawOK P V b) : DrawOK P V (orD a b) := by
  intro ops t s t' s' h
  unfold orD at h
  split at h
  · rename_i r hr
    injection h with h
    subst h
    exact h1 ops t s t' s' hr
  · exact h2 ops t s t' s' h
theorem orD_up {a b : Draw1} (h1 : DrawUp a) (h2 : DrawUp b) : DrawUp (orD a b) := by
  intro ops t s t' s' h
  unfold orD at h
  split at h
  · rename_i r hr
    injection h with h
    subst h
    exact h1 ops t s t' s' hr
  · exact h2 ops t s t' s' h
theorem drawT_up {E : Env} {call : Call1} {T : Two} (hup : CallUp call) : DrawUp (drawT E call T) := by
  intro ops t s t' s' h
  unfold drawT at h
  split at h
  · cases h
  · rename_i B hB
    cases hb : (twoCk B T ops && Nat.blt T.d t.length)
    · rw [hb] at h
      cases h
    · rw [hb] at h
      exact drawA_up hup ops t s t' s' h
noncomputable def drG (hl : Bool) : Draw1 := orD (drawT (envG hl) (callG hl 0 1) twoA) (orD (drawT (envG hl) (callG hl 0 1) twoB) (drawA (envG hl) (fnA (envG hl) 30)))
def spG (id : Nat) : Option Nat := match id with | 2 => some 5 | _ => none
def gwsR : AV := .tup [.agg gwC, .agg gwC]
noncomputable def gwsOK (hl : Bool) : Bool :=
  match runMD (envG hl) (drG hl) spG 1000 10 (argC []) (sC hl) with
  | some out => out.all fun y => subX [] [] y.1 gwsR && onC hl y.2
  | none => false
theorem rGwsT : gwsOK true = true := by kernel_rfl
theorem rGwsF : gwsOK false = true := by kernel_rfl
theorem callG_up : CallUp (callG hl i0 i1) := by
  intro f args s v s' h
  unfold callG at h
  cases h0 : Nat.beq f 40
  · rw [h0] at h
    simp only [cond_false] at h
    cases h1 : Nat.beq f 39
    · rw [h1] at h
      cases h
    · rw [h1] at h
      simp only [cond_true] at h
      unfold newE at h
      split at h
      · split at h
        · split at h
          · rename_i l _
            generalize hz : (Nat.beq _ _ && _ && _ && _ && _) = z at h
            cases z
            · cases h
            · simp only [cond_true, Option.some.injEq, Prod.mk.injEq] at h
              rw [← h.2]
              exact ⟨Nat.le_refl _, Nat.le_refl _⟩
          · cases h
        · cases h
      · cases h
  · rw [h0] at h
    simp only [cond_true] at h
    unfold rulesE at h
    split at h
    · generalize hz : (Nat.beq _ _ && _) = z at h
      cases z
      · cases h
      · simp only [cond_true, Option.some.injEq, Prod.mk.injEq] at h
        rw [← h.2]
        exact ⟨Nat.le_refl _, Nat.le_refl _⟩
    · cases h
theorem callG_fn : CallFn (envG hl) (callG hl i0 i1) := by
  intro f args s r h
  unfold callG at h
  cases h0 : Nat.beq f 40
  · rw [h0] at h
    simp only [cond_false] at h
    cases h1 : Nat.beq f 39
    · rw [h1] at h
      cases h
    · rw [Nat.eq_of_beq_eq_true h1]
      exact ⟨Try.f39, by kernel_rfl⟩
  · rw [Nat.eq_of_beq_eq_true h0]
    exact ⟨Try.f40, by kernel_rfl⟩
theorem kr_below : ∀ c w w', KR hl q ga row c w → RowKit.Below w.heap.size w w' → KR hl q ga row c w' := fun c w w' ⟨g, B, h⟩ hb => ⟨g, B, rulesOK_below h hb⟩
theorem drG_ok (hL : LsOK hl q ga row) (h1 : ∀ i, (V0 i).oneCell' = true) : EnvOK Try.prog (vL V0 q ga row b p) (envG hl) ∧ ExtOK Try.prog (vL V0 q ga row b p) (envG hl) ∧ DrawOK Try.prog (vL V0 q ga row b p) (drG hl) ∧ DrawUp (drG hl) := by
  have hX := envX_ok (vL_one h1 b p) (nextW_ok (V0 := V0) (b := b) (p := p) (i0 := 0) (i1 := 1) hL)
  have hT : ∀ T : Two, T.f0 = 40 → T.f1 = 39 → T.n = 3 → DrawOK Try.prog (vL V0 q ga row b p) (drawT (envG hl) (callG hl 0 1) T) := by
    intro T e0 e1 e2
    refine drawT_ok (K := KR hl q ga row) hX.1 callG_fn callG_up kr_below ?_ ?_
    · intro args s s1 v h
      rw [e0] at h ⊢
      exact rulesE_ok hL h
    · intro args s s1 v h
      rw [e1] at h ⊢
      rw [e2]
      exact newE_ok h
  have hc := fnA_ok hX.1 hX.2 30
  have hf := fnA_fn (E := envG hl) hX.2.fn 30
  have hu := fnA_up (E := envG hl) hX.2.up 30
  exact ⟨hX.1, hX.2, orD_ok (hT twoA rfl rfl rfl) (orD_ok (hT twoB rfl rfl rfl) (draw_ok hX.1 hc hf hu)), orD_up (drawT_up callG_up) (orD_up (drawT_up callG_up) (drawA_up hu))⟩
/-- Gateways. -/
def gwE (hl : Bool) (i0 i1 : Nat) (f : Nat) (args : List AV) (s : St) : Option (AV × St) :=
  match args with
  | [.one (.c (.ptr (some (i, 0))))] => bif Nat.beq f 10 && (Nat.beq i i0 && codesIn hl i0 i1 s 900) then some (gwsR, codeOn s i0) else none
  | _ => none
theorem gwE_ok (hL : LsOK hl q ga row) (h1 : ∀ i, (V0 i).oneCell' = true) : CallOK Try.prog (vL V0 q ga row b p) (gwE hl i0 i1) := by
  intro f args s v s' h ρ w vals hargs hr hf
  unfold gwE at h
  split at h
  · rename_i i
    cases hk : (Nat.beq f 10 && (Nat.beq i i0 && codesIn hl i0 i1 s 900))
    · simp [hk] at h
    · simp only [hk, cond_true, Option.some.injEq, Prod.mk.injEq] at h
      obtain ⟨rfl, rfl⟩ := h
      simp only [Bool.and_eq_true] at hk
      obtain ⟨k0, k1, k2⟩ := hk
      have k0 := Nat.eq_of_beq_eq_true k0
      subst k0
      have k1 := Nat.eq_of_beq_eq_true k1
      subst k1
      obtain ⟨r1, r2⟩ := rep_sC h1 hr k2
      have hv : F2 (VR (vL V0 q ga row b p) (ρ.ren (fC hl i i1) [])) (argC []) vals.toList := by
        match hl : vals.toList, hargs with
        | [u], hv =>
          obtain ⟨g, e0, e1⟩ := hv.1
          exact ⟨⟨g, by rw [ren_0]; exact e0, e1⟩, trivial⟩
      have hrun : gwsOK hl = true := by
        cases hl
        · exact rGwsF
        · exact rGwsT
      obtain ⟨d1, d2, d3, d4⟩ := drG_ok (V0 := V0) (b := b) (p := p) hL h1
      unfold gwsOK at hrun
      split at hrun
      · rename_i out hout
        refine (runMD_ok d1 d2 d3 d4 hout rfl hv r1 r2).mono ?_
        rintro e w' ⟨y, hy, c, ρ', rfl, hg, hc⟩
        have hk := List.all_eq_true.1 hrun y hy
        simp only [Bool.and_eq_true] at hk
        exact ⟨c, ρ, rfl, on_codes h1 hr k2 hg hk.2, (subX_ok (vL_one h1 b p) hk.1 hc).mono _ (ren_nil _ _)⟩
      · cases hrun
  · cases h
end
end Ab
end Go.Proofs.Ytddiclnkfhldlaa
