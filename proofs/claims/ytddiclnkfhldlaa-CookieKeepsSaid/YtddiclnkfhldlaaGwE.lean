/-
  The contract of Gateways, with what the gateways keep in memory.
  Conditions: none.
-/
import Derived.Test.YtddiclnkfhldlaaGwD
namespace Go.Proofs.Ytddiclnkfhldlaa
namespace Ab
open Go.RowKit
set_option linter.unusedVariables false
set_option linter.unusedSimpArgs false
set_option maxRecDepth 100000
def opsAt : List Code → Array Oper
  | .region _ ops _ :: _ => ops
  | _ => #[]
noncomputable def gC : Code := Try.f10.body.getD .skip
noncomputable def gPre : List Code := (lin gC).take 3
noncomputable def gOps3 : Array Oper := opsAt ((lin gC).drop 3)
noncomputable def gOps4 : Array Oper := opsAt ((lin gC).drop 4)
noncomputable def gEnd : List Code := (lin gC).drop 5
theorem gC_is : Try.f10.body = some gC := by kernel_rfl
theorem g_lin : lin gC = gPre ++ (.region 3 gOps3 true :: .region 4 gOps4 true :: gEnd) := by kernel_rfl
/-- Code as a list, to where it ends. -/
def codeAX (E : Env) : List Code → Sl → St → Option (AE × Sl × St)
  | [], t, s => some (.normal, t, s)
  | c :: r, t, s => match codeA E (fnA E 30) (drawA E (fnA E 30)) 1000 c t s with
    | some (.normal, t', s') => codeAX E r t' s'
    | x => x
def idc4 : List (Nat × Nat) := [(0, 0), (1, 1), (2, 2), (3, 3)]
def newSlot (d : Nat) (id : Int) (c : Nat) (t : Sl) : Bool := match lget t d with
  | .tup [.agg l, _] => subL [] idc4 l (gwIc id c)
  | _ => false
noncomputable def gwsRun (hl : Bool) : Bool :=
  match codeAL (envG hl) gPre (pad Try.f10.ntmps (argC [])) (sC hl) with
  | some (t0, s0) => (match splitN 5 t0 with
    | some ts => ts.all fun t1 => (match drawT2 (envG hl) (callG hl 0 0 1) twoA 27 gOps3 t1 s0 with
      | some (t2, s2) => newSlot 27 0 0 t2 && (match drawT2 (envG hl) (callG hl 1 0 1) twoB 40 gOps4 t2 s2 with
        | some (t3, s3) => newSlot 40 1 2 t3 && (match codeAX (envG hl) gEnd t3 s3 with
          | some (.ret, t4, s4) => (match resultsA (envG hl) t4 s4 Try.f10.results.toList with | some [.agg l1, .agg l2] => subL [] idc4 l1 (gwIc 0 0) && subL [] idc4 l2 (gwIc 1 2) | _ => false) && (codesIn hl 0 1 s4 900 && s4.dirty.all (fun j => Nat.beq j 0 || Nat.ble 2 j))
          | _ => false)
        | none => false)
      | none => false)
    | none => false)
  | none => false
theorem gwsRunT : gwsRun true = true := by kernel_rfl
theorem gwsRunF : gwsRun false = true := by kernel_rfl
theorem codeAL_goes {P : Program} {V : Nat → Value} {E : Env} (hE : EnvOK P V E) (hx : ExtOK P V E) {Q : Exit → Act → World → Prop} {r : List Code} : ∀ (l : List Code) {t t' : Sl} {s s' : St}, codeAL E l t s = some (t', s') → ∀ {ρ : Rho} {a : Act} {w : World}, TR V ρ t a → Rep V ρ s w → Clean ρ s → (∀ ρ' a' w', Goes V ρ s w s' w' ρ' → TR V ρ' t' a' → wpL P Q r a' w') → wpL P Q (l ++ r) a w
  | [], t, t', s, s', h, ρ, a, w, ht, hr, hc, hQ => by
    simp only [codeAL, Option.some.injEq, Prod.mk.injEq] at h
    obtain ⟨rfl, rfl⟩ := h
    exact hQ ρ a w (Goes.refl V hr) ht
  | c :: l, t, t', s, s', h, ρ, a, w, ht, hr, hc, hQ => by
    simp only [codeAL] at h
    split at h
    · rename_i t1 s1 h1
      have hcc := fnA_ok hE hx 30
      have hff := fnA_fn (E := E) hx.fn 30
      have huu := fnA_up (E := E) hx.up 30
      refine (code_ok hE hcc hff huu (draw_ok hE hcc hff huu) (drawA_up huu) 1000).1 c h1 ht hr (hc.free _) _ ?_
      intro ρ1 a1 w1 hg ht1
      exact codeAL_goes hE hx l h ht1 hg.1 (hc.goes hg) (fun ρ2 a2 w2 hg2 ht2 => hQ ρ2 a2 w2 (hg.trans V hg2) ht2)
    · cases h
theorem codeAX_goes {P : Program} {V : Nat → Value} {E : Env} (hE : EnvOK P V E) (hx : ExtOK P V E) {Q : Exit → Act → World → Prop} : ∀ (l : List Code) {t t' : Sl} {s s' : St} {e : AE}, codeAX E l t s = some (e, t', s') → ∀ {ρ : Rho} {a : Act} {w : World}, TR V ρ t a → Rep V ρ s w → Clean ρ s → (∀ ρ' a' w', Goes V ρ s w s' w' ρ' → TR V ρ' t' a' → Q (AEx e) a' w') → wpL P Q l a w
  | [], t, t', s, s', e, h, ρ, a, w, ht, hr, hc, hQ => by
    simp only [codeAX, Option.some.injEq, Prod.mk.injEq] at h
    obtain ⟨rfl, rfl, rfl⟩ := h
    exact hQ ρ a w (Goes.refl V hr) ht
  | c :: l, t, t', s, s', e, h, ρ, a, w, ht, hr, hc, hQ => by
    have hcc := fnA_ok hE hx 30
    have hff := fnA_fn (E := E) hx.fn 30
    have huu := fnA_up (E := E) hx.up 30
    simp only [codeAX] at h
    split at h
    · rename_i t1 s1 h1
      refine (code_ok hE hcc hff huu (draw_ok hE hcc hff huu) (drawA_up huu) 1000).1 c h1 ht hr (hc.free _) _ ?_
      intro ρ1 a1 w1 hg ht1
      exact codeAX_goes hE hx l h ht1 hg.1 (hc.goes hg) (fun ρ2 a2 w2 hg2 ht2 => hQ ρ2 a2 w2 (hg.trans V hg2) ht2)
    · rename_i hno
      refine (code_ok hE hcc hff huu (draw_ok hE hcc hff huu) (drawA_up huu) 1000).1 c h ht hr (hc.free _) _ ?_
      intro ρ1 a1 w1 hg ht1
      cases e with
      | normal => exact (hno _ _ h).elim
      | ret => exact hQ ρ1 a1 w1 hg ht1
      | exit id => exact hQ ρ1 a1 w1 hg ht1
theorem pad_tr {V : Nat → Value} {ρ : Rho} {args : List AV} {vals : Array Value} {n : Nat} (hargs : F2 (VR V ρ) args vals.toList) (hle : args.length ≤ n) : TR V ρ (pad n args) { tmps := vals ++ Array.replicate (n - vals.size) undef, defers := [] } := by
  have hvl : vals.size = args.length := by rw [← Array.length_toList, ← hargs.length]
  refine ⟨by rw [pad_length]; simp; omega, fun d => ?_, rfl⟩
  rw [pad_look _ _ _ hle]
  have h1 := lget_F2 hargs d
  have h2 : (vals ++ Array.replicate (n - vals.size) undef).getD d undef = vals.toList.getD d undef := by
    simp only [Array.getD_eq_getD_getElem?, List.getD_eq_getElem?_getD, Array.getElem?_append, Array.getElem?_toList]
    by_cases hd : d < vals.size
    · rw [if_pos hd]
    · rw [if_neg hd, Array.getElem?_eq_none (by omega : vals.size ≤ d), Array.getElem?_replicate]
      split <;> rfl
  show VR V ρ _ ((vals ++ Array.replicate (n - vals.size) undef).getD d undef)
  rw [h2]
  exact h1
/-- The rules and groups of a gateway's row. -/
theorem cv_at {V : Nat → Value} (hone : ∀ i, (V i).oneCell' = true) {ρ : Rho} {cs : List Value} {l : List AC} {id : Int} {c : Nat} (h : subL [] idc4 l (gwIc id c) = true) (hcs : F2 (CR V ρ) l cs) (hc : c = 0 ∨ c = 2) : ∃ m4 m5, ρ.cap c = some m4 ∧ ρ.cap (c + 1) = some m5 ∧ cs[4]? = some (sliceOf m4) ∧ cs[5]? = some (sliceOf m5) ∧ ∀ V' ρ', F2 (CR V' ρ') (gwI id) cs := by
  have h2 := subL_ok hone h hcs
  obtain ⟨u4, a4, m4, b4, rfl⟩ := f2_get h2 4 (x := .cv c) rfl
  obtain ⟨u5, a5, m5, b5, rfl⟩ := f2_get h2 5 (x := .cv (c + 1)) rfl
  have hcap : ∀ j, j < 4 → (ρ.ren [] idc4).cap j = ρ.cap j := by
    intro j hj
    match j, hj with
    | 0, _ => rfl
    | 1, _ => rfl
    | 2, _ => rfl
    | 3, _ => rfl
    | _ + 4, h => omega
  refine ⟨m4, m5, by rw [← hcap c (by omega)]; exact b4, by rw [← hcap (c + 1) (by omega)]; exact b5, a4, a5, fun V' ρ' => ?_⟩
  have e : gwI id = setAt' (setAt' (gwIc id c) 4 .any) 5 .any := rfl
  have h3 : F2 (CR V (ρ.ren [] idc4)) (gwI id) cs := by
    rw [e]
    exact f2_set' 5 (f2_set' 4 h2 a4 rfl) a5 rfl
  exact plain_l rfl h3
/-- A new gateway's row, and what it keeps: in memory of the call's own. -/
def GwF (id : Int) (cs : List Value) (w w' : World) : Prop := (∀ V ρ, F2 (CR V ρ) (gwI id) cs) ∧ ∃ (DK : Nat → Prop) (wK : World) (m4 m5 : Nat), cs[4]? = some (sliceOf m4) ∧ cs[5]? = some (sliceOf m5) ∧ Deep DK wK m4 m5 ∧ wK.heap.size ≤ w'.heap.size ∧ ∀ b, DK b → w.heap.size ≤ b ∧ b < w'.heap.size ∧ w'.heap[b]? = wK.heap[b]?
section
variable {q : Ls} {ga : Nat} {row : Array Value} {hl : Bool}
abbrev GwsPost (hl : Bool) (q : Ls) (ga : Nat) (row : Array Value) (g : Nat) (w : World) (e : Ending) (w' : World) : Prop :=
  ∃ cs1 cs2, e = .returned (.tuple #[.agg cs1, .agg cs2]) ∧ GwF 0 cs1.toList w w' ∧ GwF 1 cs2.toList w w' ∧ (∃ p', Cod w' g q p') ∧ w.grownBy w' (some g) ∧ RowIn hl ga row w'
theorem callG_up {i0 i1 : Nat} {sd : Int} : CallUp (callG hl sd i0 i1) := by
  intro f args s v s' h
  unfold callG at h
  cases h0 : Nat.beq f 40
  · rw [h0] at h
    simp only [cond_false] at h
    cases h1 : Nat.beq f 39
    · rw [h1] at h
      cases h
    · rw [h1] at h
      simp only [cond_true] at h
      unfold newE at h
      split at h
      · split at h
        · split at h
          · generalize hz : (Nat.beq _ _ && _ && _ && _ && _) = z at h
            cases z
            · cases h
            · simp only [cond_true, Option.some.injEq, Prod.mk.injEq] at h
              rw [← h.2]
              exact ⟨Nat.le_refl _, by show s.ncap ≤ s.ncap + 2; omega⟩
          · cases h
        · cases h
      · cases h
  · rw [h0] at h
    simp only [cond_true] at h
    unfold rulesE at h
    split at h
    · generalize hz : (Nat.beq _ _ && _) = z at h
      cases z
      · cases h
      · simp only [cond_true, Option.some.injEq, Prod.mk.injEq] at h
        rw [← h.2]
        exact ⟨Nat.le_refl _, Nat.le_refl _⟩
    · cases h
theorem callG_next {i0 i1 : Nat} {sd : Int} {f : Nat} {args : List AV} {s s' : St} {v : AV} (h : callG hl sd i0 i1 f args s = some (v, s')) : s'.next = s.next := by
  unfold callG at h
  cases h0 : Nat.beq f 40
  · rw [h0] at h
    simp only [cond_false] at h
    cases h1 : Nat.beq f 39
    · rw [h1] at h
      cases h
    · rw [h1] at h
      simp only [cond_true] at h
      unfold newE at h
      split at h
      · split at h
        · split at h
          · generalize hz : (Nat.beq _ _ && _ && _ && _ && _) = z at h
            cases z
            · cases h
            · simp only [cond_true, Option.some.injEq, Prod.mk.injEq] at h
              rw [← h.2]
          · cases h
        · cases h
      · cases h
  · rw [h0] at h
    simp only [cond_true] at h
    unfold rulesE at h
    split at h
    · generalize hz : (Nat.beq _ _ && _) = z at h
      cases z
      · cases h
      · simp only [cond_true, Option.some.injEq, Prod.mk.injEq] at h
        rw [← h.2]
        rfl
    · cases h
theorem callG_fn {i0 i1 : Nat} {sd : Int} : CallFn (envG hl) (callG hl sd i0 i1) := by
  intro f args s r h
  unfold callG at h
  cases h0 : Nat.beq f 40
  · rw [h0] at h
    simp only [cond_false] at h
    cases h1 : Nat.beq f 39
    · rw [h1] at h
      cases h
    · rw [Nat.eq_of_beq_eq_true h1]
      exact ⟨Try.f39, by kernel_rfl⟩
  · rw [Nat.eq_of_beq_eq_true h0]
    exact ⟨Try.f40, by kernel_rfl⟩
/-- One of the two regions. -/
theorem two_reg (hL : LsOK hl q ga row) {sd : Int} (hsd : sd = 0 ∨ sd = 1) {T : Two} (hT : T = twoA ∨ T = twoB) {d1 N : Nat} {ops : Array Oper} {t t' : Sl} {s s' : St} (h : drawT2 (envG hl) (callG hl sd 0 1) T d1 ops t s = some (t', s')) (id : Nat) {ρ : Rho} {a : Act} {w : World} (ht : TR (VG q ga row) ρ t a) (hr : Rep (VG q ga row) ρ s w) (hc : Clean ρ s) (hN : N ≤ w.heap.size) {Q : Exit → Act → World → Prop}
    (hQ : ∀ ρ' a' w', Goes (VG q ga row) ρ s w s' w' ρ' → TR (VG q ga row) ρ' t' a' → K1 N (a'.tmps.getD d1 undef) ρ' w' → Q .normal a' w') : (Code.region id ops true).wp Try.prog Q a w := by
  have hX := envX_ok (vL_one V1_one 0 0) (nextW_ok (V0 := V1) (b := 0) (p := 0) (i0 := 0) (i1 := 1) hL)
  have key : T.k0 ≠ T.k1 ∧ T.f0 = 40 ∧ T.f1 = 39 ∧ T.n = 3 := by
    rcases hT with rfl | rfl
    · exact ⟨by decide, rfl, rfl, rfl⟩
    · exact ⟨by decide, rfl, rfl, rfl⟩
  obtain ⟨k0, k1, k2, k3⟩ := key
  refine drawT2_ok (N := N) (K0 := K0 hl sd q ga row N) (K1 := K1 N) hX.1 callG_fn callG_up k0 k0_below k0_blk k1_step k1_blk (fun h => callG_next h) (fun h => callG_next h) ?_ ?_ h id ht hr (hc.free _) hN hQ
  · intro args s s1 v h
    rw [k1] at h ⊢
    exact rulesE_ok hsd hL h
  · intro args s s1 v h
    rw [k2] at h ⊢
    rw [k3]
    exact newE_ok hsd h
/-- Gateways. -/
theorem gws_any (hL : LsOK hl q ga row) {w : World} {g p : Nat} (hC : Cod w g q p) (hB : RowIn hl ga row w) (hne : hl = true → ga ≠ g) :
    Calls Try.prog 10 #[.pointer (some ⟨g, 0, none⟩)] w (GwsPost hl q ga row g w) := by
  obtain ⟨ρ, h1, h2, h3, h4⟩ := rep_start hL hC hB hne
  have hrun : gwsRun hl = true := by
    cases hl
    · exact gwsRunF
    · exact gwsRunT
  have hX := envX_ok (vL_one V1_one 0 0) (nextW_ok (V0 := V1) (b := 0) (p := 0) (i0 := 0) (i1 := 1) hL)
  have hone := vL_one (q := q) (ga := ga) (row := row) V1_one 0 0
  have hv : F2 (VR (VG q ga row) ρ) (argC []) (#[.pointer (some ⟨g, 0, none⟩)] : Array Value).toList := ⟨⟨g, h3, rfl⟩, trivial⟩
  unfold gwsRun at hrun
  split at hrun
  · rename_i t0 s0 r0
    split at hrun
    · rename_i ts hts
      have ht := pad_tr (n := Try.f10.ntmps) hv (by
        rw [Try.ntmps10]
        show 1 ≤ _
        omega)
      refine calls_of_wp Try.func10 gC_is (wp_of_lin ?_)
      rw [g_lin]
      refine codeAL_goes hX.1 hX.2 _ r0 ht h1 h2 (fun ρ0 a0 w0 g0 ht0 => ?_)
      have c0 := h2.goes g0
      obtain ⟨t1, hm, ht1⟩ := split_ok hts ht0
      have hr1 := List.all_eq_true.1 hrun t1 hm
      split at hr1
      · rename_i t2 s2 d1
        simp only [Bool.and_eq_true] at hr1
        obtain ⟨n1, hr1⟩ := hr1
        split at hr1
        · rename_i t3 s3 d2
          simp only [Bool.and_eq_true] at hr1
          obtain ⟨n2, hr1⟩ := hr1
          split at hr1
          · rename_i t4 s4 r4
            simp only [Bool.and_eq_true] at hr1
            obtain ⟨hres, hcod, hdirty⟩ := hr1
            split at hres
            · rename_i l1 l2 hlr
              simp only [Bool.and_eq_true] at hres
              show (Code.region 3 gOps3 true).wp Try.prog _ a0 w0
              refine two_reg (N := w.heap.size) hL (.inl rfl) (.inl rfl) d1 3 ht1 g0.1 c0 g0.2.1.size (fun ρ2 a2 w2 g2 ht2 k2 => ?_)
              have c2 := c0.goes g2
              show (Code.region 4 gOps4 true).wp Try.prog _ a2 w2
              refine two_reg (N := w.heap.size) hL (.inr rfl) (.inr rfl) d2 4 ht2 g2.1 c2 (Nat.le_trans g0.2.1.size g2.2.1.size) (fun ρ3 a3 w3 g3 ht3 k3 => ?_)
              have c3 := c2.goes g3
              refine codeAX_goes hX.1 hX.2 gEnd r4 ht3 g3.1 c3 (fun ρ4 a4 w4 g4 ht4 => ?_)
              have ex : Ext ρ (sC hl) w ρ4 s4 w4 := ((g0.2.1.trans g2.2.1).trans g3.2.1).trans g4.2.1
              obtain ⟨vs, v1, v2⟩ := results_ok hX.1 ht4 g4.1 _ _ hlr
              have hr2' : (results Try.f10 a4.tmps).run Try.prog w4 = .ok (if h : vs.toArray.size = 1 then vs.toArray[0] else .tuple vs.toArray) w4 := by
                unfold results
                rw [Array.mapM_eq_mapM_toList]
                simp only [Sem.run_bind, Sem.run_map, Sem.run_pure]
                generalize hX' : Sem.run Try.prog (List.mapM _ (Try.f10).results.toList) w4 = Y
                have hY : Y = .ok vs w4 := hX'.symm.trans v1
                rw [hY]
                simp only [Result.andThen_ok]
              obtain ⟨cs1, cs2, hvs, hcs1, hcs2⟩ : ∃ cs1 cs2 : Array Value, vs = [.agg cs1, .agg cs2] ∧ F2 (CR (VG q ga row) ρ4) l1 cs1.toList ∧ F2 (CR (VG q ga row) ρ4) l2 cs2.toList := by
                match vs, v2 with
                | [u, v], v2 =>
                  obtain ⟨⟨cs1, rfl, x1⟩, ⟨cs2, rfl, x2⟩, _⟩ := v2
                  exact ⟨cs1, cs2, rfl, x1, x2⟩
              subst hvs
              have slot : ∀ {d : Nat} {id : Int} {c : Nat} {t : Sl} {ρ' : Rho} {a' : Act} {w' : World}, newSlot d id c t = true → (c = 0 ∨ c = 2) → TR (VG q ga row) ρ' t a' → K1 w.heap.size (a'.tmps.getD d undef) ρ' w' → ∃ (DK : Nat → Prop) (wK : World) (m4 m5 : Nat), ρ'.cap c = some m4 ∧ ρ'.cap (c + 1) = some m5 ∧ KP DK wK ρ' w' ∧ wK.heap.size ≤ w'.heap.size ∧ Deep DK wK m4 m5 ∧ ∀ b, DK b → w.heap.size ≤ b := by
                intro d id c t ρ' a' w' hn hc ht' hk
                obtain ⟨DK, wK, cs, m4, m5, hu, q4, q5, hkp, hsz, hdp, hlo⟩ := hk
                have hvd := ht'.v d
                unfold newSlot at hn
                split at hn
                · rename_i l _ hls
                  rw [hls, hu] at hvd
                  obtain ⟨vs', e1, x1⟩ := hvd
                  injection e1 with e1
                  subst e1
                  obtain ⟨⟨cs', e2, x2⟩, _⟩ := x1
                  injection e2 with e2
                  subst e2
                  obtain ⟨n4, n5, p4, p5, y4, y5, _⟩ := cv_at hone hn x2 hc
                  rw [Array.getElem?_toList, q4] at y4
                  rw [Array.getElem?_toList, q5] at y5
                  injection y4 with y4
                  injection y5 with y5
                  refine ⟨DK, wK, n4, n5, p4, p5, hkp, hsz, ?_, hlo⟩
                  unfold Deep at hdp ⊢
                  rw [← y4, ← y5]
                  exact hdp
                · cases hn
              have fin : ∀ {id : Int} {c : Nat} {l : List AC} {cs : Array Value} {ρ' : Rho} {sx : St} {w' : World}, subL [] idc4 l (gwIc id c) = true → (c = 0 ∨ c = 2) → F2 (CR (VG q ga row) ρ4) l cs.toList → (∃ (DK : Nat → Prop) (wK : World) (m4 m5 : Nat), ρ'.cap c = some m4 ∧ ρ'.cap (c + 1) = some m5 ∧ KP DK wK ρ' w' ∧ wK.heap.size ≤ w'.heap.size ∧ Deep DK wK m4 m5 ∧ ∀ b, DK b → w.heap.size ≤ b) → Ext ρ' sx w' ρ4 s4 w4 → Le ρ' ρ4 → GwF id cs.toList w w4 := by
                intro id c l cs ρ' sx w' hs hc hcs hk hex hle
                obtain ⟨DK, wK, m4, m5, q4, q5, hkp, hsz, hdp, hlo⟩ := hk
                obtain ⟨n4, n5, p4, p5, y4, y5, hG⟩ := cv_at hone hs hcs hc
                have e4 := hle.2 _ _ q4
                have e5 := hle.2 _ _ q5
                rw [p4] at e4
                rw [p5] at e5
                injection e4 with e4
                injection e5 with e5
                subst e4
                subst e5
                have hkp' := hkp.ext hex
                exact ⟨hG, DK, wK, _, _, y4, y5, hdp, Nat.le_trans hsz hex.size, fun b hb => ⟨hlo b hb, hkp'.lt b hb, hkp'.eq b hb⟩⟩
              refine ⟨ht4.df, _, hr2', cs1, cs2, rfl, fin hres.1 (.inl rfl) hcs1 (slot n1 (.inl rfl) ht2 k2) (g3.2.1.trans g4.2.1) (g3.2.2.trans g4.2.2), fin hres.2 (.inr rfl) hcs2 (slot n2 (.inr rfl) ht3 k3) g4.2.1 g4.2.2, ?_, ?_, ?_⟩
              · obtain ⟨d0, d1'⟩ := codesIn_ok hcod
                obtain ⟨g', p', e', hC'⟩ := rep_some hL g4.1 d0 d1'
                rw [ex.blk 0 (.inl (by simp [sC])), h3] at e'
                injection e' with e'
                subst e'
                exact ⟨p', hC'⟩
              · exact ⟨ex.os, ex.tape, ex.out, ex.size, fun i hi hne' => ex.fr i hi (fun j hj hj2 e => by
                  have := List.all_eq_true.1 hdirty j hj
                  simp only [Bool.or_eq_true] at this
                  rcases this with this | this
                  · rw [Nat.eq_of_beq_eq_true this, h3] at e
                    exact hne' (by injection e with e; rw [e])
                  · have := Nat.le_of_ble_eq_true this
                    simp [sC] at hj2
                    omega)⟩
              · intro e
                have hgr : w.grownBy w4 (some g) := ⟨ex.os, ex.tape, ex.out, ex.size, fun i hi hne' => ex.fr i hi (fun j hj hj2 e => by
                  have := List.all_eq_true.1 hdirty j hj
                  simp only [Bool.or_eq_true] at this
                  rcases this with this | this
                  · rw [Nat.eq_of_beq_eq_true this, h3] at e
                    exact hne' (by injection e with e; rw [e])
                  · have := Nat.le_of_ble_eq_true this
                    simp [sC] at hj2
                    omega)⟩
                exact (hB e).grown hgr (fun e' => hne e (by injection e'))
            · cases hres
          · cases hr1
        · cases hr1
      · cases hr1
    · cases hrun
  · cases hrun
def gwsR : AV := .tup [.agg (gwI 0), .agg (gwI 1)]
/-- Gateways, what they keep left aside. -/
def gwE (hl : Bool) (i0 i1 : Nat) (f : Nat) (args : List AV) (s : St) : Option (AV × St) :=
  match args with
  | [.one (.c (.ptr (some (i, 0))))] => bif Nat.beq f 10 && (Nat.beq i i0 && codesIn hl i0 i1 s 900) then some (gwsR, codeOn s i0) else none
  | _ => none
theorem row_ne (hL : LsOK hl q ga row) {V0 : Nat → Value} {b p : Nat} {ρ : Rho} {s : St} {w : World} {i0 i1 g p' : Nat} (hr : Rep (vL V0 q ga row b p) ρ s w) (hc : codesIn hl i0 i1 s 900 = true) (hC : Cod w g q p') : RowIn hl ga row w ∧ (hl = true → ga ≠ g) := by
  obtain ⟨c0, c1⟩ := codesIn_ok hc
  have hrow : RowIn hl ga row w := fun e => (rep_list hr (c1 e)).2
  refine ⟨hrow, fun e he => ?_⟩
  have h1 := hrow e
  have h2 : MBlk w g 84 #[.slice q.A q.n q.cap, .int .i64 (p' : Nat)] := hC.2.2.1
  subst he
  unfold MBlk Go.Proofs.Ytddiclnkfhldlaa.Blk at h1 h2
  rw [h1] at h2
  injection h2 with h2
  injection h2 with _ h2
  exact absurd h2 (by decide)
theorem gwE_ok {V0 : Nat → Value} {b p i0 i1 : Nat} (hL : LsOK hl q ga row) (h1 : ∀ i, (V0 i).oneCell' = true) : CallOK Try.prog (vL V0 q ga row b p) (gwE hl i0 i1) := by
  intro f args s v s' h ρ w vals hargs hr hf
  unfold gwE at h
  split at h
  · rename_i i
    cases hk : (Nat.beq f 10 && (Nat.beq i i0 && codesIn hl i0 i1 s 900))
    · simp [hk] at h
    · simp only [hk, cond_true, Option.some.injEq, Prod.mk.injEq] at h
      obtain ⟨rfl, rfl⟩ := h
      simp only [Bool.and_eq_true] at hk
      obtain ⟨k0, k1, k2⟩ := hk
      have k0 := Nat.eq_of_beq_eq_true k0
      subst k0
      have k1 := Nat.eq_of_beq_eq_true k1
      subst k1
      obtain ⟨c0, c1⟩ := codesIn_ok k2
      obtain ⟨g, p', hb, hC⟩ := rep_some hL hr c0 c1
      obtain ⟨hrow, hne⟩ := row_ne hL hr k2 hC
      have hvals : vals = #[.pointer (some ⟨g, 0, none⟩)] := by
        apply Array.ext'
        match hl : vals.toList, hargs with
        | [x], hv =>
          obtain ⟨b', e0, e1⟩ := hv.1
          rw [hb] at e0
          injection e0 with e0
          subst e0
          rw [e1]
      subst hvals
      refine (gws_any hL hC hrow hne).mono ?_
      rintro e w' ⟨cs1, cs2, rfl, hG1, hG2, ⟨p2, hC'⟩, hg, _⟩
      exact ⟨_, ρ, rfl, go_codes hr c0 hb hg hC'.2.2.1 (pb_some hC'.1), #[.agg cs1, .agg cs2], rfl, ⟨cs1, rfl, hG1.1 _ _⟩, ⟨cs2, rfl, hG2.1 _ _⟩, trivial⟩
  · cases h
end
end Ab
end Go.Proofs.Ytddiclnkfhldlaa
