/-
  The contract of half: a half-open association whose terms lie in fresh memory.
  Conditions: none.
-/
import Derived.Test.YtddiclnkfhldlaaFr
import Derived.Test.YtddiclnkfhldlaaLaw3
namespace Go.Proofs.Ytddiclnkfhldlaa
namespace Ab
open Go.RowKit
set_option linter.unusedVariables false
set_option linter.unusedSimpArgs false
set_option maxRecDepth 100000
def syms3 (lo : Nat) : AV := .one (.agg [.sym lo, .sym (lo + 1), .sym (lo + 2)])
/-- A term, from cell i of a row on. -/
def TD (S : Nat → Prop) (w : World) (cs : List Value) (i : Nat) : Prop :=
  ∃ (t : Tm) (A : Option Addr) (c : Nat), cs[i]? = some (.int .i64 t.op) ∧ cs[i + 1]? = some (.int .i64 t.val) ∧ cs[i + 2]? = some (.slice A t.args.length c) ∧ TrS S w t A c
theorem TD.keep {S S' : Nat → Prop} {w w' : World} {cs : List Value} {i : Nat} (h : TD S w cs i) (hs : ∀ b, S b → S' b) (hb : ∀ b, S b → b < w.heap.size → w'.heap[b]? = w.heap[b]?) : TD S' w' cs i := by
  obtain ⟨t, A, c, h1, h2, h3, h4⟩ := h
  exact ⟨t, A, c, h1, h2, h3, (h4.keep hb).mono hs⟩
section
variable {V0 : Nat → Value} {q : Ls} {ga : Nat} {row : Array Value} {hl : Bool} {DK : Nat → Prop} {wK : World}
theorem vL_out {lo : Nat} (hlo : lo + 3 ≤ 900) {c0 c1 c2 : Value} : ∀ i, (i < lo ∨ lo + 3 ≤ i) → vL V0 q ga row 0 0 i = vL (withVs V0 lo [c0, c1, c2]) q ga row 0 0 i := by
  intro i hi
  unfold vL
  split
  · rfl
  · split
    · rfl
    · split
      · rfl
      · exact withVs_out i hi
theorem vL_in {lo j : Nat} {cs : List Value} {v : Value} (h : cs[j]? = some v) (hlo : lo + j < 900) : vL (withVs V0 lo cs) q ga row 0 0 (lo + j) = v := by
  rw [vL_low hlo]
  exact withVs_in h
/-- A call, by what it does. -/
theorem wp_callee2 {P : Program} {V : Nat → Value} {E : Env} (hE : EnvOK P V E) {ops : Array Oper} {i : Nat} {o : Oper} {f : Nat} {fn : Func} (hfn : E.fn f = some fn) {l : List Operand} (hi : ops[i]? = some o) (hc : calleeOf o = some (f, l)) {t : Sl} {ρ : Rho} {a : Act} (ht : TR V ρ t a) {w : World} {K : Act → World → Prop} {Q : Exit → Act → World → Prop}
    (hcall : ∀ vals : Array Value, F2 (VR V ρ) (evals t l) vals.toList → Calls P f vals w fun e w' => ∃ c, e = .returned c ∧ K (a.put o.dst c) w') : wpOp P ops Q i K a w := by
  unfold calleeOf at hc
  split at hc
  · rename_i c hg ho
    split at hc
    · rename_i f' hcal
      simp only [Option.some.injEq, Prod.mk.injEq] at hc
      obtain ⟨rfl, rfl⟩ := hc
      have hw : wantA ops t o = some true := by
        unfold wantA
        rw [hg]
      unfold wpOp
      rw [hi]
      simp only
      rw [want_ok ht hw, if_pos rfl]
      refine .inl ?_
      obtain ⟨_, hcf⟩ := hE.fn f' fn hfn
      have hrun : (execOp a.eval o).run P w = .ok (.enter f' (c.args.map a.eval)) w := by
        simp [execOp, ho, resolve, hcal, Act.eval, Deferred.ofValue, invoke, hcf]
      unfold Oper.wp
      rw [hrun, Oper.upon_enter]
      refine (hcall (c.args.map a.eval) (by rw [Array.toList_map]; exact evals_ok ht _)).mono ?_
      rintro e w' ⟨c', rfl, hk⟩
      exact hk
    · cases hc
  · cases hc
/-- Term, its cells from now on symbols. -/
theorem term_step (h1 : ∀ i, (V0 i).oneCell' = true) (hL : LsOK hl q ga row) {E : Env} (hE : EnvOK Try.prog (vL V0 q ga row 0 0) E) {fn : Func} (hfn : E.fn 20 = some fn) {ops : Array Oper} {k : Nat} {o : Oper} {l : List Operand} (hi : ops[k]? = some o) (hc : calleeOf o = some (20, l)) {d : Nat} (hd : o.dst = some d) {t : Sl} {s : St}
    (hargs : evals t l = [.one (.c (.ptr (some (0, 0)))), .one (.c (.int .i64 2))]) (k4 : codesIn hl 0 1 s 900 = true)
    {lo : Nat} (hlo : lo + 3 ≤ 900) (hft : rfreeT lo (lo + 3) t t.length = true) (hfh : rfreeH lo (lo + 3) (codeOn s 0).heap = true) {ρ : Rho} {a : Act} {w : World} (ht : TR (vL V0 q ga row 0 0) ρ t a) (hr : Rep (vL V0 q ga row 0 0) ρ s w) (hk : KP DK wK ρ w) {K : Act → World → Prop} {Q : Exit → Act → World → Prop}
    (hQ : ∀ (tm : Tm) (A : Option Addr) (c : Nat) (w' : World), TrS (fun b => w.heap.size ≤ b ∧ b < w'.heap.size) w' tm A c → Ext ρ s w ρ (codeOn s 0) w' → Rep (vL (withVs V0 lo [.int .i64 tm.op, .int .i64 tm.val, .slice A tm.args.length c]) q ga row 0 0) ρ (codeOn s 0) w' →
      TR (vL (withVs V0 lo [.int .i64 tm.op, .int .i64 tm.val, .slice A tm.args.length c]) q ga row 0 0) ρ (lset t d (syms3 lo)) (a.put o.dst (.agg #[.int .i64 tm.op, .int .i64 tm.val, .slice A tm.args.length c])) →
      KP (fun b => DK b ∨ (w.heap.size ≤ b ∧ b < w'.heap.size)) w' ρ w' → (∀ b, DK b → b < w.heap.size ∧ w'.heap[b]? = w.heap[b]?) → K (a.put o.dst (.agg #[.int .i64 tm.op, .int .i64 tm.val, .slice A tm.args.length c])) w') : wpOp Try.prog ops Q k K a w := by
  refine wp_callee2 hE hfn hi hc ht (fun vals hv => ?_)
  rw [hargs] at hv
  obtain ⟨c0, c1⟩ := codesIn_ok k4
  obtain ⟨g, p', hb, hC⟩ := rep_some hL hr c0 c1
  have hvals : vals = #[.pointer (some ⟨g, 0, none⟩), .int .i64 2] := by
    apply Array.ext'
    match hl : vals.toList, hv with
    | [x, y], hv =>
      obtain ⟨b', e0, e1⟩ := hv.1
      rw [hb] at e0
      injection e0 with e0
      subst e0
      have e2 : y = .int .i64 2 := hv.2.1
      rw [e1, e2]
  subst hvals
  refine (cterm_any 1 g q p' w 2 rfl (by omega) hC).mono ?_
  rintro e w' ⟨tm, A, c, p2, rfl, hT, _, _, hC', hg⟩
  have hgo := go_codes (V := vL V0 q ga row 0 0) hr c0 hb hg hC'.2.2.1 (pb_some hC'.1)
  have hk' := hk.ext hgo.2.1
  refine ⟨_, rfl, hQ tm A c w' hT.lt hgo.2.1 (rep_raV (vL_out hlo) hfh hgo.1) ?_ ⟨?_, fun b _ => rfl, ?_⟩ (fun b hb' => ⟨hk.lt b hb', (hk'.eq b hb').trans (hk.eq b hb').symm⟩)⟩
  · have ht' := tr_raV (vL_out (c0 := .int .i64 tm.op) (c1 := .int .i64 tm.val) (c2 := .slice A tm.args.length c) hlo) hft ht
    rw [hd]
    refine tr_put ht' (d := some d) (v := syms3 lo) ?_
    refine ⟨_, rfl, ?_, ?_, ?_, trivial⟩
    · exact (vL_in (j := 0) rfl (by omega)).symm
    · exact (vL_in (j := 1) rfl (by omega)).symm
    · exact (vL_in (j := 2) rfl (by omega)).symm
  · rintro b (hb' | hb')
    · exact hk'.lt b hb'
    · exact hb'.2
  · rintro b (hb' | hb') i e
    · exact hk'.no b hb' i e
    · have := hr.bnd i b e
      omega
end
noncomputable def hfC : Code := Try.f17.body.getD .skip
noncomputable def hfOps : Array Oper := opsOf ((lin hfC).drop 1)
theorem hfC_is : Try.f17.body = some hfC := by kernel_rfl
theorem hf_lin : lin hfC = (lin hfC).take 1 ++ [.region 1 hfOps false, .ret] := by kernel_rfl
noncomputable def envH (hl : Bool) : Env := env noTab noCvt (onlyE envZ (nextW hl 0 1))
def zT : List AC := [.int .i64 0, .int .i64 0, .slice none 0 (.lit 0)]
def halfC : List AC := [.ivl .i64 1 6, .rng 5, .ivl .i64 1 3, .sym 50, .sym 51, .sym 52, .sym 53, .sym 54, .sym 55] ++ zT ++ zT ++ zT ++ zT ++ zT ++ [.num .i64, .bool false]
def halfN : List AC := [.ivl .i64 1 6, .rng 5, .ivl .i64 1 3, .any, .any, .any, .any, .any, .any] ++ zT ++ zT ++ zT ++ zT ++ zT ++ [.num .i64, .bool false]
/-- Cells that say the same whatever the symbols and places. -/
def plain2 : AC → Bool
  | .ivl _ _ _ => true
  | .rng _ => true
  | x => plainC x
theorem plain2_c {V V' : Nat → Value} {ρ ρ' : Rho} {x : AC} {v : Value} (h : plain2 x = true) (hx : CR V ρ x v) : CR V' ρ' x v := by
  cases x with
  | ivl k lo hi => exact hx
  | rng m => exact hx
  | _ => exact plain_c h hx
theorem plain2_l {V V' : Nat → Value} {ρ ρ' : Rho} : ∀ {l : List AC} {m : List Value}, l.all plain2 = true → F2 (CR V ρ) l m → F2 (CR V' ρ') l m
  | [], [], _, _ => trivial
  | x :: r, y :: s, h, hx => by
    simp only [List.all_cons, Bool.and_eq_true] at h
    exact ⟨plain2_c h.1 hx.1, plain2_l h.2 hx.2⟩
  | [], _ :: _, _, h => h.elim
  | _ :: _, [], _, h => h.elim
/-- Is this a call of Term, as it is awaited? -/
def ckTm (hl : Bool) (lo d : Nat) (o : Oper) (t : Sl) (s : St) : Bool :=
  match calleeOf o, o.dst with
  | some (f, l), some e => Nat.beq f 20 && (Nat.beq e d && ((match evals t l with | [.one (.c (.ptr (some (0, 0)))), .one (.c (.int .i64 2))] => true | _ => false) && (codesIn hl 0 1 s 900 && (rfreeT lo (lo + 3) t t.length && rfreeH lo (lo + 3) (codeOn s 0).heap))))
  | _, _ => false
noncomputable def hfRun (hl : Bool) : Bool :=
  match codeAL (envH hl) ((lin hfC).take 1) (pad Try.f17.ntmps (argC [.one (.c (.num .i64))])) (sC hl) with
  | some (t0, s0) => (match opsA (envH hl) (fnA (envH hl) 30) hfOps (hfOps.toList.take 9) t0 s0 with
    | some (t1, s1) => (match hfOps[9]?, hfOps[11]? with
      | some o9, some o11 => ckTm hl 50 14 o9 t1 s1 && (match opsA (envH hl) (fnA (envH hl) 30) hfOps ((hfOps.toList.drop 10).take 1) (lset t1 14 (syms3 50)) (codeOn s1 0) with
        | some (t2, s2) => ckTm hl 53 16 o11 t2 s2 && (match opsA (envH hl) (fnA (envH hl) 30) hfOps (hfOps.toList.drop 12) (lset t2 16 (syms3 53)) (codeOn s2 0) with
          | some (t3, s3) => (match resultsA (envH hl) t3 s3 Try.f17.results.toList with | some [.agg l] => subL [] [] l halfC | _ => false) && (codesIn hl 0 1 s3 900 && s3.dirty.all (fun j => Nat.beq j 0 || Nat.ble 2 j))
          | none => false)
        | none => false)
      | _, _ => false)
    | none => false)
  | none => false
theorem hfRunT : hfRun true = true := by kernel_rfl
theorem hfRunF : hfRun false = true := by kernel_rfl
theorem sub_at {ops : Array Oper} {k n : Nat} : ∀ i o, ((ops.toList.drop k).take n)[i]? = some o → ops[k + i]? = some o := by
  intro i o h
  rw [List.getElem?_take] at h
  split at h
  · rw [List.getElem?_drop, Array.getElem?_toList] at h
    exact h
  · cases h
theorem sub_at' {ops : Array Oper} {k : Nat} : ∀ i o, (ops.toList.drop k)[i]? = some o → ops[k + i]? = some o := by
  intro i o h
  rw [List.getElem?_drop, Array.getElem?_toList] at h
  exact h
theorem Clean.ext {ρ ρ' : Rho} {s s' : St} {w w' : World} (h : Clean ρ s) (g : Ext ρ s w ρ' s' w') : Clean ρ' s' :=
  ⟨fun i hi => by rw [g.blk i (.inr hi)]; exact h.b i (Nat.le_trans g.n hi), fun i hi => by rw [g.cap i (.inr hi)]; exact h.c i (Nat.le_trans g.c hi)⟩
theorem hf_size : hfOps.size = 18 ∧ (hfOps.toList.take 9).length = 9 ∧ ((hfOps.toList.drop 10).take 1).length = 1 ∧ (hfOps.toList.drop 12).length = 6 := by
  refine ⟨?_, ?_, ?_, ?_⟩ <;> kernel_rfl
theorem ckTm_ok {hl : Bool} {lo d : Nat} {o : Oper} {t : Sl} {s : St} (h : ckTm hl lo d o t s = true) : ∃ l, calleeOf o = some (20, l) ∧ o.dst = some d ∧ evals t l = [.one (.c (.ptr (some (0, 0)))), .one (.c (.int .i64 2))] ∧ codesIn hl 0 1 s 900 = true ∧ rfreeT lo (lo + 3) t t.length = true ∧ rfreeH lo (lo + 3) (codeOn s 0).heap = true := by
  unfold ckTm at h
  split at h
  · rename_i f l e h1 h2
    simp only [Bool.and_eq_true] at h
    obtain ⟨k1, k2, k3, k4, k5, k6⟩ := h
    have k1 := Nat.eq_of_beq_eq_true k1
    subst k1
    have k2 := Nat.eq_of_beq_eq_true k2
    subst k2
    refine ⟨l, h1, h2, ?_, k4, k5, k6⟩
    split at k3
    · rename_i he
      exact he
    · cases k3
  · cases h
section
variable {q : Ls} {ga : Nat} {row : Array Value} {hl : Bool}
abbrev HalfPost (hl : Bool) (q : Ls) (ga : Nat) (row : Array Value) (g : Nat) (w : World) (e : Ending) (w' : World) : Prop :=
  ∃ cs, e = .returned (.agg cs) ∧ (∀ V ρ, F2 (CR V ρ) halfN cs.toList) ∧ TD (fun b => w.heap.size ≤ b ∧ b < w'.heap.size) w' cs.toList 3 ∧ TD (fun b => w.heap.size ≤ b ∧ b < w'.heap.size) w' cs.toList 6 ∧ (∃ p', Cod w' g q p') ∧ w.grownBy w' (some g) ∧ RowIn hl ga row w'
theorem half_any (hL : LsOK hl q ga row) {w : World} {g p : Nat} (hC : Cod w g q p) (hB : RowIn hl ga row w) (hne : hl = true → ga ≠ g) (now : Int) :
    Calls Try.prog 17 #[.pointer (some ⟨g, 0, none⟩), .int .i64 now] w (HalfPost hl q ga row g w) := by
  obtain ⟨ρ, h1, h2, h3, h4⟩ := rep_start hL hC hB hne
  have hrun : hfRun hl = true := by
    cases hl
    · exact hfRunF
    · exact hfRunT
  obtain ⟨z1, z2, z3, z4⟩ := hf_size
  have hEnv : ∀ V0 : Nat → Value, (∀ i, (V0 i).oneCell' = true) → EnvOK Try.prog (vL V0 q ga row 0 0) (envH hl) ∧ ExtOK Try.prog (vL V0 q ga row 0 0) (envH hl) := fun V0 h => envX_ok (vL_one h 0 0) (nextW_ok (V0 := V0) (b := 0) (p := 0) (i0 := 0) (i1 := 1) hL)
  have hv : F2 (VR (VG q ga row) ρ) (argC [.one (.c (.num .i64))]) #[.pointer (some ⟨g, 0, none⟩), .int .i64 now].toList := ⟨⟨g, h3, rfl⟩, ⟨now, rfl⟩, trivial⟩
  have hTm : (envH hl).fn 20 = some Try.f20 := by kernel_rfl
  unfold hfRun at hrun
  split at hrun
  · rename_i t0 s0 r0
    split at hrun
    · rename_i t1 s1 r1
      split at hrun
      · rename_i o9 o11 ho9 ho11
        simp only [Bool.and_eq_true] at hrun
        obtain ⟨ck9, hrun⟩ := hrun
        split at hrun
        · rename_i t2 s2 r2
          simp only [Bool.and_eq_true] at hrun
          obtain ⟨ck11, hrun⟩ := hrun
          split at hrun
          · rename_i t3 s3 r3
            simp only [Bool.and_eq_true] at hrun
            obtain ⟨hres, hcod, hdirty⟩ := hrun
            split at hres
            · rename_i lr hlr
              have hvl : (#[.pointer (some ⟨g, 0, none⟩), .int .i64 now] : Array Value).size = (argC [.one (.c (.num .i64))]).length := rfl
              have hle : (argC [.one (.c (.num .i64))]).length ≤ Try.f17.ntmps := by
                rw [Try.ntmps17]
                show 2 ≤ _
                omega
              have ht := pad_tr hv hle
              refine calls_of_wp Try.func17 hfC_is (wp_of_lin ?_)
              rw [hf_lin]
              obtain ⟨e1, e2⟩ := hEnv V1 V1_one
              refine codeAL_goes e1 e2 _ r0 ht h1 h2 (fun ρ0 a0 w0 g0 ht0 => ?_)
              have c0 := h2.goes g0
              show (Code.region 1 hfOps false).wp Try.prog _ a0 w0
              have main : ∀ QQ : Exit → Act → World → Prop, (∀ a5 w5, bodyPost Try.prog Try.f17 (HalfPost hl q ga row g w) .ret a5 w5 → QQ .normal a5 w5) → (Code.region 1 hfOps false).wp Try.prog QQ a0 w0 := ?_
              · exact main _ (fun a5 w5 h5 => wp_ret h5)
              intro QQ hQQ
              refine wp_region ?_
              rw [z1, List.range_eq_range']
              have hcc := (fnA_ok e1 e2 30).k (DK := fun _ => False) (wK := w0)
              have hff := fnA_fn (E := envH hl) e2.fn 30
              have huu := fnA_up (E := envH hl) e2.up 30
              have tk := ops_takeK e1 hcc hff huu (ops := hfOps) (hfOps.toList.take 9) 0 9 (fun i o h => by have := sub_at (ops := hfOps) (k := 0) (n := 9) i o (by simpa using h); exact this) r1 ht0 g0.1 (c0.free _) ⟨fun b h => h.elim, fun b h => h.elim, fun b h => h.elim⟩ (Q := QQ)
              rw [z2] at tk
              refine tk (fun ρ1 a1 w1 g1 ht1 hk1 => ?_)
              have c1 := c0.goes g1
              rw [show (0 + 9 : Nat) = 9 from rfl, show (9 : Nat) = 8 + 1 from rfl, List.range'_succ, wpOps_cons]
              obtain ⟨l9, q1, q2, q3, q4, q5, q6⟩ := ckTm_ok ck9
              refine term_step V1_one hL e1 hTm ho9 q1 q2 q3 q4 (by omega) q5 q6 ht1 g1.1 hk1 (fun tm A c w2 hT ex2 hr2 ht2 hk2 _ => ?_)
              have c2 := c1.ext ex2
              have hW1 : ∀ i, (withVs V1 50 [.int .i64 tm.op, .int .i64 tm.val, .slice A tm.args.length c] i).oneCell' = true := withVs_one V1_one (fun v hv => by
                simp only [List.mem_cons, List.not_mem_nil, or_false] at hv
                rcases hv with rfl | rfl | rfl <;> rfl)
              obtain ⟨e3, e4⟩ := hEnv _ hW1
              have hcc3 := (fnA_ok e3 e4 30).k (DK := fun b => False ∨ (w1.heap.size ≤ b ∧ b < w2.heap.size)) (wK := w2)
              have tk2 := ops_takeK e3 hcc3 (fnA_fn (E := envH hl) e4.fn 30) (fnA_up (E := envH hl) e4.up 30) (ops := hfOps) ((hfOps.toList.drop 10).take 1) 10 7 sub_at r2 ht2 hr2 (c2.free _) hk2 (Q := QQ)
              rw [z3] at tk2
              refine tk2 (fun ρ3 a3 w3 g3 ht3 hk3 => ?_)
              have c3 := c2.goes g3
              rw [show (10 + 1 : Nat) = 11 from rfl, show (7 : Nat) = 6 + 1 from rfl, List.range'_succ, wpOps_cons]
              obtain ⟨l11, p1, p2, p3, p4, p5, p6⟩ := ckTm_ok ck11
              refine term_step hW1 hL e3 hTm ho11 p1 p2 p3 p4 (by omega) p5 p6 ht3 g3.1 hk3 (fun um B d w4 hU ex4 hr4 ht4 hk4 hold4 => ?_)
              have c4 := c3.ext ex4
              have hW2 : ∀ i, (withVs (withVs V1 50 [.int .i64 tm.op, .int .i64 tm.val, .slice A tm.args.length c]) 53 [.int .i64 um.op, .int .i64 um.val, .slice B um.args.length d] i).oneCell' = true := withVs_one hW1 (fun v hv => by
                simp only [List.mem_cons, List.not_mem_nil, or_false] at hv
                rcases hv with rfl | rfl | rfl <;> rfl)
              obtain ⟨e5, e6⟩ := hEnv _ hW2
              have hcc5 := (fnA_ok e5 e6 30).k (DK := fun b => (False ∨ (w1.heap.size ≤ b ∧ b < w2.heap.size)) ∨ (w3.heap.size ≤ b ∧ b < w4.heap.size)) (wK := w4)
              have tk4 := ops_takeK e5 hcc5 (fnA_fn (E := envH hl) e6.fn 30) (fnA_up (E := envH hl) e6.up 30) (ops := hfOps) (hfOps.toList.drop 12) 12 0 sub_at' r3 ht4 hr4 (c4.free _) hk4 (Q := QQ)
              rw [z4] at tk4
              refine tk4 (fun ρ5 a5 w5 g5 ht5 hk5 => ?_)
              have c5 := c4.goes g5
              -- the whole way
              have ex : Ext ρ (sC hl) w ρ5 s3 w5 := ((((g0.2.1.trans g1.2.1).trans ex2).trans g3.2.1).trans ex4).trans g5.2.1
              refine hQQ a5 w5 ?_
              obtain ⟨vs, v1, v2⟩ := results_ok e5 ht5 g5.1 _ _ hlr
              have hr2' : (results Try.f17 a5.tmps).run Try.prog w5 = .ok (if h : vs.toArray.size = 1 then vs.toArray[0] else .tuple vs.toArray) w5 := by
                unfold results
                rw [Array.mapM_eq_mapM_toList]
                simp only [Sem.run_bind, Sem.run_map, Sem.run_pure]
                generalize hX : Sem.run Try.prog (List.mapM _ (Try.f17).results.toList) w5 = Y
                have hY : Y = .ok vs w5 := hX.symm.trans v1
                rw [hY]
                simp only [Result.andThen_ok]
              obtain ⟨cs, hvs, hcs⟩ : ∃ cs : Array Value, vs = [.agg cs] ∧ F2 (CR (vL (withVs (withVs V1 50 [.int .i64 tm.op, .int .i64 tm.val, .slice A tm.args.length c]) 53 [.int .i64 um.op, .int .i64 um.val, .slice B um.args.length d]) q ga row 0 0) ρ5) lr cs.toList := by
                match vs, v2 with
                | [v], v2 =>
                  obtain ⟨⟨cs, rfl, hcs⟩, _⟩ := v2
                  exact ⟨cs, rfl, hcs⟩
              subst hvs
              have hcs2 := subL_ok (vL_one hW2 0 0) hres hcs
              have hold : ∀ b, (w1.heap.size ≤ b ∧ b < w2.heap.size) → w5.heap[b]? = w2.heap[b]? := fun b hb => (hk5.eq b (.inl (.inr hb))).trans ((hold4 b (.inr hb)).2.trans (hk3.eq b (.inr hb)))
              have sz01 : w.heap.size ≤ w1.heap.size := Nat.le_trans g0.2.1.size g1.2.1.size
              have sz13 : w1.heap.size ≤ w3.heap.size := Nat.le_trans ex2.size g3.2.1.size
              have sz25 : w2.heap.size ≤ w5.heap.size := Nat.le_trans g3.2.1.size (Nat.le_trans ex4.size g5.2.1.size)
              have at_ : ∀ i x, halfC[i]? = some x → ∃ y, cs.toList[i]? = some y ∧ CR (vL (withVs (withVs V1 50 [.int .i64 tm.op, .int .i64 tm.val, .slice A tm.args.length c]) 53 [.int .i64 um.op, .int .i64 um.val, .slice B um.args.length d]) q ga row 0 0) (ρ5.ren [] []) x y := fun i x hx => f2_get hcs2 i hx
              have s50 : ∀ (j : Nat) (v : Value), [Value.int .i64 tm.op, .int .i64 tm.val, .slice A tm.args.length c][j]? = some v → j < 3 → vL (withVs (withVs V1 50 [.int .i64 tm.op, .int .i64 tm.val, .slice A tm.args.length c]) 53 [.int .i64 um.op, .int .i64 um.val, .slice B um.args.length d]) q ga row 0 0 (50 + j) = v := fun j v hj hj3 => by
                rw [vL_low (by omega), ← withVs_out (50 + j) (.inl (by omega))]
                exact withVs_in hj
              have s53 : ∀ (j : Nat) (v : Value), [Value.int .i64 um.op, .int .i64 um.val, .slice B um.args.length d][j]? = some v → j < 3 → vL (withVs (withVs V1 50 [.int .i64 tm.op, .int .i64 tm.val, .slice A tm.args.length c]) 53 [.int .i64 um.op, .int .i64 um.val, .slice B um.args.length d]) q ga row 0 0 (53 + j) = v := fun j v hj hj3 => vL_in hj (by omega)
              have cell : ∀ (i k : Nat) (v : Value), halfC[i]? = some (.sym k) → vL (withVs (withVs V1 50 [.int .i64 tm.op, .int .i64 tm.val, .slice A tm.args.length c]) 53 [.int .i64 um.op, .int .i64 um.val, .slice B um.args.length d]) q ga row 0 0 k = v → cs.toList[i]? = some v := fun i k v hi hv => by
                obtain ⟨y, y1, y2⟩ := at_ i _ hi
                have y2 : y = vL _ q ga row 0 0 k := y2
                rw [y1, y2, hv]
              refine ⟨ht5.df, _, hr2', cs, rfl, fun V' ρ' => plain2_l (V := vL (withVs (withVs V1 50 [.int .i64 tm.op, .int .i64 tm.val, .slice A tm.args.length c]) 53 [.int .i64 um.op, .int .i64 um.val, .slice B um.args.length d]) q ga row 0 0) (by decide) (subL_ok (f := []) (fc := []) (vL_one hW2 0 0) (x := halfC) (y := halfN) (by decide) hcs2), ?_, ?_, ?_, ?_, ?_⟩
              · exact ⟨tm, A, c, cell 3 50 _ rfl (s50 0 _ rfl (by omega)), cell 4 51 _ rfl (s50 1 _ rfl (by omega)), cell 5 52 _ rfl (s50 2 _ rfl (by omega)), (hT.keep (fun b hb _ => hold b hb)).mono (fun b hb => ⟨by omega, by omega⟩)⟩
              · have sz45 := g5.2.1.size
                exact ⟨um, B, d, cell 6 53 _ rfl (s53 0 _ rfl (by omega)), cell 7 54 _ rfl (s53 1 _ rfl (by omega)), cell 8 55 _ rfl (s53 2 _ rfl (by omega)), (hU.keep (fun b hb _ => hk5.eq b (.inr hb))).mono (fun b hb => ⟨by omega, by omega⟩)⟩
              · obtain ⟨d0, d1⟩ := codesIn_ok hcod
                obtain ⟨g', p', e', hC'⟩ := rep_some hL g5.1 d0 d1
                rw [ex.blk 0 (.inl (by simp [sC])), h3] at e'
                injection e' with e'
                subst e'
                exact ⟨p', hC'⟩
              · exact ⟨ex.os, ex.tape, ex.out, ex.size, fun i hi hne' => ex.fr i hi (fun j hj hj2 e => by
                  have := List.all_eq_true.1 hdirty j hj
                  simp only [Bool.or_eq_true] at this
                  rcases this with this | this
                  · rw [Nat.eq_of_beq_eq_true this, h3] at e
                    exact hne' (by injection e with e; rw [e])
                  · have := Nat.le_of_ble_eq_true this
                    simp [sC] at hj2
                    omega)⟩
              · intro e
                have hgr : w.grownBy w5 (some g) := ⟨ex.os, ex.tape, ex.out, ex.size, fun i hi hne' => ex.fr i hi (fun j hj hj2 e => by
                  have := List.all_eq_true.1 hdirty j hj
                  simp only [Bool.or_eq_true] at this
                  rcases this with this | this
                  · rw [Nat.eq_of_beq_eq_true this, h3] at e
                    exact hne' (by injection e with e; rw [e])
                  · have := Nat.le_of_ble_eq_true this
                    simp [sC] at hj2
                    omega)⟩
                exact (hB e).grown hgr (fun e' => hne e (by injection e'))
            · cases hres
          · cases hrun
        · cases hrun
      · cases hrun
    · cases hrun
  · cases hrun
end
end Ab
end Go.Proofs.Ytddiclnkfhldlaa
