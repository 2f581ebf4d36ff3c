/-
  A law that draws its input, as a whole: what comes before New, New, what comes behind it.
  Conditions: none.
-/
import Derived.Test.YtddiclnkfhldlaaChW
namespace Go.Proofs.Ytddiclnkfhldlaa
namespace Ab
open Go.RowKit
set_option linter.unusedVariables false
set_option linter.unusedSimpArgs false
/-- The region that calls New: a move, the call, an assignment; the slots behind it. -/
def newR (E : Env) (most : Nat) (ops : Array Oper) (t : Sl) (s : St) : Option Sl :=
  match ops.toList with
  | [o0, o1, o2] => match o0.guard, o1.guard, o2.guard with
    | none, none, none => match opA E (fnA E 30) t s o0 with
      | some (v0, s0) => match o1.op with
        | .call c => match c.callee with
          | .value x => match eval (put t o0.dst v0) x, evals (put t o0.dst v0) c.args.toList with
            | .one (.c (.fn g)), [.one (.c (.sym i)), .one (.c (.int .i64 m))] =>
              bif Nat.beq g 9 && Nat.beq i 0 && decide (m = (most : Int)) && s0.heap.isEmpty && Nat.beq s0.next s.next && Nat.beq s0.ncap s.ncap && lowT (put t o0.dst v0) (put t o0.dst v0).length then
                (match o2.op with
                | .assign y => some (put (put (put t o0.dst v0) o1.dst (.one (.c (.ptr (some (s.next, 0)))))) o2.dst (eval (put (put t o0.dst v0) o1.dst (.one (.c (.ptr (some (s.next, 0)))))) y))
                | _ => none)
              else none
            | _, _ => none
          | _ => none
        | _ => none
      | none => none
    | _, _, _ => none
  | _ => none
section
variable {V0 : Nat → Value} {E : Env}
theorem byts_same {w w' : World} {A : Option Addr} {n : Nat} (h : Byts w A n) (hb : RowKit.Below w.heap.size w w') : Byts w' A n := by
  intro k hk
  obtain ⟨ad, x, e, hx, hc⟩ := h k hk
  exact ⟨ad, x, e, hx, (World.cell?_of_block (a := ad.add k) (hb.block _ (World.block_lt_of_cell? w (ad.add k) hc))).trans hc⟩
theorem newR_ok (hE : EnvOK Try.prog V0 E) (hx : ExtOK Try.prog V0 E) {most : Nat} (hmost : most ≤ 250) {id : Nat} {ops : Array Oper} {t t' : Sl} {s : St} (h : newR E most ops t s = some t') (hnewf : E.fn 9 = some Try.f9)
    {w0 : World} {A : Option Addr} {len cap : Nat} (hV : V0 0 = .slice A len cap) (hB : Byts w0 A len) (hl1 : len ≤ cap) (hl2 : cap ≤ maxLen) {a : Act} {w : World} (hh : Here V0 w0.heap.size w0 t s a w) {Q : Exit → Act → World → Prop}
    (hQ : ∀ hl q ga row, LsOK hl q ga row → ∀ a' w', HereC V0 q ga row w0.heap.size w0 t' (newS hl { s with heap := [] }) a' w' → Q .normal a' w') : (Code.region id ops false).wp Try.prog Q a w := by
  unfold newR at h
  split at h
  · rename_i o0 o1 o2 hops
    split at h
    · rename_i g0 g1 g2
      split at h
      · rename_i v0 s0 hop0
        split at h
        · rename_i c ho1
          split at h
          · rename_i x hcal
            split at h
            · rename_i g i m hev hargs
              cases hk : (Nat.beq g 9 && Nat.beq i 0 && decide (m = (most : Int)) && s0.heap.isEmpty && Nat.beq s0.next s.next && Nat.beq s0.ncap s.ncap && lowT (put t o0.dst v0) (put t o0.dst v0).length)
              · simp [hk] at h
              · simp only [hk, cond_true] at h
                simp only [Bool.and_eq_true, decide_eq_true_eq] at hk
                obtain ⟨⟨⟨⟨⟨⟨k1, k2⟩, k3⟩, k4⟩, k5⟩, k6⟩, k7⟩ := hk
                have k1 := Nat.eq_of_beq_eq_true k1
                have k2 := Nat.eq_of_beq_eq_true k2
                have k5 := Nat.eq_of_beq_eq_true k5
                have k6 := Nat.eq_of_beq_eq_true k6
                have k4 : s0.heap = [] := List.isEmpty_iff.1 k4
                subst k1
                subst k2
                split at h
                · rename_i y ho2
                  injection h with h
                  subst h
                  have hcall := fnA_ok hE hx 30
                  have hfn := fnA_fn (E := E) hx.fn 30
                  refine wp_region ?_
                  have hz : ops.size = 3 := by rw [← Array.length_toList, hops]; rfl
                  have i0 : ops[0]? = some o0 := by rw [← Array.getElem?_toList, hops]; rfl
                  have i1 : ops[1]? = some o1 := by rw [← Array.getElem?_toList, hops]; rfl
                  have i2 : ops[2]? = some o2 := by rw [← Array.getElem?_toList, hops]; rfl
                  rw [hz, show List.range 3 = [0, 1, 2] from rfl, wpOps_cons]
                  obtain ⟨ρ, ht, hr, h1, h2, h3, h4, h5⟩ := hh
                  unfold wpOp
                  rw [i0]
                  simp only
                  have wanted : ∀ (o : Oper) (ops : Array Oper) (a : Act), o.guard = none → Region.wanted o (yielded ops a.tmps) = true := by
                    intro o ops a hg
                    unfold Region.wanted
                    rw [hg]
                  rw [wanted _ _ _ g0, if_pos rfl]
                  refine .inl (opA_ok hE hcall hfn hop0 ρ a w ht hr ⟨fun i hi _ => h1 i hi, fun i hi _ => h2 i hi⟩ _ _ ?_)
                  intro ρ1 c1 w1 gg1 gg2
                  have hput := tr_put (ht.mono V0 gg1.2.2) gg2 o0.dst
                  have hh1 := here_goes hr h1 h2 h3 h4 h5 gg1 hput
                  rw [wpOps_cons]
                  unfold wpOp
                  rw [i1]
                  simp only
                  rw [wanted _ _ _ g1, if_pos rfl]
                  refine .inl ?_
                  have hev2 := eval_ok hput x
                  rw [hev] at hev2
                  have hfv : (a.put o0.dst c1).eval x = .func (.func 9) #[] #[] := hev2
                  have he := evals_ok hput c.args.toList
                  rw [hargs] at he
                  have hvals : c.args.map (a.put o0.dst c1).eval = #[.slice A len cap, .int .i64 (most : Nat)] := by
                    apply Array.ext'
                    rw [Array.toList_map]
                    match hl : c.args.toList.map (a.put o0.dst c1).eval, he with
                    | [x, y], hv =>
                      have e1 : x = V0 0 := hv.1
                      have e2 : y = .int .i64 m := hv.2.1
                      rw [e1, e2, hV, k3]
                  obtain ⟨_, hcf⟩ := hE.fn _ _ hnewf
                  have hrun : (execOp (a.put o0.dst c1).eval o1).run Try.prog w1 = .ok (.enter 9 (c.args.map (a.put o0.dst c1).eval)) w1 := by
                    simp [execOp, ho1, resolve, hcal, hfv, Deferred.ofValue, invoke, hcf]
                  unfold Oper.wp
                  rw [hrun, Oper.upon_enter, hvals]
                  have hb1 : RowKit.Below w0.heap.size w0 w1 := by
                    obtain ⟨_, _, _, _, _, _, h, _⟩ := hh1
                    exact h
                  refine (new_any A len cap most w1 (byts_same hB hb1) hl1 hl2 (by omega) (by omega)).mono ?_
                  rintro e w' ⟨gc, q, rfl, hgc, hC, hqm, hA, hbel⟩
                  obtain ⟨hl, ga, row, hL, hhc⟩ := here_new hh1 k4 k7 hgc hC hA hbel
                  obtain ⟨b, p, hp, ρ2, ht2, hr2, rest⟩ := hhc o1.dst
                  rw [k5] at ht2
                  show wpOps Try.prog ops Q [2] ((a.put o0.dst c1).put o1.dst (.pointer (some ⟨gc, 0, none⟩))) w'
                  rw [wpOps_cons]
                  unfold wpOp
                  rw [i2]
                  simp only
                  rw [wanted _ _ _ g2, if_pos rfl]
                  refine .inl ?_
                  refine wp_val (c := ((a.put o0.dst c1).put o1.dst (.pointer (some ⟨gc, 0, none⟩))).eval y) (w' := w') ?_ ?_
                  · simp [execOp, ho2]
                  have hput2 := tr_put ht2 (eval_ok ht2 y) o2.dst
                  refine hQ hl q ga row hL _ _ ⟨b, p, hp, ρ2, hput2, ?_, ?_⟩
                  · have e : newS hl { s with heap := [] } = { newS hl s0 with dirty := s.dirty } := by
                      simp [newS, k4, k5, k6]
                    rw [e]
                    exact ⟨hr2.h, hr2.inj, hr2.bnd, hr2.lt⟩
                  · have e1 : (newS hl { s with heap := [] }).next = (newS hl s0).next := by simp [newS, k5]
                    have e2 : (newS hl { s with heap := [] }).ncap = (newS hl s0).ncap := by simp [newS, k6]
                    rw [e1, e2]
                    exact rest
                · cases h
            · cases h
          · cases h
        · cases h
      · cases h
    · cases h
  · cases h
/-- Do all outcomes return true? -/
def allTrue (E : Env) (rs : List ResultVar) : Option (List (AE × Sl × St)) → Bool
  | some l => l.all fun x => match x with
    | (.ret, t, s) => (match resultsA E t s rs with | some [.c (.bool true)] => true | _ => false)
    | _ => false
  | none => false
theorem law_ok {E0 : Env} {E : Bool → Env} {eR : Bool → Int → Int → Env} {mOf : Nat → Option (Nat × Bool)} {hk : Bool → Nat → Sl → St → Option (List (AE × Sl × St))} {f : Nat} {fn : Func} {c : Code} (hf : Try.prog.funcs[f]? = some fn) (hc : fn.body = some c) {args : List AV} {vals : Array Value} (hargs : F2 (VR V0 ρ0) args vals.toList) (hle : args.length ≤ fn.ntmps) (w : World)
    {A : Option Addr} {len cap : Nat} (hV : V0 0 = .slice A len cap) (hB : Byts w A len) (hl1 : len ≤ cap) (hl2 : cap ≤ maxLen) {most : Nat} (hmost : most ≤ 250)
    (hE : EnvOK Try.prog V0 E0) (hx : ExtOK Try.prog V0 E0) (hnewf : E0.fn 9 = some Try.f9)
    {pre rest : List Code} {id : Nat} {ops : Array Oper} (hlin : lin c = pre ++ (.region id ops false :: rest)) {t1 t2 : Sl} {s1 : St} (hpre : codeAL E0 pre (pad fn.ntmps args) st0 = some (t1, s1)) (hnew : newR E0 most ops t1 s1 = some t2)
    (hD : ∀ hl q ga row, LsOK hl q ga row → DrawsOK Try.prog V0 hl q ga row (E hl) (eR hl)) (hm : ∀ id m mg, mOf id = some (m, mg) → 1 ≤ m ∧ m ≤ 1000)
    (hH : ∀ hl q ga row, LsOK hl q ga row → ∀ c ∈ rest, HookC Try.prog V0 q ga row w.heap.size w c (hk hl)) (n : Nat)
    (hrun : ∀ hl, allTrue (E hl) fn.results.toList (codeNL hl s1.next (s1.next + 1) (E hl) (eR hl) mOf (hk hl) n rest t2 (newS hl { s1 with heap := [] })) = true) :
    Calls Try.prog f vals w fun e w' => e = .returned (.bool true) ∧ RowKit.Below w.heap.size w w' := by
  have hvl : vals.size = args.length := by rw [← Array.length_toList, ← hargs.length]
  have ht : TR V0 ρ0 (pad fn.ntmps args) { tmps := vals ++ Array.replicate (fn.ntmps - vals.size) undef, defers := [] } := by
    refine ⟨by rw [pad_length]; simp; omega, fun d => ?_, rfl⟩
    rw [pad_look _ _ _ hle]
    have h1 := lget_F2 hargs d
    have h2 : (vals ++ Array.replicate (fn.ntmps - vals.size) undef).getD d undef = vals.toList.getD d undef := by
      simp only [Array.getD_eq_getD_getElem?, List.getD_eq_getElem?_getD, Array.getElem?_append, Array.getElem?_toList]
      by_cases hd : d < vals.size
      · rw [if_pos hd]
      · rw [if_neg hd, Array.getElem?_eq_none (by omega : vals.size ≤ d), Array.getElem?_replicate]
        split <;> rfl
    show VR V0 ρ0 _ ((vals ++ Array.replicate (fn.ntmps - vals.size) undef).getD d undef)
    rw [h2]
    exact h1
  refine calls_of_wp hf hc (wp_of_lin ?_)
  rw [hlin]
  refine codeAL_ok hE hx pre hpre ⟨ρ0, ht, rep0 w, fun _ _ => rfl, fun _ _ => rfl, fun i b hb => (by cases hb), Below.refl _ _, Nat.le_refl _⟩ (fun a1 w1 hh1 => ?_)
  refine newR_ok hE hx hmost hnew hnewf hV hB hl1 hl2 hh1 (fun hl q ga row hL a2 w2 hh2 => ?_)
  have hr := hrun hl
  unfold allTrue at hr
  split at hr
  · rename_i out hout
    refine codeNL_ok (hD hl q ga row hL) hm n rest (hH hl q ga row hL) hout hh2 (fun x hxm a' w' hh' => ?_)
    have hxr := List.all_eq_true.1 hr x hxm
    obtain ⟨e, t', s'⟩ := x
    cases e with
    | ret =>
      simp only at hxr
      split at hxr
      · rename_i hres
        obtain ⟨b, p, hp, ρ', ht', hr', _, _, _, hb, _⟩ := hh'
        obtain ⟨vs, g1, g2⟩ := results_ok ((hD hl q ga row hL).e b p hp).1 ht' hr' _ _ hres
        have hr2 : (results fn a'.tmps).run Try.prog w' = .ok (if h : vs.toArray.size = 1 then vs.toArray[0] else .tuple vs.toArray) w' := by
          unfold results
          rw [Array.mapM_eq_mapM_toList]
          simp only [Sem.run_bind, Sem.run_map, Sem.run_pure]
          generalize hX : Sem.run Try.prog (List.mapM _ fn.results.toList) w' = Y
          have hY : Y = .ok vs w' := hX.symm.trans g1
          rw [hY]
          simp only [Result.andThen_ok]
        have hv : vs = [.bool true] := by
          match vs, g2 with
          | [v], g2 => rw [show v = .bool true from g2.1]
        subst hv
        exact ⟨ht'.df, _, hr2, rfl, hb⟩
      · cases hxr
    | normal => cases hxr
    | exit _ => cases hxr
  · cases hr
end
end Ab
end Go.Proofs.Ytddiclnkfhldlaa
