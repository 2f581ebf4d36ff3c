/-
  Calls whose arguments and result are literals, told once for all (a table for the interpreter).
  Conditions: none.
-/
import Derived.Test.YtbfppnppijcnlaaGreatChL
import Derived.Test.YtbfppnppijcnlaaGreatMuD
namespace Go.Proofs.YtbfppnppijcnlaaGreat
namespace Ab
open Go.RowKit
set_option linter.unusedVariables false
set_option linter.unusedSimpArgs false
noncomputable def litC : AC → AC → Bool
  | .int k a, .int k' b => decide (k = k') && (a == b)
  | .bool a, .bool b => a == b
  | .ptr none, .ptr none => true
  | .slice none n (.lit c), .slice none m (.lit d) => Nat.beq n m && Nat.beq c d
  | .nilFunc, .nilFunc => true
  | .nilIface, .nilIface => true
  | .fn a, .fn b => Nat.beq a b
  | _, _ => false
noncomputable def litL : List AC → List AC → Bool
  | [], [] => true
  | x :: r, y :: s => litC x y && litL r s
  | _, _ => false
noncomputable def lit1 : AV → AV → Bool
  | .one (.c x), .one (.c y) => litC x y
  | .one (.agg l), .one (.agg m) => litL l m
  | _, _ => false
noncomputable def litA : List AV → List AV → Bool
  | [], [] => true
  | x :: r, y :: s => lit1 x y && litA r s
  | _, _ => false
section
variable {V : Nat → Value}
theorem litC_ok {x y : AC} {v : Value} {ρ ρ' : Rho} (h : litC x y = true) (hx : CR V ρ x v) : CR V ρ' y v := by
  unfold litC at h
  split at h
  · simp only [Bool.and_eq_true, decide_eq_true_eq, beq_iff_eq] at h
    obtain ⟨rfl, rfl⟩ := h
    exact hx
  · simp only [beq_iff_eq] at h
    subst h
    exact hx
  · exact hx
  · simp only [Bool.and_eq_true] at h
    have e1 := Nat.eq_of_beq_eq_true h.1
    have e2 := Nat.eq_of_beq_eq_true h.2
    subst e1
    subst e2
    exact hx
  · exact hx
  · exact hx
  · have e := Nat.eq_of_beq_eq_true h
    subst e
    exact hx
  · cases h
theorem litL_ok {ρ ρ' : Rho} : ∀ {x y : List AC} {v : List Value}, litL x y = true → F2 (CR V ρ) x v → F2 (CR V ρ') y v
  | [], [], [], _, _ => trivial
  | x :: r, y :: s, v :: vs, h, hx => by
    simp only [litL, Bool.and_eq_true] at h
    exact ⟨litC_ok h.1 hx.1, litL_ok h.2 hx.2⟩
  | [], _ :: _, _, h, _ => by cases h
  | _ :: _, [], _, h, _ => by cases h
  | [], [], _ :: _, _, h => h.elim
  | _ :: _, _ :: _, [], _, h => h.elim
theorem lit1_ok {x y : AV} {v : Value} {ρ ρ' : Rho} (h : lit1 x y = true) (hx : VR V ρ x v) : VR V ρ' y v := by
  unfold lit1 at h
  split at h
  · exact litC_ok h hx
  · obtain ⟨cs, h1, h2⟩ := hx
    exact ⟨cs, h1, litL_ok h h2⟩
  · cases h
theorem litA_ok {ρ ρ' : Rho} : ∀ {x y : List AV} {v : List Value}, litA x y = true → F2 (VR V ρ) x v → F2 (VR V ρ') y v
  | [], [], [], _, _ => trivial
  | x :: r, y :: s, v :: vs, h, hx => by
    simp only [litA, Bool.and_eq_true] at h
    exact ⟨lit1_ok h.1 hx.1, litA_ok h.2 hx.2⟩
  | [], _ :: _, _, h, _ => by cases h
  | _ :: _, [], _, h, _ => by cases h
  | [], [], _ :: _, _, h => h.elim
  | _ :: _, _ :: _, [], _, h => h.elim
/-- A world in which nothing that was known has changed. -/
theorem goes_same {ρ : Rho} {s : St} {w w' : World} (hr : Rep V ρ s w) (hb : RowKit.Below w.heap.size w w') : Goes V ρ s w s w' ρ := by
  refine ⟨⟨fun i B hB => ?_, hr.inj, fun i b h => Nat.lt_of_lt_of_le (hr.bnd i b h) hb.size, hr.lt⟩, ⟨fun _ _ => rfl, fun _ _ => rfl, Nat.le_refl _, Nat.le_refl _, fun _ h => h, fun b h _ => hb.block b h, fun i b h1 h2 => absurd h2 (by omega), fun j h => .inl h, fun _ _ h => h, hb.os, hb.tape, hb.output, hb.size⟩, Le.refl _⟩
  obtain ⟨b, cs, h1, h2, h3⟩ := hr.h i B hB
  exact ⟨b, cs, h1, (hb.block b (hr.bnd _ _ h1)).trans h2, h3⟩
end
structure Memo where
  f : Nat
  args : List AV
  res : AC
noncomputable def memoE (tb : List Memo) : Nat → List AV → St → Option (AV × St) := fun f args s =>
  match tb with
  | [] => none
  | x :: r => bif Nat.beq x.f f && litA args x.args then some (.one (.c x.res), s) else memoE r f args s
/-- What an entry owes: one run. -/
noncomputable def memoOK (E : Env) (x : Memo) : Bool :=
  match fnA E 60 x.f x.args st0 with
  | some (.one (.c y), _) => litC y x.res && (E.fn x.f).isSome
  | _ => false
theorem memoE_mem : ∀ {tb : List Memo} {f : Nat} {args : List AV} {s s' : St} {v : AV}, memoE tb f args s = some (v, s') → ∃ x ∈ tb, x.f = f ∧ litA args x.args = true ∧ v = .one (.c x.res) ∧ s' = s
  | x :: r, f, args, s, s', v, h => by
    unfold memoE at h
    cases hk : (Nat.beq x.f f && litA args x.args)
    · simp only [hk, cond_false] at h
      obtain ⟨y, h1, h2⟩ := memoE_mem h
      exact ⟨y, List.mem_cons_of_mem _ h1, h2⟩
    · simp only [hk, cond_true, Option.some.injEq, Prod.mk.injEq] at h
      simp only [Bool.and_eq_true] at hk
      exact ⟨x, by simp, Nat.eq_of_beq_eq_true hk.1, hk.2, h.1.symm, h.2.symm⟩
  | [], f, args, s, s', v, h => by simp [memoE] at h
theorem memoE_ok {V : Nat → Value} {E E' : Env} (hE : EnvOK Tryz.prog V E) (hx : ExtOK Tryz.prog V E) {tb : List Memo} (h : ∀ x ∈ tb, memoOK E x = true) (h' : E'.ext = memoE tb) (hf : E'.fn = E.fn) : ExtOK Tryz.prog V E' := by
  refine ⟨?_, ?_, ?_⟩
  · intro f args s v s' hm ρ w vals hv hr hfr
    rw [h'] at hm
    obtain ⟨x, h1, rfl, h3, rfl, rfl⟩ := memoE_mem hm
    have hk := h x h1
    unfold memoOK at hk
    split at hk
    · rename_i y s1 hrun
      simp only [Bool.and_eq_true] at hk
      have hargs := litA_ok (ρ' := ρ0) h3 hv
      refine (fnA_ok hE hx 60 x.f x.args st0 _ s1 hrun ρ0 w vals hargs (rep0 w) ⟨fun _ _ _ => rfl, fun _ _ _ => rfl⟩).mono ?_
      rintro e w' ⟨c, ρ', rfl, hg, hc⟩
      exact ⟨c, ρ, rfl, goes_same hr (goes_below hg), litC_ok hk.1 hc⟩
    · cases hk
  · intro f args s v s' hm
    rw [h'] at hm
    obtain ⟨x, _, _, _, _, rfl⟩ := memoE_mem hm
    exact ⟨Nat.le_refl _, Nat.le_refl _⟩
  · intro f args s r hm
    rw [h'] at hm
    obtain ⟨x, h1, rfl, _⟩ := memoE_mem (s' := r.2) (v := r.1) hm
    have hk := h x h1
    unfold memoOK at hk
    split at hk
    · simp only [Bool.and_eq_true] at hk
      rw [hf]
      exact Option.isSome_iff_exists.1 hk.2
    · cases hk
end Ab
end Go.Proofs.YtbfppnppijcnlaaGreat
namespace Go.Proofs.YtbfppnppijcnlaaGreat
namespace Ab
open Go.RowKit
set_option linter.unusedVariables false
set_option linter.unusedSimpArgs false
set_option maxRecDepth 100000
/-- Next, at any place. -/
noncomputable def nextW (hl : Bool) (i0 i1 : Nat) (f : Nat) (args : List AV) (s : St) : Option (AV × St) :=
  match args with
  | [.one (.c (.ptr (some (i, 0)))), .one (.c (.int .i64 m))] => bif Nat.beq f 63 && (Nat.beq i i0 && (decide (1 ≤ m) && (decide (m ≤ 1000) && codesIn hl i0 i1 s 900))) then some (.one (.c (.rng m.toNat)), codeOn s i0) else none
  | _ => none
structure CM where
  f : Nat
  args : List AV
  res : AV
  sp : Nat → Option Nat
/-- A call that goes on with the choices. -/
noncomputable def cmE (hl : Bool) (i0 i1 : Nat) (tb : List CM) (f : Nat) (args : List AV) (s : St) : Option (AV × St) :=
  match args with
  | .one (.c (.ptr (some (i, 0)))) :: rest => bif Nat.beq i i0 && codesIn hl i0 i1 s 900 then
      (match tb.find? (fun x => Nat.beq x.f f && subA [] [] rest x.args) with
      | some x => some (x.res, codeOn s i0)
      | none => none)
    else none
  | _ => none
/-- Nothing but the choices. -/
noncomputable def sC (hl : Bool) : St := { heap := (0, ⟨103, [], some (900, 0)⟩) :: (bif hl then [(1, ⟨5, [], some (901, 0)⟩)] else []), next := 2, ncap := 0, dirty := [] }
noncomputable def argC (x : List AV) : List AV := .one (.c (.ptr (some (0, 0)))) :: x
noncomputable def onC (hl : Bool) (s : St) : Bool := codesIn hl 0 1 s 900 && s.dirty.all (fun j => Nat.beq j 0)
noncomputable def cmOK (hl : Bool) (E : Env) (x : CM) : Bool :=
  match runM E x.sp 1000 x.f (argC x.args) (sC hl) with
  | some out => out.all (fun y => subX [] [] y.1 x.res && onC hl y.2)
  | none => false
section
variable {V0 : Nat → Value} {q : Ls} {ga b p : Nat} {row : Array Value} {hl : Bool} {i0 i1 : Nat}
theorem nextW_ok (hL : LsOK hl q ga row) : CallOK Tryz.prog (vL V0 q ga row b p) (nextW hl i0 i1) := by
  intro f args s v s' h ρ w vals hargs hr hf
  unfold nextW at h
  split at h
  · rename_i i m
    cases hk : (Nat.beq f 63 && (Nat.beq i i0 && (decide (1 ≤ m) && (decide (m ≤ 1000) && codesIn hl i0 i1 s 900))))
    · simp [hk] at h
    · simp only [hk, cond_true, Option.some.injEq, Prod.mk.injEq] at h
      obtain ⟨rfl, rfl⟩ := h
      simp only [Bool.and_eq_true, decide_eq_true_eq] at hk
      obtain ⟨k0, k1, k2, k3, k4⟩ := hk
      have k0 := Nat.eq_of_beq_eq_true k0
      subst k0
      have k1 := Nat.eq_of_beq_eq_true k1
      subst k1
      obtain ⟨c0, c1⟩ := codesIn_ok k4
      obtain ⟨g, p', hb, hC⟩ := rep_some hL hr c0 c1
      have hvals : vals = #[.pointer (some ⟨g, 0, none⟩), .int .i64 m] := by
        apply Array.ext'
        match hl : vals.toList, hargs with
        | [x, y], hv =>
          obtain ⟨b', e0, e1⟩ := hv.1
          rw [hb] at e0
          injection e0 with e0
          subst e0
          have e2 : y = .int .i64 m := hv.2.1
          rw [e1, e2]
      subst hvals
      refine (next_any g q p' m w hC k2 (by omega)).mono ?_
      rintro e w' ⟨r, p'', rfl, hrm, hC', _, _, hg⟩
      exact ⟨_, ρ, rfl, go_codes hr c0 hb hg hC'.2.2.1 (pb_some hC'.1), r, by omega, rfl⟩
  · cases h
/-- The choices alone. -/
noncomputable def fC (hl : Bool) (i0 i1 : Nat) : List (Nat × Nat) := (0, i0) :: (bif hl then [(1, i1)] else [])
theorem rep_sC (hone : ∀ i, (V0 i).oneCell' = true) {ρ : Rho} {s : St} {w : World} (hr : Rep (vL V0 q ga row b p) ρ s w) (hc : codesIn hl i0 i1 s 900 = true) : Rep (vL V0 q ga row b p) (ρ.ren (fC hl i0 i1) []) (sC hl) w ∧ Clean (ρ.ren (fC hl i0 i1) []) (sC hl) := by
  obtain ⟨c0, c1⟩ := codesIn_ok hc
  have e0 := codeAt_eq c0
  refine rep_ren (vL_one hone b p) ?_ ?_ ?_ rfl hr
  · cases hl with
    | false => simp [sC, fC, subH, lkN, e0, subL, subM]
    | true =>
      have e1 := codeAt_eq (c1 rfl)
      have h01 : lkN (fC true i0 i1) 1 = some i1 := rfl
      have h00 : lkN (fC true i0 i1) 0 = some i0 := rfl
      simp only [sC, cond_true, subH, h00, h01, e0, e1]
      rfl
  · cases hl with
    | false => rfl
    | true =>
      have e1 := codeAt_eq (c1 rfl)
      have hne : i0 ≠ i1 := by
        rintro rfl
        rw [e0] at e1
        injection e1 with e1
        injection e1 with e1
        exact absurd e1 (by decide)
      have : Nat.beq i1 i0 = false := by
        cases hb : Nat.beq i1 i0
        · rfl
        · exact absurd (Nat.eq_of_beq_eq_true hb).symm hne
      have h1 : hasN [i1] i0 = false := by
        simp only [hasN_n, hasN_c, this, cond_false]
      show (!(hasN [i1] i0) && (!(hasN [] i1) && true)) = true
      rw [h1]
      rfl
  · cases hl <;> rfl
theorem ren_0 {ρ : Rho} : (ρ.ren (fC hl i0 i1) []).blk 0 = ρ.blk i0 := by
  show (lkN (fC hl i0 i1) 0).bind ρ.blk = ρ.blk i0
  simp [fC, lkN]
/-- Behind a run that began with nothing but the choices. -/
theorem on_codes (hone : ∀ i, (V0 i).oneCell' = true) {ρ ρ' : Rho} {s s1 : St} {w w' : World} (hr : Rep (vL V0 q ga row b p) ρ s w) (hc : codesIn hl i0 i1 s 900 = true) (hg : Goes (vL V0 q ga row b p) (ρ.ren (fC hl i0 i1) []) (sC hl) w s1 w' ρ') (h1 : onC hl s1 = true) : Goes (vL V0 q ga row b p) ρ s w (codeOn s i0) w' ρ := by
  obtain ⟨c0, c1⟩ := codesIn_ok hc
  simp only [onC, Bool.and_eq_true] at h1
  obtain ⟨d0, d1⟩ := codesIn_ok h1.1
  obtain ⟨g, cs0, k1, k2, k3⟩ := rep_code hr c0
  obtain ⟨g2, cs, k4, k5, k6⟩ := rep_code hg.1 d0
  have e : ρ'.blk 0 = some g := by
    rw [hg.2.1.blk 0 (.inl (by simp [sC])), ren_0, k1]
  rw [e] at k4
  injection k4 with k4
  subst k4
  refine go_codes hr c0 k1 ⟨hg.2.1.os, hg.2.1.tape, hg.2.1.out, hg.2.1.size, fun i hi hne => hg.2.1.fr i hi (fun j hj _ => ?_)⟩ k5 k6
  have := Nat.eq_of_beq_eq_true (List.all_eq_true.1 h1.2 j hj)
  subst this
  rw [ren_0, k1]
  exact fun e => hne (by injection e with e; rw [e])
theorem cmE_ok {E : Env} (hL : LsOK hl q ga row) (hone : ∀ i, (V0 i).oneCell' = true) (hE : EnvOK Tryz.prog (vL V0 q ga row b p) E) (hx : ExtOK Tryz.prog (vL V0 q ga row b p) E) {tb : List CM} (ht : ∀ x ∈ tb, cmOK hl E x = true) : CallOK Tryz.prog (vL V0 q ga row b p) (cmE hl i0 i1 tb) := by
  intro f args s v s' h ρ w vals hargs hr hf
  unfold cmE at h
  split at h
  · rename_i i rest
    cases hk : (Nat.beq i i0 && codesIn hl i0 i1 s 900)
    · simp [hk] at h
    · simp only [hk, cond_true] at h
      simp only [Bool.and_eq_true] at hk
      obtain ⟨k1, k2⟩ := hk
      have k1 := Nat.eq_of_beq_eq_true k1
      subst k1
      split at h
      · rename_i x hfind
        simp only [Option.some.injEq, Prod.mk.injEq] at h
        obtain ⟨rfl, rfl⟩ := h
        have hmem := List.mem_of_find?_eq_some hfind
        have hp := List.find?_some hfind
        simp only [Bool.and_eq_true] at hp
        have e := Nat.eq_of_beq_eq_true hp.1
        subst e
        have hrun := ht x hmem
        unfold cmOK at hrun
        split at hrun
        · rename_i out hout
          obtain ⟨r1, r2⟩ := rep_sC hone hr k2
          have hv : F2 (VR (vL V0 q ga row b p) (ρ.ren (fC hl i i1) [])) (argC x.args) vals.toList := by
            match hl : vals.toList, hargs with
            | u :: us, hv =>
              obtain ⟨g, e0, e1⟩ := hv.1
              refine ⟨⟨g, by rw [ren_0]; exact e0, e1⟩, ?_⟩
              exact (subA_ok (vL_one hone b p) hp.2 hv.2).mono fun x y h => h.mono _ (ren_nil _ _)
          refine (runM_ok hE hx hout rfl hv r1 r2).mono ?_
          rintro e w' ⟨y, hy, c, ρ', rfl, hg, hc⟩
          have hk := List.all_eq_true.1 hrun y hy
          simp only [Bool.and_eq_true] at hk
          exact ⟨c, ρ, rfl, on_codes hone hr k2 hg hk.2, (subX_ok (vL_one hone b p) hk.1 hc).mono _ (ren_nil _ _)⟩
        · cases hrun
      · cases h
  · cases h
end
end Ab
end Go.Proofs.YtbfppnppijcnlaaGreat
