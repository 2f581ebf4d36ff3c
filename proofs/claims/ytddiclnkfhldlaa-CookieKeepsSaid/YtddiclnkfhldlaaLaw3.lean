/-
  draw.Mod, as a contract for the interpreter.
  Conditions: none.
-/
import Derived.Test.YtddiclnkfhldlaaTree
import Derived.WalkKit
import Derived.Below
import Derived.Test.YtddiclnkfhldlaaMemo
import Derived.Test.YtddiclnkfhldlaaGwE
import Derived.Test.YtddiclnkfhldlaaTerm
namespace Go.Proofs.Ytddiclnkfhldlaa
namespace Ab
open Go.RowKit
set_option linter.unusedVariables false
def modv (v n : Int) : Int := if v.tmod n < 0 then v.tmod n + n else v.tmod n
theorem modv_range (v n : Int) (hn : 0 < n) : 0 ≤ modv v n ∧ modv v n < n := by
  have h1 := Int.tmod_lt_of_pos v hn
  have h2 := Int.lt_tmod_of_pos v hn
  unfold modv
  split <;> omega
theorem mod_det (v n : Int) (w : World) (hv : -9223372036854775808 ≤ v ∧ v ≤ 9223372036854775807) (hn : 0 < n) (hn2 : n ≤ 1000000) :
    Calls Try.prog 21 #[.int .i64 v, .int .i64 n] w fun e w' => e = .returned (.int .i64 (modv v n)) ∧ w' = w := by
  have h1 := Int.tmod_lt_of_pos v hn
  have h2 : -n < v.tmod n := by
    have := Int.lt_tmod_of_pos v hn
    omega
  have hn0 : n ≠ 0 := by omega
  go_enter Try.func21, Try.ntmps21
  go_wp2_with fail
  · rename_i h
    exact bodyPost_ret (v := .int .i64 (v.tmod n + n)) (by simp [results, Try.results21, go_sem]) rfl ⟨by unfold modv; rw [if_pos (by first | omega | (simp at h; omega))], rfl⟩
  · rename_i h
    exact bodyPost_ret (v := .int .i64 (v.tmod n)) (by simp [results, Try.results21, go_sem]) rfl ⟨by unfold modv; rw [if_neg (by first | omega | (simp at h; omega))], rfl⟩
/-- The table of what Mod yields at symbols. -/
def findM : List (Nat × Int × AC) → Nat → Int → Option AC
  | [], _, _ => none
  | x :: r, i, n => if x.1 = i ∧ x.2.1 = n then some x.2.2 else findM r i n
def modE (tb : List (Nat × Int × AC)) : Nat → List AV → St → Option (AV × St) := fun f args s =>
  bif Nat.beq f 21 then
    match args with
    | [.one (.c (.sym i)), .one (.c (.int .i64 n))] => match findM tb i n with | some z => some (.one (.c z), s) | none => none
    | _ => none
  else none
theorem findM_mem : ∀ {tb : List (Nat × Int × AC)} {i : Nat} {n : Int} {z : AC}, findM tb i n = some z → (i, n, z) ∈ tb
  | [], i, n, z, h => by cases h
  | x :: r, i, n, z, h => by
    simp only [findM] at h
    split at h
    · rename_i h1
      injection h with h
      obtain ⟨a, b, c⟩ := x
      obtain ⟨h1, h2⟩ := h1
      simp only at h1 h2 h
      subst h1
      subst h2
      subst h
      simp
    · exact List.mem_cons_of_mem _ (findM_mem h)
theorem modE_ok {V : Nat → Value} {tab : BinOp → AC → AC → Option AC} {cvt : IntKind → AC → Option AC} {tb : List (Nat × Int × AC)}
    (h : ∀ x ∈ tb, ∃ a, V x.1 = .int .i64 a ∧ (-9223372036854775808 ≤ a ∧ a ≤ 9223372036854775807) ∧ 0 < x.2.1 ∧ x.2.1 ≤ 1000000 ∧ ∀ ρ, CR V ρ x.2.2 (.int .i64 (modv a x.2.1))) : ExtOK Try.prog V (env tab cvt (modE tb)) := by
  have key : ∀ f args s v s', modE tb f args s = some (v, s') → f = 21 ∧ s' = s ∧ ∃ i n z, args = [.one (.c (.sym i)), .one (.c (.int .i64 n))] ∧ (i, n, z) ∈ tb ∧ v = .one (.c z) := by
    intro f args s v s' hm
    unfold modE at hm
    cases hb : Nat.beq f 21
    · simp [hb] at hm
    · simp only [hb, cond_true] at hm
      split at hm
      · rename_i i n
        split at hm
        · rename_i z hz
          simp only [Option.some.injEq, Prod.mk.injEq] at hm
          exact ⟨Nat.eq_of_beq_eq_true hb, hm.2.symm, i, n, z, rfl, findM_mem hz, hm.1.symm⟩
        · cases hm
      · cases hm
  refine ⟨?_, ?_, ?_⟩
  · intro f args s v s' hm ρ w vals hv hr hf
    obtain ⟨rfl, rfl, i, n, z, rfl, hz, rfl⟩ := key f args s v s' hm
    obtain ⟨a, h1, h2, h3, h4, h5⟩ := h _ hz
    have hvals : vals = #[.int .i64 a, .int .i64 n] := by
      apply Array.ext'
      match hl : vals.toList, hv with
      | [x, y], hv =>
        have e1 : x = V i := hv.1
        have e2 : y = .int .i64 n := hv.2.1
        rw [e1, e2, h1]
    subst hvals
    refine (mod_det a n w h2 h3 h4).mono ?_
    rintro e w' ⟨rfl, rfl⟩
    exact ⟨_, ρ, rfl, Goes.refl V hr, h5 ρ⟩
  · intro f args s v s' hm
    obtain ⟨_, rfl, _⟩ := key f args s v s' hm
    exact ⟨Nat.le_refl _, Nat.le_refl _⟩
  · intro f args s r hm
    obtain ⟨rfl, _⟩ := key f args s r.1 r.2 hm
    exact ⟨Try.f21, by kernel_rfl⟩
end Ab
end Go.Proofs.Ytddiclnkfhldlaa
namespace Go.Proofs.Ytddiclnkfhldlaa
namespace Ab
open Go.RowKit
set_option linter.unusedVariables false
set_option maxRecDepth 100000
/-- The environment with a contract for Next. -/
noncomputable def envR (tab : BinOp → AC → AC → Option AC) (cvt : IntKind → AC → Option AC) (oth : Nat → List AV → St → Option (AV × St)) (hl : Bool) (i0 i1 : Nat) (m r : Int) : Env :=
  env tab cvt (fun f args s => bif Nat.beq f 12 then nextE hl i0 i1 m r args s else oth f args s)
theorem nextE_up {hl : Bool} {i0 i1 : Nat} {m r : Int} {args : List AV} {s s' : St} {v : AV} (h : nextE hl i0 i1 m r args s = some (v, s')) : s.next ≤ s'.next ∧ s.ncap ≤ s'.ncap := by
  unfold nextE at h
  split at h
  · rename_i i m'
    cases hk : (Nat.beq i i0 && decide (m' = m) && codesIn hl i0 i1 s 902)
    · simp [hk] at h
    · simp only [hk, cond_true, Option.some.injEq, Prod.mk.injEq] at h
      obtain ⟨_, rfl⟩ := h
      exact ⟨Nat.le_refl _, Nat.le_refl _⟩
  · cases h
theorem envR_ext {V0 : Nat → Value} {q : Ls} {ga b p : Nat} {row : Array Value} {hl : Bool} {i0 i1 : Nat} {m : Int} {tab : BinOp → AC → AC → Option AC} {cvt : IntKind → AC → Option AC} {oth : Nat → List AV → St → Option (AV × St)} (hL : LsOK hl q ga row) (hp : p ≤ q.n) (hm0 : 1 ≤ m) (hm1 : m ≤ 1099511627776)
    (ho : ExtOK Try.prog (vL V0 q ga row b p) (env tab cvt oth)) : ExtOK Try.prog (vL V0 q ga row b p) (envR tab cvt oth hl i0 i1 m (dig q row p m)) := by
  have key : ∀ f args s v s', (envR tab cvt oth hl i0 i1 m (dig q row p m)).ext f args s = some (v, s') → (f = 12 ∧ nextE hl i0 i1 m (dig q row p m) args s = some (v, s')) ∨ oth f args s = some (v, s') := by
    intro f args s v s' h
    have h : (bif Nat.beq f 12 then nextE hl i0 i1 m (dig q row p m) args s else oth f args s) = some (v, s') := h
    cases hb : Nat.beq f 12
    · rw [hb] at h
      exact .inr h
    · rw [hb] at h
      exact .inl ⟨Nat.eq_of_beq_eq_true hb, h⟩
  refine ⟨?_, ?_, ?_⟩
  · intro f args s v s' h ρ w vals hv hr hf
    rcases key _ _ _ _ _ h with ⟨rfl, h⟩ | h
    · exact nextE_ok hL hp hm0 hm1 h hv hr
    · exact ho.ok f args s v s' h ρ w vals hv hr hf
  · intro f args s v s' h
    rcases key _ _ _ _ _ h with ⟨rfl, h⟩ | h
    · exact nextE_up h
    · exact ho.up f args s v s' h
  · intro f args s r h
    rcases key f args s r.1 r.2 h with ⟨rfl, h⟩ | h
    · exact ⟨Try.f12, by kernel_rfl⟩
    · exact ho.fn f args s r h
end Ab
end Go.Proofs.Ytddiclnkfhldlaa
namespace Go.Proofs.Ytddiclnkfhldlaa
namespace Ab
open Go.RowKit
set_option linter.unusedVariables false
set_option linter.unusedSimpArgs false
set_option maxRecDepth 100000
def termC : List AC := [.num .i64, .num .i64, .any]
/-- Term. -/
def termE (hl : Bool) (i0 i1 : Nat) (f : Nat) (args : List AV) (s : St) : Option (AV × St) :=
  match args with
  | [.one (.c (.ptr (some (i, 0)))), .one (.c (.int .i64 m))] => bif Nat.beq f 20 && (Nat.beq i i0 && (decide (1 ≤ m) && (decide (m ≤ 1000) && codesIn hl i0 i1 s 900))) then some (.one (.agg termC), codeOn s i0) else none
  | _ => none
section
variable {V0 : Nat → Value} {q : Ls} {ga b p : Nat} {row : Array Value} {hl : Bool} {i0 i1 : Nat}
theorem termE_ok (hL : LsOK hl q ga row) : CallOK Try.prog (vL V0 q ga row b p) (termE hl i0 i1) := by
  intro f args s v s' h ρ w vals hargs hr hf
  unfold termE at h
  split at h
  · rename_i i m
    cases hk : (Nat.beq f 20 && (Nat.beq i i0 && (decide (1 ≤ m) && (decide (m ≤ 1000) && codesIn hl i0 i1 s 900))))
    · simp [hk] at h
    · simp only [hk, cond_true, Option.some.injEq, Prod.mk.injEq] at h
      obtain ⟨rfl, rfl⟩ := h
      simp only [Bool.and_eq_true, decide_eq_true_eq] at hk
      obtain ⟨k0, k1, k2, k3, k4⟩ := hk
      have k0 := Nat.eq_of_beq_eq_true k0
      subst k0
      have k1 := Nat.eq_of_beq_eq_true k1
      subst k1
      obtain ⟨c0, c1⟩ := codesIn_ok k4
      obtain ⟨g, p', hb, hC⟩ := rep_some hL hr c0 c1
      have hvals : vals = #[.pointer (some ⟨g, 0, none⟩), .int .i64 m] := by
        apply Array.ext'
        match hl : vals.toList, hargs with
        | [x, y], hv =>
          obtain ⟨b', e0, e1⟩ := hv.1
          rw [hb] at e0
          injection e0 with e0
          subst e0
          have e2 : y = .int .i64 m := hv.2.1
          rw [e1, e2]
      subst hvals
      refine (cterm_any (m.toNat - 1) g q p' w m (by omega) (by omega) hC).mono ?_
      rintro e w' ⟨t, A, c, p2, rfl, _, _, _, hC', hg⟩
      exact ⟨_, ρ, rfl, go_codes hr c0 hb hg hC'.2.2.1 (pb_some hC'.1), _, rfl, ⟨_, rfl⟩, ⟨_, rfl⟩, rfl, trivial⟩
  · cases h
/-- Gateways, terms, numbers. -/
def extD (hl : Bool) (i0 i1 : Nat) : Nat → List AV → St → Option (AV × St) := orE (gwE hl i0 i1) (orE (termE hl i0 i1) (nextW hl i0 i1))
theorem extD_ok (hL : LsOK hl q ga row) (h1 : ∀ i, (V0 i).oneCell' = true) : CallOK Try.prog (vL V0 q ga row b p) (extD hl i0 i1) :=
  orE_ok (gwE_ok hL h1) (orE_ok (termE_ok hL) (nextW_ok hL))
end
end Ab
end Go.Proofs.Ytddiclnkfhldlaa
namespace Go.Proofs.Ytddiclnkfhldlaa
namespace Ab
open Go.RowKit
set_option linter.unusedVariables false
set_option linter.unusedSimpArgs false
set_option maxRecDepth 100000
noncomputable def lawRun (E0 : Env) (E : Bool → Env) (eR : Bool → Int → Int → Env) (mOf : Nat → Option (Nat × Bool)) (n most : Nat) (nt : Nat) (rs : List ResultVar) (args : List AV) (pre : List Code) (ops : Array Oper) (rest : List Code) (hl : Bool) : Bool :=
  match codeAL E0 pre (pad nt args) st0 with
  | some (t1, s1) => (match newR E0 most ops t1 s1 with
    | some t2 => allTrue (E hl) rs (codeNL hl s1.next (s1.next + 1) (E hl) (eR hl) mOf noHk n rest t2 (newS hl { s1 with heap := [] }))
    | none => false)
  | none => false
theorem law2_ok {V0 : Nat → Value} {E0 : Env} {E : Bool → Env} {eR : Bool → Int → Int → Env} {mOf : Nat → Option (Nat × Bool)} {f : Nat} {fn : Func} {c : Code} (hf : Try.prog.funcs[f]? = some fn) (hc : fn.body = some c) {args : List AV} {vals : Array Value} (hargs : F2 (VR V0 ρ0) args vals.toList) (hle : args.length ≤ fn.ntmps) (w : World)
    {A : Option Addr} {len cap : Nat} (hV : V0 0 = .slice A len cap) (hB : Byts w A len) (hl1 : len ≤ cap) (hl2 : cap ≤ maxLen) {most : Nat} (hmost : most ≤ 250)
    (hE : EnvOK Try.prog V0 E0) (hx : ExtOK Try.prog V0 E0) (hnewf : E0.fn 9 = some Try.f9)
    {pre rest : List Code} {id : Nat} {ops : Array Oper} (hlin : lin c = pre ++ (.region id ops false :: rest))
    (hD : ∀ hl q ga row, LsOK hl q ga row → DrawsOK Try.prog V0 hl q ga row (E hl) (eR hl)) (hm : ∀ id m mg, mOf id = some (m, mg) → 1 ≤ m ∧ m ≤ 1000) (n : Nat)
    (hrun : ∀ hl, lawRun E0 E eR mOf n most fn.ntmps fn.results.toList args pre ops rest hl = true) :
    Calls Try.prog f vals w fun e w' => e = .returned (.bool true) ∧ RowKit.Below w.heap.size w w' := by
  have h0 := hrun true
  unfold lawRun at h0 hrun
  split at h0
  · rename_i t1 s1 hpre
    split at h0
    · rename_i t2 hnew
      refine law_ok hf hc hargs hle w hV hB hl1 hl2 hmost hE hx hnewf hlin hpre hnew hD hm (hk := fun _ => noHk) (fun hl q ga row hL c hc => noHk_ok) n (fun hl => ?_)
      have := hrun hl
      rw [hpre] at this
      simp only [hnew] at this
      exact this
    · cases h0
  · cases h0
noncomputable def opsOf : List Code → Array Oper
  | .region _ ops _ :: _ => ops
  | _ => #[]
noncomputable def E0n : Env := env noTab noCvt noExt
/-- The tables of a law with draws at the numbers 4, 5. -/
noncomputable def eW (oth : Nat → List AV → St → Option (AV × St)) (hl : Bool) : Env := env noTab noCvt (onlyE envZ (orE (extD hl 4 5) oth))
noncomputable def eWR (oth : Nat → List AV → St → Option (AV × St)) (hl : Bool) : Int → Int → Env := envR noTab noCvt (onlyE envZ (orE (extD hl 4 5) oth)) hl 4 5
section
variable {V0 : Nat → Value} {q : Ls} {ga : Nat} {row : Array Value} {hl : Bool}
theorem drawsW {oth : Nat → List AV → St → Option (AV × St)} (ho : ∀ b p, CallOK Try.prog (vL V0 q ga row b p) oth) (h1 : ∀ i, (V0 i).oneCell' = true) (hL : LsOK hl q ga row) : DrawsOK Try.prog V0 hl q ga row (eW oth hl) (eWR oth hl) where
  one := h1
  e := fun b p hp => envX_ok (vL_one h1 b p) (orE_ok (extD_ok hL h1) (ho b p))
  r := fun b p k hp k1 k2 => ⟨env_ok (fun op a b z h => (by cases h)) (fun k i z h => (by cases h)) (vL_one h1 b p), envR_ext hL hp (by omega) (by omega) (envX_ok (vL_one h1 b p) (orE_ok (extD_ok hL h1) (ho b p))).2⟩
  ls := hL
end
end Ab
end Go.Proofs.Ytddiclnkfhldlaa
namespace Go.Proofs.Ytddiclnkfhldlaa
namespace Ab
open Go.RowKit
set_option linter.unusedVariables false
set_option linter.unusedSimpArgs false
set_option maxRecDepth 100000
/-- The post of a law's body. -/
abbrev LawQ (fn : Func) (w : World) : Exit → Act → World → Prop := bodyPost Try.prog fn (fun e w' => e = .returned (.bool true) ∧ RowKit.Below w.heap.size w w')
theorem law3_ok {V0 : Nat → Value} {E0 : Env} {E : Bool → Env} {f : Nat} {fn : Func} {c : Code} (hf : Try.prog.funcs[f]? = some fn) (hc : fn.body = some c) {args : List AV} {vals : Array Value} (hargs : F2 (VR V0 ρ0) args vals.toList) (hle : args.length ≤ fn.ntmps) (w : World)
    {A : Option Addr} {len cap : Nat} (hV : V0 0 = .slice A len cap) (hB : Byts w A len) (hl1 : len ≤ cap) (hl2 : cap ≤ maxLen) {most : Nat} (hmost : most ≤ 250)
    (hE : EnvOK Try.prog V0 E0) (hx : ExtOK Try.prog V0 E0) (hnewf : E0.fn 9 = some Try.f9)
    {pre mid rest : List Code} {id : Nat} {ops : Array Oper} (hlin : lin c = pre ++ (.region id ops false :: (mid ++ rest))) {t1 t2 : Sl} {s1 : St} (hpre : codeAL E0 pre (pad fn.ntmps args) st0 = some (t1, s1)) (hnew : newR E0 most ops t1 s1 = some t2)
    (hD : ∀ hl q ga row, LsOK hl q ga row → ∀ b p, p ≤ q.n → EnvOK Try.prog (vL V0 q ga row b p) (E hl) ∧ ExtOK Try.prog (vL V0 q ga row b p) (E hl))
    (hmid : ∀ hl, ∃ t3 s3, codeAL (E hl) mid t2 (newS hl { s1 with heap := [] }) = some (t3, s3) ∧ ∀ q ga row, LsOK hl q ga row → ∀ a w', HereC V0 q ga row w.heap.size w t3 s3 a w' → wpL Try.prog (LawQ fn w) rest a w') :
    Calls Try.prog f vals w fun e w' => e = .returned (.bool true) ∧ RowKit.Below w.heap.size w w' := by
  have hvl : vals.size = args.length := by rw [← Array.length_toList, ← hargs.length]
  have ht : TR V0 ρ0 (pad fn.ntmps args) { tmps := vals ++ Array.replicate (fn.ntmps - vals.size) undef, defers := [] } := by
    refine ⟨by rw [pad_length]; simp; omega, fun d => ?_, rfl⟩
    rw [pad_look _ _ _ hle]
    have h1 := lget_F2 hargs d
    have h2 : (vals ++ Array.replicate (fn.ntmps - vals.size) undef).getD d undef = vals.toList.getD d undef := by
      simp only [Array.getD_eq_getD_getElem?, List.getD_eq_getElem?_getD, Array.getElem?_append, Array.getElem?_toList]
      by_cases hd : d < vals.size
      · rw [if_pos hd]
      · rw [if_neg hd, Array.getElem?_eq_none (by omega : vals.size ≤ d), Array.getElem?_replicate]
        split <;> rfl
    show VR V0 ρ0 _ ((vals ++ Array.replicate (fn.ntmps - vals.size) undef).getD d undef)
    rw [h2]
    exact h1
  refine calls_of_wp hf hc (wp_of_lin ?_)
  rw [hlin]
  refine codeAL_ok hE hx pre hpre ⟨ρ0, ht, rep0 w, fun _ _ => rfl, fun _ _ => rfl, fun i b hb => (by cases hb), Below.refl _ _, Nat.le_refl _⟩ (fun a1 w1 hh1 => ?_)
  refine newR_ok hE hx hmost hnew hnewf hV hB hl1 hl2 hh1 (fun hl q ga row hL a2 w2 hh2 => ?_)
  obtain ⟨b, p, hp, hh2⟩ := hh2
  obtain ⟨e1, e2⟩ := hD hl q ga row hL b p hp
  obtain ⟨t3, s3, hm, hrest⟩ := hmid hl
  exact codeAL_ok e1 e2 mid hm hh2 (fun a3 w3 hh3 => hrest q ga row hL a3 w3 ⟨b, p, hp, hh3⟩)
/-- Code as a list, to where it ends. -/
def codeAE (E : Env) : List Code → Sl → St → Option (AE × Sl × St)
  | [], t, s => some (.normal, t, s)
  | c :: r, t, s => match codeA E (fnA E 30) (drawA E (fnA E 30)) 1000 c t s with
    | some (.normal, t', s') => codeAE E r t' s'
    | x => x
theorem codeAE_ok {P : Program} {V : Nat → Value} {E : Env} (hE : EnvOK P V E) (hx : ExtOK P V E) {base : Nat} {w0 : World} {Q : Exit → Act → World → Prop} : ∀ (l : List Code) {t t' : Sl} {s s' : St} {e : AE}, codeAE E l t s = some (e, t', s') → ∀ {a : Act} {w : World}, Here V base w0 t s a w → (∀ a' w', Here V base w0 t' s' a' w' → Q (AEx e) a' w') → wpL P Q l a w
  | [], t, t', s, s', e, h, a, w, hh, hQ => by
    simp only [codeAE, Option.some.injEq, Prod.mk.injEq] at h
    obtain ⟨rfl, rfl, rfl⟩ := h
    exact hQ a w hh
  | c :: l, t, t', s, s', e, h, a, w, hh, hQ => by
    simp only [codeAE] at h
    split at h
    · rename_i t1 s1 h1
      exact code_here hE hx 30 1000 h1 hh (fun a' w' h' => codeAE_ok hE hx l h h' hQ)
    · rename_i hno
      refine code_here hE hx 30 1000 h hh (fun a' w' h' => ?_)
      cases e with
      | normal => exact (hno _ _ h).elim
      | ret => exact hQ a' w' h'
      | exit id => exact hQ a' w' h'
/-- Does the rest return true? -/
def endTrue (E : Env) (rs : List ResultVar) : Option (AE × Sl × St) → Bool
  | some (.ret, t, s) => (match resultsA E t s rs with | some [.c (.bool true)] => true | _ => false)
  | _ => false
theorem endTrue_ok {V : Nat → Value} {E : Env} (hE : EnvOK Try.prog V E) (hx : ExtOK Try.prog V E) {fn : Func} {w0 : World} {l : List Code} {t : Sl} {s : St} (h : endTrue E fn.results.toList (codeAE E l t s) = true) {a : Act} {w : World} (hh : Here V w0.heap.size w0 t s a w) : wpL Try.prog (LawQ fn w0) l a w := by
  unfold endTrue at h
  split at h
  · rename_i t' s' hr
    split at h
    · rename_i hres
      refine codeAE_ok hE hx l hr hh (fun a' w' h' => ?_)
      obtain ⟨ρ', ht', hr', _, _, _, hb, _⟩ := h'
      obtain ⟨vs, g1, g2⟩ := results_ok hE ht' hr' _ _ hres
      have hr2 : (results fn a'.tmps).run Try.prog w' = .ok (if h : vs.toArray.size = 1 then vs.toArray[0] else .tuple vs.toArray) w' := by
        unfold results
        rw [Array.mapM_eq_mapM_toList]
        simp only [Sem.run_bind, Sem.run_map, Sem.run_pure]
        generalize hX : Sem.run Try.prog (List.mapM _ fn.results.toList) w' = Y
        have hY : Y = .ok vs w' := hX.symm.trans g1
        rw [hY]
        simp only [Result.andThen_ok]
      have hv : vs = [.bool true] := by
        match vs, g2 with
        | [v], g2 => rw [show v = .bool true from g2.1]
      subst hv
      exact ⟨ht'.df, _, hr2, rfl, hb⟩
    · cases h
  · cases h
/-! ### A number within bounds gets a symbol -/
def setAt : List AC → Nat → AC → List AC
  | [], _, _ => []
  | _ :: r, 0, v => v :: r
  | x :: r, n + 1, v => x :: setAt r n v
def symAt (k i j : Nat) (s : St) : St := match look s.heap i with
  | some B => { s with heap := upd s.heap i { B with cells := setAt B.cells j (.sym k) } }
  | none => s
def ivlAt (s : St) (i j : Nat) : Option (Int × Int) := match look s.heap i with
  | some B => (match B.cells[j]?, B.more with | some (.ivl .i64 lo hi), none => some (lo, hi) | _, _ => none)
  | none => none
def withV (V : Nat → Value) (k : Nat) (v : Value) : Nat → Value := fun i => if i = k then v else V i
theorem f2_set {α β : Type} {R : α → β → Prop} {set : List α → Nat → α → List α} (h0 : ∀ x r v, set (x :: r) 0 v = v :: r) (h1 : ∀ x r n v, set (x :: r) (n + 1) v = x :: set r n v) (hn : ∀ n v, set [] n v = []) : ∀ {l : List α} {m : List β} (j : Nat) {x : α} {y : β}, F2 R l m → m[j]? = some y → R x y → F2 R (set l j x) m
  | a :: l, b :: m, 0, x, y, h, hy, hr => by
    rw [h0]
    injection hy with hy
    subst hy
    exact ⟨hr, h.2⟩
  | a :: l, b :: m, j + 1, x, y, h, hy, hr => by
    rw [h1]
    exact ⟨h.1, f2_set h0 h1 hn j h.2 (by simpa using hy) hr⟩
  | [], [], j, x, y, h, hy, hr => by rw [hn]; trivial
  | [], _ :: _, j, x, y, h, hy, hr => h.elim
  | _ :: _, [], j, x, y, h, hy, hr => h.elim
theorem here_sym {V : Nat → Value} {k i j : Nat} {lo hi : Int} {base : Nat} {w0 : World} {t : Sl} {s : St} {a : Act} {w : World} (hi' : ivlAt s i j = some (lo, hi)) (hft : freeT k t t.length = true) (hfh : freeH k s.heap = true) (hh : Here V base w0 t s a w) :
    ∃ x : Int, lo ≤ x ∧ x ≤ hi ∧ Here (withV V k (.int .i64 x)) base w0 t (symAt k i j s) a w := by
  obtain ⟨ρ, ht, hr, h1, h2, h3, h4, h5⟩ := hh
  unfold ivlAt at hi'
  split at hi'
  · rename_i B hB
    split at hi'
    · rename_i lo' hi'' hc hm
      simp only [Option.some.injEq, Prod.mk.injEq] at hi'
      obtain ⟨rfl, rfl⟩ := hi'
      obtain ⟨b, cs, g1, g2, pre, post, g3, g4, g5⟩ := hr.h i B hB
      obtain ⟨u, u1, x, x1, x2, rfl⟩ := f2_get g4 j hc
      have hV : ∀ m, m ≠ k → V m = withV V k (.int .i64 x) m := fun m hm => by unfold withV; rw [if_neg hm]
      have hr2 := rep_reV hV hfh hr
      refine ⟨x, x1, x2, ρ, tr_reV hV hft ht, ?_, ?_, ?_, h3, h4, h5⟩
      · have e : symAt k i j s = { s with heap := upd s.heap i { B with cells := setAt B.cells j (.sym k) } } := by
          unfold symAt
          rw [hB]
        rw [e]
        have hlk : ∀ m C, look (upd s.heap i { B with cells := setAt B.cells j (.sym k) }) m = some C → ∃ D, look s.heap m = some D := by
          intro m C hC
          rw [look_upd] at hC
          by_cases hm : m = i
          · rw [hm]
            exact ⟨B, hB⟩
          · rw [if_neg hm] at hC
            exact ⟨C, hC⟩
        refine ⟨?_, ?_, hr.bnd, ?_⟩
        · intro m C hC
          have hC : look (upd s.heap i { B with cells := setAt B.cells j (.sym k) }) m = some C := hC
          rw [look_upd] at hC
          by_cases hmi : m = i
          · subst hmi
            rw [if_pos rfl, hB] at hC
            simp only [Option.map_some, Option.some.injEq] at hC
            subst hC
            obtain ⟨b', cs', k1, k2, pre', post', k3, k4, k5⟩ := hr2.h m B hB
            rw [g1] at k1
            injection k1 with k1
            subst k1
            rw [g2] at k2
            injection k2 with k2
            injection k2 with k2
            subst k2
            have k5' : post' = [] := by
              unfold MR at k5
              rw [hm] at k5
              exact k5
            have g5' : post = [] := by
              unfold MR at g5
              rw [hm] at g5
              exact g5
            subst k5'
            subst g5'
            have epre : pre' = pre := by
              rw [g3] at k3
              simpa using k3.symm
            subst epre
            refine ⟨b, cs, g1, g2, pre', [], k3, ?_, ?_⟩
            · refine f2_set (set := setAt) (fun _ _ _ => rfl) (fun _ _ _ _ => rfl) (fun _ _ => rfl) j k4 u1 ?_
              show Value.int .i64 x = withV V k (.int .i64 x) k
              unfold withV
              rw [if_pos rfl]
            · unfold MR
              rw [hm]
          · rw [if_neg hmi] at hC
            exact hr2.h m C hC
        · intro m n C D c hC hD e1 e2
          obtain ⟨C', hC'⟩ := hlk m C hC
          obtain ⟨D', hD'⟩ := hlk n D hD
          exact hr.inj m n C' D' c hC' hD' e1 e2
        · intro m C hC
          obtain ⟨C', hC'⟩ := hlk m C hC
          exact hr.lt m C' hC'
      · intro m hm
        have e : (symAt k i j s).next = s.next := by unfold symAt; rw [hB]
        exact h1 m (by omega)
      · intro m hm
        have e : (symAt k i j s).ncap = s.ncap := by unfold symAt; rw [hB]
        exact h2 m (by omega)
    · cases hi'
  · cases hi'
end Ab
end Go.Proofs.Ytddiclnkfhldlaa
