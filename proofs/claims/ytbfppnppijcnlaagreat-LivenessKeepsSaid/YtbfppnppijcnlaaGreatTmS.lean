/-
  A law that draws in the beginning: its frame.
  Conditions: none.
-/
import Derived.Test.YtbfppnppijcnlaaGreatChk
import Derived.WalkKit
import Derived.Below
import Derived.Test.YtbfppnppijcnlaaGreatCm
import Derived.Test.YtbfppnppijcnlaaGreatChL
import Derived.Test.YtbfppnppijcnlaaGreatBoxC
import Derived.Test.YtbfppnppijcnlaaGreatFr
import Derived.Test.YtbfppnppijcnlaaGreatRV
namespace Go.Proofs.YtbfppnppijcnlaaGreat
namespace Ab
open Go.RowKit
set_option linter.unusedVariables false
set_option linter.unusedSimpArgs false
set_option maxRecDepth 100000
noncomputable def opsOf : List Code → Array Oper
  | .region _ ops _ :: _ => ops
  | _ => #[]
noncomputable def E0n : Env := env noTab noCvt noExt
end Ab
end Go.Proofs.YtbfppnppijcnlaaGreat
namespace Go.Proofs.YtbfppnppijcnlaaGreat
namespace Ab
open Go.RowKit
set_option linter.unusedVariables false
set_option linter.unusedSimpArgs false
set_option maxRecDepth 100000
/-- The post of a law's body. -/
abbrev LawQ (fn : Func) (w : World) : Exit → Act → World → Prop := bodyPost Tryz.prog fn (fun e w' => e = .returned (.bool true) ∧ RowKit.Below w.heap.size w w')
theorem law3_ok {V0 : Nat → Value} {E0 : Env} {E : Bool → Env} {f : Nat} {fn : Func} {c : Code} (hf : Tryz.prog.funcs[f]? = some fn) (hc : fn.body = some c) {args : List AV} {vals : Array Value} (hargs : F2 (VR V0 ρ0) args vals.toList) (hle : args.length ≤ fn.ntmps) (w : World)
    {A : Option Addr} {len cap : Nat} (hV : V0 0 = .slice A len cap) (hB : Byts w A len) (hl1 : len ≤ cap) (hl2 : cap ≤ maxLen) {most : Nat} (hmost : most ≤ 250)
    (hE : EnvOK Tryz.prog V0 E0) (hx : ExtOK Tryz.prog V0 E0) (hnewf : E0.fn 10 = some Tryz.f10)
    {pre mid rest : List Code} {id : Nat} {ops : Array Oper} (hlin : lin c = pre ++ (.region id ops false :: (mid ++ rest))) {t1 t2 : Sl} {s1 : St} (hpre : codeAL E0 pre (pad fn.ntmps args) st0 = some (t1, s1)) (hnew : newR E0 most ops t1 s1 = some t2)
    (hD : ∀ hl q ga row, LsOK hl q ga row → ∀ b p, p ≤ q.n → EnvOK Tryz.prog (vL V0 q ga row b p) (E hl) ∧ ExtOK Tryz.prog (vL V0 q ga row b p) (E hl))
    (hmid : ∀ hl, ∃ t3 s3, codeAL (E hl) mid t2 (newS hl { s1 with heap := [] }) = some (t3, s3) ∧ ∀ q ga row, LsOK hl q ga row → ∀ a w', HereC V0 q ga row w.heap.size w t3 s3 a w' → wpL Tryz.prog (LawQ fn w) rest a w') :
    Calls Tryz.prog f vals w fun e w' => e = .returned (.bool true) ∧ RowKit.Below w.heap.size w w' := by
  have hvl : vals.size = args.length := by rw [← Array.length_toList, ← hargs.length]
  have ht : TR V0 ρ0 (pad fn.ntmps args) { tmps := vals ++ Array.replicate (fn.ntmps - vals.size) undef, defers := [] } := by
    refine ⟨by rw [pad_length]; simp; omega, fun d => ?_, rfl⟩
    rw [pad_look _ _ _ hle]
    have h1 := lget_F2 hargs d
    have h2 : (vals ++ Array.replicate (fn.ntmps - vals.size) undef).getD d undef = vals.toList.getD d undef := by
      simp only [Array.getD_eq_getD_getElem?, List.getD_eq_getElem?_getD, Array.getElem?_append, Array.getElem?_toList]
      by_cases hd : d < vals.size
      · rw [if_pos hd]
      · rw [if_neg hd, Array.getElem?_eq_none (by omega : vals.size ≤ d), Array.getElem?_replicate]
        split <;> rfl
    show VR V0 ρ0 _ ((vals ++ Array.replicate (fn.ntmps - vals.size) undef).getD d undef)
    rw [h2]
    exact h1
  refine calls_of_wp hf hc (wp_of_lin ?_)
  rw [hlin]
  refine codeAL_ok hE hx pre hpre ⟨ρ0, ht, rep0 w, fun _ _ => rfl, fun _ _ => rfl, fun i b hb => (by cases hb), Below.refl _ _, Nat.le_refl _⟩ (fun a1 w1 hh1 => ?_)
  refine newR_ok hE hx hmost hnew hnewf hV hB hl1 hl2 hh1 (fun hl q ga row hL a2 w2 hh2 => ?_)
  obtain ⟨b, p, hp, hh2⟩ := hh2
  obtain ⟨e1, e2⟩ := hD hl q ga row hL b p hp
  obtain ⟨t3, s3, hm, hrest⟩ := hmid hl
  exact codeAL_ok e1 e2 mid hm hh2 (fun a3 w3 hh3 => hrest q ga row hL a3 w3 ⟨b, p, hp, hh3⟩)
/-- Code as a list, to where it ends. -/
noncomputable def codeAE (E : Env) : List Code → Sl → St → Option (AE × Sl × St)
  | [], t, s => some (.normal, t, s)
  | c :: r, t, s => match codeA E (fnA E 30) (drawA E (fnA E 30)) 1000 c t s with
    | some (.normal, t', s') => codeAE E r t' s'
    | x => x
theorem codeAE_ok {P : Program} {V : Nat → Value} {E : Env} (hE : EnvOK P V E) (hx : ExtOK P V E) {base : Nat} {w0 : World} {Q : Exit → Act → World → Prop} : ∀ (l : List Code) {t t' : Sl} {s s' : St} {e : AE}, codeAE E l t s = some (e, t', s') → ∀ {a : Act} {w : World}, Here V base w0 t s a w → (∀ a' w', Here V base w0 t' s' a' w' → Q (AEx e) a' w') → wpL P Q l a w
  | [], t, t', s, s', e, h, a, w, hh, hQ => by
    simp only [codeAE, Option.some.injEq, Prod.mk.injEq] at h
    obtain ⟨rfl, rfl, rfl⟩ := h
    exact hQ a w hh
  | c :: l, t, t', s, s', e, h, a, w, hh, hQ => by
    simp only [codeAE] at h
    split at h
    · rename_i t1 s1 h1
      exact code_here hE hx 30 1000 h1 hh (fun a' w' h' => codeAE_ok hE hx l h h' hQ)
    · rename_i hno
      refine code_here hE hx 30 1000 h hh (fun a' w' h' => ?_)
      cases e with
      | normal => exact (hno _ _ h).elim
      | ret => exact hQ a' w' h'
      | exit id => exact hQ a' w' h'
/-- Does the rest return true? -/
noncomputable def endTrue (E : Env) (rs : List ResultVar) : Option (AE × Sl × St) → Bool
  | some (.ret, t, s) => (match resultsA E t s rs with | some [.c (.bool true)] => true | _ => false)
  | _ => false
theorem endTrue_ok {V : Nat → Value} {E : Env} (hE : EnvOK Tryz.prog V E) (hx : ExtOK Tryz.prog V E) {fn : Func} {w0 : World} {l : List Code} {t : Sl} {s : St} (h : endTrue E fn.results.toList (codeAE E l t s) = true) {a : Act} {w : World} (hh : Here V w0.heap.size w0 t s a w) : wpL Tryz.prog (LawQ fn w0) l a w := by
  unfold endTrue at h
  split at h
  · rename_i t' s' hr
    split at h
    · rename_i hres
      refine codeAE_ok hE hx l hr hh (fun a' w' h' => ?_)
      obtain ⟨ρ', ht', hr', _, _, _, hb, _⟩ := h'
      obtain ⟨vs, g1, g2⟩ := results_ok hE ht' hr' _ _ hres
      have hr2 : (results fn a'.tmps).run Tryz.prog w' = .ok (if h : vs.toArray.size = 1 then vs.toArray[0] else .tuple vs.toArray) w' := by
        unfold results
        rw [Array.mapM_eq_mapM_toList]
        simp only [Sem.run_bind, Sem.run_map, Sem.run_pure]
        generalize hX : Sem.run Tryz.prog (List.mapM _ fn.results.toList) w' = Y
        have hY : Y = .ok vs w' := hX.symm.trans g1
        rw [hY]
        simp only [Result.andThen_ok]
      have hv : vs = [.bool true] := by
        match vs, g2 with
        | [v], g2 => rw [show v = .bool true from g2.1]
      subst hv
      exact ⟨ht'.df, _, hr2, rfl, hb⟩
    · cases h
  · cases h
/-! ### A number within bounds gets a symbol -/
noncomputable def setAt : List AC → Nat → AC → List AC
  | [], _, _ => []
  | _ :: r, 0, v => v :: r
  | x :: r, n + 1, v => x :: setAt r n v
noncomputable def symAt (k i j : Nat) (s : St) : St := match look s.heap i with
  | some B => { s with heap := upd s.heap i { B with cells := setAt B.cells j (.sym k) } }
  | none => s
noncomputable def ivlAt (s : St) (i j : Nat) : Option (Int × Int) := match look s.heap i with
  | some B => (match B.cells[j]?, B.more with | some (.ivl .i64 lo hi), none => some (lo, hi) | _, _ => none)
  | none => none
noncomputable def withV (V : Nat → Value) (k : Nat) (v : Value) : Nat → Value := fun i => if i = k then v else V i
theorem f2_set {α β : Type} {R : α → β → Prop} {set : List α → Nat → α → List α} (h0 : ∀ x r v, set (x :: r) 0 v = v :: r) (h1 : ∀ x r n v, set (x :: r) (n + 1) v = x :: set r n v) (hn : ∀ n v, set [] n v = []) : ∀ {l : List α} {m : List β} (j : Nat) {x : α} {y : β}, F2 R l m → m[j]? = some y → R x y → F2 R (set l j x) m
  | a :: l, b :: m, 0, x, y, h, hy, hr => by
    rw [h0]
    injection hy with hy
    subst hy
    exact ⟨hr, h.2⟩
  | a :: l, b :: m, j + 1, x, y, h, hy, hr => by
    rw [h1]
    exact ⟨h.1, f2_set h0 h1 hn j h.2 (by simpa using hy) hr⟩
  | [], [], j, x, y, h, hy, hr => by rw [hn]; trivial
  | [], _ :: _, j, x, y, h, hy, hr => h.elim
  | _ :: _, [], j, x, y, h, hy, hr => h.elim
theorem here_sym {V : Nat → Value} {k i j : Nat} {lo hi : Int} {base : Nat} {w0 : World} {t : Sl} {s : St} {a : Act} {w : World} (hi' : ivlAt s i j = some (lo, hi)) (hft : freeT k t t.length = true) (hfh : freeH k s.heap = true) (hh : Here V base w0 t s a w) :
    ∃ x : Int, lo ≤ x ∧ x ≤ hi ∧ Here (withV V k (.int .i64 x)) base w0 t (symAt k i j s) a w := by
  obtain ⟨ρ, ht, hr, h1, h2, h3, h4, h5⟩ := hh
  unfold ivlAt at hi'
  split at hi'
  · rename_i B hB
    split at hi'
    · rename_i lo' hi'' hc hm
      simp only [Option.some.injEq, Prod.mk.injEq] at hi'
      obtain ⟨rfl, rfl⟩ := hi'
      obtain ⟨b, cs, g1, g2, pre, post, g3, g4, g5⟩ := hr.h i B hB
      obtain ⟨u, u1, x, x1, x2, rfl⟩ := f2_get g4 j hc
      have hV : ∀ m, m ≠ k → V m = withV V k (.int .i64 x) m := fun m hm => by unfold withV; rw [if_neg hm]
      have hr2 := rep_reV hV hfh hr
      refine ⟨x, x1, x2, ρ, tr_reV hV hft ht, ?_, ?_, ?_, h3, h4, h5⟩
      · have e : symAt k i j s = { s with heap := upd s.heap i { B with cells := setAt B.cells j (.sym k) } } := by
          unfold symAt
          rw [hB]
        rw [e]
        have hlk : ∀ m C, look (upd s.heap i { B with cells := setAt B.cells j (.sym k) }) m = some C → ∃ D, look s.heap m = some D := by
          intro m C hC
          rw [look_upd] at hC
          by_cases hm : m = i
          · rw [hm]
            exact ⟨B, hB⟩
          · rw [if_neg hm] at hC
            exact ⟨C, hC⟩
        refine ⟨?_, ?_, hr.bnd, ?_⟩
        · intro m C hC
          have hC : look (upd s.heap i { B with cells := setAt B.cells j (.sym k) }) m = some C := hC
          rw [look_upd] at hC
          by_cases hmi : m = i
          · subst hmi
            rw [if_pos rfl, hB] at hC
            simp only [Option.map_some, Option.some.injEq] at hC
            subst hC
            obtain ⟨b', cs', k1, k2, pre', post', k3, k4, k5⟩ := hr2.h m B hB
            rw [g1] at k1
            injection k1 with k1
            subst k1
            rw [g2] at k2
            injection k2 with k2
            injection k2 with k2
            subst k2
            have k5' : post' = [] := by
              unfold MR at k5
              rw [hm] at k5
              exact k5
            have g5' : post = [] := by
              unfold MR at g5
              rw [hm] at g5
              exact g5
            subst k5'
            subst g5'
            have epre : pre' = pre := by
              rw [g3] at k3
              simpa using k3.symm
            subst epre
            refine ⟨b, cs, g1, g2, pre', [], k3, ?_, ?_⟩
            · refine f2_set (set := setAt) (fun _ _ _ => rfl) (fun _ _ _ _ => rfl) (fun _ _ => rfl) j k4 u1 ?_
              show Value.int .i64 x = withV V k (.int .i64 x) k
              unfold withV
              rw [if_pos rfl]
            · unfold MR
              rw [hm]
          · rw [if_neg hmi] at hC
            exact hr2.h m C hC
        · intro m n C D c hC hD e1 e2
          obtain ⟨C', hC'⟩ := hlk m C hC
          obtain ⟨D', hD'⟩ := hlk n D hD
          exact hr.inj m n C' D' c hC' hD' e1 e2
        · intro m C hC
          obtain ⟨C', hC'⟩ := hlk m C hC
          exact hr.lt m C' hC'
      · intro m hm
        have e : (symAt k i j s).next = s.next := by unfold symAt; rw [hB]
        exact h1 m (by omega)
      · intro m hm
        have e : (symAt k i j s).ncap = s.ncap := by unfold symAt; rw [hB]
        exact h2 m (by omega)
    · cases hi'
  · cases hi'
end Ab
end Go.Proofs.YtbfppnppijcnlaaGreat
namespace Go.Proofs.YtbfppnppijcnlaaGreat
namespace Ab
open Go.RowKit
set_option linter.unusedVariables false
set_option linter.unusedSimpArgs false
--DEFS
inductive CS | old (i : Nat) | lit (a : Nat)
noncomputable def lkC : List (Nat × CS) → Nat → Option CS
  | [], _ => none
  | x :: r, i => bif Nat.beq x.1 i then some x.2 else lkC r i
/-- How a state is told anew. -/
structure Tell where
  f : List (Nat × Nat)
  fc : List (Nat × CS)
  src : Nat → Nat
  p : Nat → Bool
  lit : Nat → Option Int
  sy : List (Nat × AC) := []
noncomputable def lkS : List (Nat × AC) → Nat → Option AC
  | [], _ => none
  | x :: r, i => bif Nat.beq x.1 i then some x.2 else lkS r i
noncomputable def isTI : AC → Bool
  | .int _ _ => true
  | .tag _ _ => true
  | _ => false
/-- The same cell, of those that say all. -/
noncomputable def acEq : AC → AC → Bool
  | .int k a, .int k' b => decide (k = k') && (a == b)
  | .tag c i, .tag d j => Nat.beq c d && Nat.beq i j
  | _, _ => false
noncomputable def tS (T : Tell) (x : AC) (j : Nat) : Bool := match lkS T.sy j with | some y => acEq x y | none => false
noncomputable def tCap (T : Tell) : Cap → Cap → Bool
  | .lit a, .lit b => Nat.beq a b
  | .sym i, .sym j => match lkC T.fc j with | some (.old k) => Nat.beq k i | _ => false
  | .lit a, .sym j => match lkC T.fc j with | some (.lit k) => Nat.beq k a | _ => false
  | _, _ => false
noncomputable def tC (T : Tell) : AC → AC → Bool
  | _, .any => true
  | .int k a, .int k' b => decide (k = k') && (a == b)
  | .bool a, .bool b => a == b
  | .sym i, .sym j => T.p j && Nat.beq i (T.src j)
  | .int k a, .sym j => (decide (k = .i64) && (match T.lit j with | some b => a == b | none => false)) || tS T (.int k a) j
  | .tag c i, .sym j => tS T (.tag c i) j
  | .str a, .str b => decide (a.data.toList = b.data.toList)
  | .int .i64 a, .rng m => decide (0 ≤ a) && decide (a < (m : Int))
  | .nat _ m, .rng n => Nat.ble m n
  | .ptr none, .ptr none => true
  | .ptr (some (i, o)), .ptr (some (j, q)) => Nat.beq o q && isN (lkN T.f j) i
  | .slice none n c, .slice none m d => Nat.beq n m && tCap T c d
  | .slice (some (i, o)) n c, .slice (some (j, q)) m d => Nat.beq o q && (Nat.beq n m && (isN (lkN T.f j) i && tCap T c d))
  | .rng n, .rng m => Nat.ble n m
  | _, _ => false
noncomputable def tL (T : Tell) : List AC → List AC → Bool
  | [], [] => true
  | x :: r, y :: s => tC T x y && tL T r s
  | _, _ => false
noncomputable def tV (T : Tell) : AV → AV → Bool
  | _, .any => true
  | .one (.c x), .one (.c y) => tC T x y
  | .one (.agg l), .one (.agg m) => tL T l m
  | _, _ => false
noncomputable def tT (T : Tell) (t u : Sl) : Nat → Bool
  | 0 => true
  | d + 1 => tV T (lget t d) (lget u d) && tT T t u d
/-- The first cells. -/
noncomputable def tP (T : Tell) : List AC → List AC → Bool
  | _, [] => true
  | x :: r, y :: s => tC T x y && tP T r s
  | [], _ :: _ => false
noncomputable def tM (T : Tell) (B C : Blk) : Bool :=
  match B.more, C.more with
  | none, none => Nat.beq B.cells.length C.cells.length
  | none, some (d, z) => !(Nat.beq z 0) && (match lkC T.fc d with | some (.lit m) => Nat.beq B.cells.length (m * z) | _ => false)
  | some (c, z), some (d, y) => Nat.beq z y && (bif Nat.beq z 0 then Nat.beq c d && (C.cells.isEmpty && (T.p d && Nat.beq (T.src d) d)) else (match lkC T.fc d with | some (.old k) => Nat.beq k c | _ => false))
  | _, _ => false
noncomputable def tH (T : Tell) (H : List (Nat × Blk)) : List (Nat × Blk) → Bool
  | [] => true
  | x :: r => (match lkN T.f x.1 with
    | some i => (match look H i with
      | some B => Nat.beq B.ty x.2.ty && (tP T B.cells x.2.cells && tM T B x.2)
      | none => false)
    | none => false) && tH T H r
noncomputable def allLtC (n : Nat) : List (Nat × CS) → Bool
  | [] => true
  | x :: r => Nat.blt x.1 n && allLtC n r
noncomputable def retOK (T : Tell) (t : Sl) (s : St) (u : Sl) (r : St) : Bool :=
  Nat.beq t.length u.length && (tT T t u u.length && (tH T s.heap r.heap && (noDup (T.f.map (·.2)) && (allLt r.next T.f && allLtC r.ncap T.fc))))
--END
noncomputable def Rho.tell (ρ : Rho) (T : Tell) : Rho := ⟨fun j => (lkN T.f j).bind ρ.blk, fun j => match lkC T.fc j with | some (.old i) => ρ.cap i | some (.lit a) => some a | none => none⟩
section
variable {V V' : Nat → Value} {T : Tell}
theorem tCap_ok {ρ : Rho} : ∀ {c d : Cap} {m : Nat}, tCap T c d = true → CapR ρ c m → CapR (ρ.tell T) d m
  | .lit a, .lit b, m, h, hc => by
    have e := Nat.eq_of_beq_eq_true h
    subst e
    exact hc
  | .sym i, .sym j, m, h, hc => by
    have h : (match lkC T.fc j with | some (.old k) => Nat.beq k i | _ => false) = true := h
    show (match lkC T.fc j with | some (.old i) => ρ.cap i | some (.lit a) => some a | none => none) = some m
    split at h
    · rename_i k hk
      have e := Nat.eq_of_beq_eq_true h
      subst e
      rw [hk]
      exact hc
    · cases h
  | .lit a, .sym j, m, h, hc => by
    have h : (match lkC T.fc j with | some (.lit k) => Nat.beq k a | _ => false) = true := h
    show (match lkC T.fc j with | some (.old i) => ρ.cap i | some (.lit a) => some a | none => none) = some m
    split at h
    · rename_i k hk
      have e := Nat.eq_of_beq_eq_true h
      subst e
      rw [hk]
      have hc : m = k := hc
      rw [hc]
    · cases h
theorem tS_ok {ρ : Rho} (hS : ∀ j x v, lkS T.sy j = some x → isTI x = true → CR V ρ x v → v = V' j) {x : AC} {j : Nat} {v : Value} (h : tS T x j = true) (hx : CR V ρ x v) : v = V' j := by
  unfold tS at h
  split at h
  · rename_i y hy
    unfold acEq at h
    split at h
    · simp only [Bool.and_eq_true, decide_eq_true_eq, beq_iff_eq] at h
      obtain ⟨rfl, rfl⟩ := h
      exact hS j _ v hy rfl hx
    · simp only [Bool.and_eq_true] at h
      have e1 := Nat.eq_of_beq_eq_true h.1
      have e2 := Nat.eq_of_beq_eq_true h.2
      subst e1
      subst e2
      exact hS j _ v hy rfl hx
    · cases h
  · cases h
theorem tC_ok (hone : ∀ i, (V i).oneCell' = true) (hV : ∀ j, T.p j = true → V' j = V (T.src j)) (hL : ∀ j b, T.lit j = some b → V' j = .int .i64 b) {ρ : Rho} (hS : ∀ j x v, lkS T.sy j = some x → isTI x = true → CR V ρ x v → v = V' j) {x y : AC} {v : Value} (h : tC T x y = true) (hx : CR V ρ x v) : CR V' (ρ.tell T) y v := by
  unfold tC at h
  split at h
  · exact hx.one V hone
  · simp only [Bool.and_eq_true, decide_eq_true_eq, beq_iff_eq] at h
    obtain ⟨rfl, rfl⟩ := h
    exact hx
  · simp only [beq_iff_eq] at h
    subst h
    exact hx
  · rename_i i j
    simp only [Bool.and_eq_true] at h
    have e := Nat.eq_of_beq_eq_true h.2
    show v = V' j
    rw [hV j h.1, ← e]
    exact hx
  · rename_i k a j
    simp only [Bool.or_eq_true, Bool.and_eq_true, decide_eq_true_eq] at h
    rcases h with ⟨rfl, h⟩ | h
    · split at h
      · rename_i b hb
        simp only [beq_iff_eq] at h
        subst h
        show v = V' j
        rw [hL j _ hb]
        exact hx
      · cases h
    · exact tS_ok hS h hx
  · exact tS_ok hS h hx
  · rename_i a b
    have h : a.data.toList = b.data.toList := of_decide_eq_true h
    have e : a = b := by
      cases a
      cases b
      simp only at h
      rw [Array.ext' h]
    subst e
    exact hx
  · rename_i a m
    simp only [Bool.and_eq_true, decide_eq_true_eq] at h
    have hx : v = .int .i64 a := hx
    exact ⟨a.toNat, by omega, by rw [hx, Int.toNat_of_nonneg h.1]⟩
  · rename_i c m n
    have e := Nat.le_of_ble_eq_true h
    obtain ⟨k, k1, k2, k3⟩ := hx
    exact ⟨k, by omega, k3⟩
  · exact hx
  · simp only [Bool.and_eq_true] at h
    have e1 := Nat.eq_of_beq_eq_true h.1
    have e2 := isN_eq h.2
    subst e1
    obtain ⟨b, h1, h2⟩ := hx
    exact ⟨b, by show (lkN T.f _).bind ρ.blk = some b; rw [e2]; exact h1, h2⟩
  · simp only [Bool.and_eq_true] at h
    have e1 := Nat.eq_of_beq_eq_true h.1
    subst e1
    obtain ⟨m, h1, h2, h3⟩ := hx
    exact ⟨m, tCap_ok h.2 h1, h2, h3⟩
  · simp only [Bool.and_eq_true] at h
    obtain ⟨e1, e2, e3, e4⟩ := h
    have e1 := Nat.eq_of_beq_eq_true e1
    have e2 := Nat.eq_of_beq_eq_true e2
    have e3 := isN_eq e3
    subst e1
    subst e2
    obtain ⟨b, m, h1, h2, h3, h4⟩ := hx
    exact ⟨b, m, by show (lkN T.f _).bind ρ.blk = some b; rw [e3]; exact h1, tCap_ok e4 h2, h3, h4⟩
  · have e := Nat.le_of_ble_eq_true h
    obtain ⟨n, h1, h2⟩ := hx
    exact ⟨n, by omega, h2⟩
  · cases h
theorem tL_ok (hone : ∀ i, (V i).oneCell' = true) (hV : ∀ j, T.p j = true → V' j = V (T.src j)) (hL : ∀ j b, T.lit j = some b → V' j = .int .i64 b) {ρ : Rho} (hS : ∀ j x v, lkS T.sy j = some x → isTI x = true → CR V ρ x v → v = V' j) : ∀ {x y : List AC} {v : List Value}, tL T x y = true → F2 (CR V ρ) x v → F2 (CR V' (ρ.tell T)) y v
  | [], [], [], _, _ => trivial
  | x :: r, y :: s, v :: vs, h, hx => by
    simp only [tL, Bool.and_eq_true] at h
    exact ⟨tC_ok hone hV hL hS h.1 hx.1, tL_ok hone hV hL hS h.2 hx.2⟩
  | [], _ :: _, _, h, _ => by cases h
  | _ :: _, [], _, h, _ => by cases h
  | [], [], _ :: _, _, h => h.elim
  | _ :: _, _ :: _, [], _, h => h.elim
theorem tP_ok (hone : ∀ i, (V i).oneCell' = true) (hV : ∀ j, T.p j = true → V' j = V (T.src j)) (hL : ∀ j b, T.lit j = some b → V' j = .int .i64 b) {ρ : Rho} (hS : ∀ j x v, lkS T.sy j = some x → isTI x = true → CR V ρ x v → v = V' j) : ∀ {x y : List AC} {v : List Value}, tP T x y = true → F2 (CR V ρ) x v → ∃ a b, v = a ++ b ∧ F2 (CR V' (ρ.tell T)) y a
  | x, [], v, _, _ => ⟨[], v, rfl, trivial⟩
  | x :: r, y :: s, v :: vs, h, hx => by
    simp only [tP, Bool.and_eq_true] at h
    obtain ⟨a, b, e, k⟩ := tP_ok hone hV hL hS h.2 hx.2
    exact ⟨v :: a, b, by rw [e]; rfl, tC_ok hone hV hL hS h.1 hx.1, k⟩
  | [], _ :: _, _, h, _ => by cases h
  | _ :: _, _ :: _, [], _, h => h.elim
theorem tV_ok (hone : ∀ i, (V i).oneCell' = true) (hV : ∀ j, T.p j = true → V' j = V (T.src j)) (hL : ∀ j b, T.lit j = some b → V' j = .int .i64 b) {ρ : Rho} (hS : ∀ j x v, lkS T.sy j = some x → isTI x = true → CR V ρ x v → v = V' j) {x y : AV} {v : Value} (h : tV T x y = true) (hx : VR V ρ x v) : VR V' (ρ.tell T) y v := by
  unfold tV at h
  split at h
  · exact trivial
  · exact tC_ok hone hV hL hS h hx
  · obtain ⟨cs, h1, h2⟩ := hx
    exact ⟨cs, h1, tL_ok hone hV hL hS h h2⟩
  · cases h
theorem tT_ok {t u : Sl} : ∀ {n : Nat}, tT T t u n = true → ∀ d, d < n → tV T (lget t d) (lget u d) = true
  | n + 1, h, d, hd => by
    simp only [tT, Bool.and_eq_true] at h
    by_cases e : d = n
    · rw [e]
      exact h.1
    · exact tT_ok h.2 d (by omega)
theorem tH_ok {H : List (Nat × Blk)} : ∀ {G : List (Nat × Blk)}, tH T H G = true → ∀ j C, look G j = some C → ∃ i B, lkN T.f j = some i ∧ look H i = some B ∧ B.ty = C.ty ∧ tP T B.cells C.cells = true ∧ tM T B C = true
  | [], _, j, C, h => by cases h
  | x :: r, h, j, C, hC => by
    simp only [tH, Bool.and_eq_true] at h
    rw [look_cons] at hC
    by_cases e : x.1 = j
    · rw [if_pos e, Option.some.injEq] at hC
      subst hC
      subst e
      obtain ⟨h1, _⟩ := h
      split at h1
      · rename_i i hi
        split at h1
        · rename_i B hB
          simp only [Bool.and_eq_true] at h1
          exact ⟨i, B, hi, hB, Nat.eq_of_beq_eq_true h1.1, h1.2.1, h1.2.2⟩
        · cases h1
      · cases h1
    · rw [if_neg e] at hC
      exact tH_ok h.2 j C hC
theorem lkC_mem : ∀ {f : List (Nat × CS)} {j : Nat} {i : CS}, lkC f j = some i → (j, i) ∈ f
  | x :: r, j, i, h => by
    simp only [lkC] at h
    by_cases e : x.1 = j
    · subst e
      simp only [Nat.beq_refl, cond_true, Option.some.injEq] at h
      subst h
      simp
    · simp only [beq_no e, cond_false] at h
      exact List.mem_cons_of_mem _ (lkC_mem h)
theorem allLtC_ok {n : Nat} : ∀ {f : List (Nat × CS)}, allLtC n f = true → ∀ x ∈ f, x.1 < n
  | x :: r, h, y, hy => by
    simp only [allLtC, Bool.and_eq_true] at h
    cases hy with
    | head =>
      have := Nat.le_of_ble_eq_true (show Nat.ble (x.1 + 1) n = true from h.1)
      omega
    | tail _ hy => exact allLtC_ok h.2 y hy
theorem f2_len {α β : Type} {R : α → β → Prop} : ∀ {l : List α} {m : List β}, F2 R l m → l.length = m.length
  | [], [], _ => rfl
  | _ :: r, _ :: s, h => by simp [f2_len h.2]
  | [], _ :: _, h => h.elim
  | _ :: _, [], h => h.elim
theorem tell_all (hone : ∀ i, (V i).oneCell' = true) (hV : ∀ j, T.p j = true → V' j = V (T.src j)) (hL : ∀ j b, T.lit j = some b → V' j = .int .i64 b) {t u : Sl} {s r : St} {a : Act} {w : World} {ρ : Rho} (hS : ∀ j x v, lkS T.sy j = some x → isTI x = true → CR V ρ x v → v = V' j) (h : retOK T t s u r = true) (ht : TR V ρ t a) (hr : Rep V ρ s w) :
    TR V' (ρ.tell T) u a ∧ Rep V' (ρ.tell T) r w ∧ (∀ i, r.next ≤ i → (ρ.tell T).blk i = none) ∧ (∀ i, r.ncap ≤ i → (ρ.tell T).cap i = none) ∧ ∀ j b, (ρ.tell T).blk j = some b → ∃ i, lkN T.f j = some i ∧ ρ.blk i = some b := by
  unfold retOK at h
  simp only [Bool.and_eq_true] at h
  obtain ⟨h1, h2, h3, h4, h6, h7⟩ := h
  have h1 := Nat.eq_of_beq_eq_true h1
  have hlt : ∀ j i, lkN T.f j = some i → j < r.next := fun j i hj => allLt_ok h6 _ (lkN_mem hj)
  have hltc : ∀ j i, lkC T.fc j = some i → j < r.ncap := fun j i hj => allLtC_ok h7 _ (lkC_mem hj)
  have hblk : ∀ j b, (ρ.tell T).blk j = some b → ∃ i, lkN T.f j = some i ∧ ρ.blk i = some b := by
    intro j b hb
    have hb : (lkN T.f j).bind ρ.blk = some b := hb
    cases hj : lkN T.f j with
    | none => rw [hj] at hb; cases hb
    | some i => rw [hj] at hb; exact ⟨i, rfl, hb⟩
  refine ⟨⟨by rw [ht.z, h1], fun d => ?_, ht.df⟩, ⟨?_, ?_, ?_, ?_⟩, ?_, ?_, hblk⟩
  · by_cases hd : d < u.length
    · exact tV_ok hone hV hL hS (tT_ok h2 d hd) (ht.v d)
    · have := ht.v d
      rw [lget_far (by omega)] at this
      rw [lget_far hd]
      exact this
  · intro j C hC
    obtain ⟨i, B, k1, k2, k3, k4, k5⟩ := tH_ok h3 j C hC
    obtain ⟨b, cs, q1, q2, pre, post, q3, q4, q5⟩ := hr.h i B k2
    obtain ⟨pa, pb, e1, e2⟩ := tP_ok hone hV hL hS k4 q4
    refine ⟨b, cs, by show (lkN T.f j).bind ρ.blk = some b; rw [k1]; exact q1, by rw [← k3]; exact q2, pa, pb ++ post, by rw [q3, e1, List.append_assoc], e2, ?_⟩
    have l1 := f2_len q4
    have l2 := f2_len e2
    have l3 : cs.size = pre.length + post.length := by rw [← Array.length_toList, q3, List.length_append]
    have l4 : pre.length = pa.length + pb.length := by rw [e1, List.length_append]
    unfold tM at k5
    unfold MR at q5 ⊢
    split at k5
    · rename_i hm1 hm2
      rw [hm1] at q5
      rw [hm2]
      have := Nat.eq_of_beq_eq_true k5
      have q5 : post = [] := q5
      subst q5
      have : pb = [] := List.eq_nil_of_length_eq_zero (by omega)
      rw [this]
      rfl
    · rename_i d z hm1 hm2
      rw [hm1] at q5
      rw [hm2]
      have q5 : post = [] := q5
      subst q5
      simp only [Bool.and_eq_true, Bool.not_eq_true'] at k5
      obtain ⟨kz, k5⟩ := k5
      split at k5
      · rename_i m hm
        have hz : z ≠ 0 := by
          intro e
          subst e
          cases kz
        simp only [if_neg hz]
        refine ⟨m, ?_, ?_⟩
        · unfold Rho.tell
          simp only [hm]
        · have := Nat.eq_of_beq_eq_true k5
          rw [← this, l3, l1]
          simp
      · cases k5
    · rename_i c z d y hm1 hm2
      rw [hm1] at q5
      rw [hm2]
      simp only [Bool.and_eq_true] at k5
      have e3 := Nat.eq_of_beq_eq_true k5.1
      subst e3
      by_cases hz : z = 0
      · subst hz
        have k5 : (Nat.beq c d && (C.cells.isEmpty && (T.p d && Nat.beq (T.src d) d))) = true := k5.2
        simp only [Bool.and_eq_true] at k5
        have e4 := Nat.eq_of_beq_eq_true k5.1
        subst e4
        simp only [if_pos] at q5 ⊢
        obtain ⟨p1, p2⟩ := q5
        refine ⟨List.isEmpty_iff.1 k5.2.1, ?_⟩
        rw [hV c k5.2.2.1, Nat.eq_of_beq_eq_true k5.2.2.2]
        exact p2
      · simp only [beq_no hz, cond_false] at k5
        simp only [if_neg hz] at q5 ⊢
        obtain ⟨m, p1, p2⟩ := q5
        refine ⟨m, ?_, p2⟩
        have k5 := k5.2
        split at k5
        · rename_i k hk
          have e4 := Nat.eq_of_beq_eq_true k5
          subst e4
          unfold Rho.tell
          simp only [hk]
          exact p1
        · cases k5
    · cases k5
  · intro i j C D b hC hD hi hj
    obtain ⟨i', B, k1, k2, _⟩ := tH_ok h3 i C hC
    obtain ⟨j', B', k1', k2', _⟩ := tH_ok h3 j D hD
    obtain ⟨i2, e1, e2⟩ := hblk i b hi
    obtain ⟨j2, e3, e4⟩ := hblk j b hj
    rw [k1] at e1
    rw [k1'] at e3
    injection e1 with e1
    injection e3 with e3
    subst e1
    subst e3
    have := hr.inj i' j' B B' b k2 k2' e2 e4
    subst this
    exact noDup_inj h4 i j i' (lkN_mem k1) (lkN_mem k1')
  · intro j b hb
    obtain ⟨i, _, e⟩ := hblk j b hb
    exact hr.bnd i b e
  · intro j C hC
    obtain ⟨i, B, k1, _⟩ := tH_ok h3 j C hC
    exact hlt j i k1
  · intro j hj
    cases hb : (ρ.tell T).blk j with
    | none => rfl
    | some b =>
      obtain ⟨i, e, _⟩ := hblk j b hb
      have := hlt j i e
      omega
  · intro j hj
    cases hb : lkC T.fc j with
    | none =>
      unfold Rho.tell
      simp only [hb]
    | some i =>
      have := hltc j i hb
      omega
theorem hereK_tell (hsy : T.sy = []) (hone : ∀ i, (V i).oneCell' = true) (hV : ∀ j, T.p j = true → V' j = V (T.src j)) (hL : ∀ j b, T.lit j = some b → V' j = .int .i64 b) {DK : Nat → Prop} {wK : World} {base : Nat} {w0 : World} {t u : Sl} {s r : St} {a : Act} {w : World} (h : retOK T t s u r = true) (hh : HereK DK wK V base w0 t s a w) : HereK DK wK V' base w0 u r a w := by
  obtain ⟨ρ, ht, hr, g1, g2, g3, g4, g5, gk⟩ := hh
  obtain ⟨k1, k2, k3, k4, k5⟩ := tell_all hone hV hL (fun j x v e => by rw [hsy] at e; cases e) h ht hr
  refine ⟨ρ.tell T, k1, k2, k3, k4, fun j b hb => ?_, g4, g5, gk.lt, gk.eq, fun b hb j e => ?_⟩
  · obtain ⟨i, _, e⟩ := k5 j b hb
    exact g3 i b e
  · obtain ⟨i, _, e⟩ := k5 j b e
    exact gk.no b hb i e
end
section
variable {P : Program} {V : Nat → Value} {E : Env} {DK : Nat → Prop} {wK : World}
theorem hereK_goes {base : Nat} {w0 w w' : World} {ρ ρ' : Rho} {t' : Sl} {s s' : St} {a' : Act} (hr : Rep V ρ s w) (h1 : ∀ i, s.next ≤ i → ρ.blk i = none) (h2 : ∀ i, s.ncap ≤ i → ρ.cap i = none) (h3 : ∀ i b, ρ.blk i = some b → base ≤ b) (h4 : RowKit.Below base w0 w) (h5 : base ≤ w.heap.size) (hk : KP DK wK ρ w)
    (hg : Goes V ρ s w s' w' ρ') (ht : TR V ρ' t' a') : HereK DK wK V base w0 t' s' a' w' := by
  obtain ⟨g1, g2, g3⟩ := hg
  refine ⟨ρ', ht, g1, fun i hi => ?_, fun i hi => ?_, fun i b hb => ?_, h4.trans ⟨g2.os, g2.tape, g2.out, g2.size, fun k hk => g2.fr k (by omega) (fun i _ _ e => ?_)⟩, Nat.le_trans h5 g2.size, hk.ext g2⟩
  · rw [g2.blk i (.inr hi)]
    exact h1 i (Nat.le_trans g2.n hi)
  · rw [g2.cap i (.inr hi)]
    exact h2 i (Nat.le_trans g2.c hi)
  · by_cases hi : i < s.next ∨ s'.next ≤ i
    · rw [g2.blk i hi] at hb
      exact h3 i b hb
    · rcases g2.new i b (by omega) (by omega) hb with h | ⟨j, _, _, h⟩
      · omega
      · exact h3 j b h
  · have := h3 i k e
    omega
theorem code_hereK (hE : EnvOK P V E) (hx : ExtOKK DK wK P V E) (m n : Nat) {c : Code} {t t' : Sl} {s s' : St} {e : AE} (h : codeA E (fnA E m) (drawA E (fnA E m)) n c t s = some (e, t', s')) {base : Nat} {w0 : World} {a : Act} {w : World} (hh : HereK DK wK V base w0 t s a w)
    {Q : Exit → Act → World → Prop} (hQ : ∀ a' w', HereK DK wK V base w0 t' s' a' w' → Q (AEx e) a' w') : c.wp P Q a w := by
  obtain ⟨ρ, ht, hr, h1, h2, h3, h4, h5, hk⟩ := hh
  have hc := fnA_okK hE hx m
  have hf := fnA_fnK hx.fn m
  have hu := fnA_up (E := E) hx.up m
  refine (code_okK hE hc hf hu (draw_okK hE hc hf hu) (drawA_up hu) n).1 c h ht hr ⟨fun i hi _ => h1 i hi, fun i hi _ => h2 i hi⟩ hk Q ?_
  intro ρ' a' w' hg ht'
  exact hQ a' w' (hereK_goes hr h1 h2 h3 h4 h5 hk hg ht')
theorem codeALK_ok (hE : EnvOK P V E) (hx : ExtOKK DK wK P V E) {base : Nat} {w0 : World} {Q : Exit → Act → World → Prop} {r : List Code} : ∀ (l : List Code) {t t' : Sl} {s s' : St}, codeAL E l t s = some (t', s') → ∀ {a : Act} {w : World}, HereK DK wK V base w0 t s a w → (∀ a' w', HereK DK wK V base w0 t' s' a' w' → wpL P Q r a' w') → wpL P Q (l ++ r) a w
  | [], t, t', s, s', h, a, w, hh, hQ => by
    simp only [codeAL, Option.some.injEq, Prod.mk.injEq] at h
    obtain ⟨rfl, rfl⟩ := h
    exact hQ a w hh
  | c :: l, t, t', s, s', h, a, w, hh, hQ => by
    simp only [codeAL] at h
    split at h
    · rename_i t1 s1 h1
      show wpL P Q (c :: (l ++ r)) a w
      exact code_hereK hE hx 30 1000 h1 hh (fun a' w' h' => codeALK_ok hE hx l h h' hQ)
    · cases h
/-- A slot that holds a number below m holds one of these. -/
theorem hereK_rng {base m d : Nat} {w0 : World} {t : Sl} {s : St} {a : Act} {w : World} (hd : lget t d = .one (.c (.rng m))) (hh : HereK DK wK V base w0 t s a w) : ∃ r : Nat, r < m ∧ HereK DK wK V base w0 (lset t d (.one (.c (.int .i64 r)))) s a w := by
  obtain ⟨ρ, ht, rest⟩ := hh
  have hv := ht.v d
  rw [hd] at hv
  obtain ⟨r, hr, hv⟩ := hv
  refine ⟨r, hr, ρ, ⟨by rw [ht.z, lset_length], fun e => ?_, ht.df⟩, rest⟩
  rw [lget_lset]
  by_cases hde : e = d ∧ d < t.length
  · rw [if_pos hde, hde.1]
    exact hv
  · rw [if_neg hde]
    exact ht.v e
end
end Ab
end Go.Proofs.YtbfppnppijcnlaaGreat
namespace Go.Proofs.YtbfppnppijcnlaaGreat
namespace Ab
open Go.RowKit
set_option linter.unusedVariables false
set_option linter.unusedSimpArgs false
--DEFS
/-- A term, its values cells. -/
inductive TS | mk (o : Int) (v : AC) (l : List TS)
noncomputable def fitsB (n : Int) : Bool := decide (-9223372036854775808 ≤ n) && decide (n ≤ 9223372036854775807)
/-- A number, or a symbol that stands for one. -/
noncomputable def isV (isN : Nat → Bool) : AC → Bool
  | .int .i64 n => fitsB n
  | .sym j => isN j
  | _ => false
noncomputable def rdL (f : List AC → Option TS) : List AC → Option (List TS)
  | [] => some []
  | a :: b :: c :: r => (match f [a, b, c] with | some t => (match rdL f r with | some l => some (t :: l) | none => none) | none => none)
  | _ => none
/-- A term, from what is told. -/
noncomputable def rdT (isN : Nat → Bool) (H : List (Nat × Blk)) : Nat → List AC → Option TS
  | 0, _ => none
  | n + 1, l => match l with
    | [.int .i64 o, v, .slice none 0 _] => bif fitsB o && isV isN v then some (.mk o v []) else none
    | [.int .i64 o, v, .slice (some (i, off)) m _] => bif fitsB o && (isV isN v && Nat.ble m 1000) then (match look H i with
      | some B => (match sub B.cells off (m * 3) with
        | some cs => (match rdL (rdT isN H n) cs with | some l => some (.mk o v l) | none => none)
        | none => none)
      | none => none) else none
    | _ => none
mutual
noncomputable def nodesS : TS → Nat
  | .mk _ _ l => 1 + nodesSL l
noncomputable def nodesSL : List TS → Nat
  | [] => 0
  | t :: r => nodesS t + nodesSL r
end
mutual
noncomputable def depthS : TS → Nat
  | .mk _ _ l => 1 + depthSL l
noncomputable def depthSL : List TS → Nat
  | [] => 0
  | t :: r => Nat.max (depthS t) (depthSL r)
end
noncomputable def isZero : AC → Bool
  | .int _ 0 => true
  | _ => false
noncomputable def isPos : AC → Bool
  | .int _ n => decide (0 ≤ n)
  | _ => false
/-- Two names in their order. -/
noncomputable def ordN : List TS → Bool
  | [.mk a (.int _ x) [], .mk b (.int _ y) []] => decide (a = b) && decide (x ≤ y)
  | _ => false
noncomputable def formS (o : Int) (v : AC) (l : List TS) : Bool :=
  match o with
  | 1 => l.isEmpty
  | 2 => l.isEmpty && isPos v
  | 3 => isZero v
  | 4 => Nat.beq l.length 1 && isZero v
  | 5 => Nat.beq l.length 2 && (isZero v && ordN l)
  | 6 => isPos v
  | 7 => Nat.beq l.length 2 && isZero v
  | 8 => Nat.beq l.length 1 && isPos v
  | 9 => l.isEmpty && isPos v
  | 10 => l.isEmpty && isPos v
  | _ => false
mutual
noncomputable def formsS : TS → Bool
  | .mk o v l => formsSL l && formS o v l
noncomputable def formsSL : List TS → Bool
  | [] => true
  | t :: r => formsS t && formsSL r
end
noncomputable def validS (t : TS) : Bool := Nat.ble (nodesS t) 600 && (Nat.ble (depthS t) 60 && formsS t)
noncomputable def eqV : AC → AC → Option Bool
  | .int _ a, .int _ b => some (a == b)
  | .sym i, .sym j => bif Nat.beq i j then some true else none
  | _, _ => none
noncomputable def andO : Option Bool → Option Bool → Option Bool
  | some false, _ => some false
  | _, some false => some false
  | some true, some true => some true
  | _, _ => none
mutual
noncomputable def eqS : TS → TS → Option Bool
  | .mk o v l, .mk o' v' l' => andO (some (o == o')) (andO (eqV v v') (eqSL l l'))
noncomputable def eqSL : List TS → List TS → Option Bool
  | [], [] => some true
  | t :: r, u :: s => andO (eqS t u) (eqSL r s)
  | _, _ => some false
end
--END
noncomputable def ival (V : Nat → Value) : AC → Int
  | .int _ n => n
  | .sym j => (match V j with | .int _ n => n | _ => 0)
  | _ => 0
mutual
noncomputable def toTm (V : Nat → Value) : TS → Tm
  | .mk o v l => .mk o (ival V v) (toTmL V l)
noncomputable def toTmL (V : Nat → Value) : List TS → List Tm
  | [] => []
  | t :: r => toTm V t :: toTmL V r
end
theorem toTmL_len (V : Nat → Value) : ∀ l : List TS, (toTmL V l).length = l.length
  | [] => rfl
  | t :: r => by simp [toTmL, toTmL_len V r]
section
variable {V : Nat → Value} {isN : Nat → Bool}
theorem fitsB_ok {n : Int} (h : fitsB n = true) : fits n := by
  unfold fitsB at h
  simp only [Bool.and_eq_true, decide_eq_true_eq] at h
  exact h
theorem isV_ok (hN : ∀ j, isN j = true → ∃ x, V j = .int .i64 x ∧ fits x) {v : AC} {ρ : Rho} {u : Value} (h : isV isN v = true) (hu : CR V ρ v u) : u = .int .i64 (ival V v) ∧ fits (ival V v) := by
  unfold isV at h
  split at h
  · exact ⟨hu, fitsB_ok h⟩
  · rename_i j
    obtain ⟨x, h1, h2⟩ := hN j h
    have hu : u = V j := hu
    have e : ival V (.sym j) = x := by
      show (match V j with | .int _ n => n | _ => 0) = x
      rw [h1]
    exact ⟨by rw [hu, h1, e], by rw [e]; exact h2⟩
  · cases h
/-- What rdL reads. -/
theorem rdL_ok {f : List AC → Option TS} {Q : TS → List Value → Prop} {V : Nat → Value} {ρ : Rho} (hf : ∀ cells ts, f cells = some ts → ∀ vs, F2 (CR V ρ) cells vs → Q ts vs) : ∀ (l : List AC) (ts : List TS), rdL f l = some ts → ∀ vs, F2 (CR V ρ) l vs →
    l.length = 3 * ts.length ∧ ∀ i t, ts[i]? = some t → ∃ a b c, vs[3 * i]? = some a ∧ vs[3 * i + 1]? = some b ∧ vs[3 * i + 2]? = some c ∧ Q t [a, b, c]
  | [], ts, h, vs, hv => by
    simp only [rdL, Option.some.injEq] at h
    subst h
    exact ⟨rfl, fun i t ht => by simp at ht⟩
  | [_], ts, h, vs, hv => by simp [rdL] at h
  | [_, _], ts, h, vs, hv => by simp [rdL] at h
  | a :: b :: c :: r, ts, h, vs, hv => by
    simp only [rdL] at h
    split at h
    · rename_i t ht
      split at h
      · rename_i l hl
        injection h with h
        subst h
        match vs, hv with
        | x :: y :: z :: vs, hv =>
          obtain ⟨h1, h2, h3, h4⟩ := hv
          obtain ⟨g1, g2⟩ := rdL_ok hf r l hl vs h4
          refine ⟨by simp only [List.length_cons]; omega, fun i t' ht' => ?_⟩
          match i with
          | 0 =>
            simp only [List.getElem?_cons_zero, Option.some.injEq] at ht'
            subst ht'
            exact ⟨x, y, z, rfl, rfl, rfl, hf _ _ ht [x, y, z] ⟨h1, h2, h3, trivial⟩⟩
          | i + 1 =>
            obtain ⟨a', b', c', k1, k2, k3, k4⟩ := g2 i t' (by simpa using ht')
            refine ⟨a', b', c', ?_, ?_, ?_, k4⟩
            · rw [show 3 * (i + 1) = 3 * i + 1 + 1 + 1 by omega]
              simpa using k1
            · rw [show 3 * (i + 1) + 1 = 3 * i + 1 + 1 + 1 + 1 by omega]
              simpa using k2
            · rw [show 3 * (i + 1) + 2 = 3 * i + 2 + 1 + 1 + 1 by omega]
              simpa using k3
      · cases h
    · cases h
theorem toTmL_get : ∀ {l : List TS} {i : Nat} (h : i < (toTmL V l).length), ∃ t, l[i]? = some t ∧ (toTmL V l)[i] = toTm V t
  | t :: r, 0, h => ⟨t, rfl, rfl⟩
  | t :: r, i + 1, h => by
    obtain ⟨u, h1, h2⟩ := toTmL_get (l := r) (i := i) (by simpa [toTmL] using h)
    exact ⟨u, by simpa using h1, by simpa [toTmL] using h2⟩
  | [], i, h => by simp [toTmL] at h
theorem rdT_ok (hN : ∀ j, isN j = true → ∃ x, V j = .int .i64 x ∧ fits x) {ρ : Rho} {s : St} {w : World} (hr : Rep V ρ s w) : ∀ (n : Nat) (l : List AC) (ts : TS), rdT isN s.heap n l = some ts → ∀ vs, F2 (CR V ρ) l vs →
    ∃ A c, vs = [.int .i64 (toTm V ts).op, .int .i64 (toTm V ts).val, .slice A (toTm V ts).args.length c] ∧ Tr w (toTm V ts) A c
  | 0, l, ts, h, vs, hv => by simp [rdT] at h
  | n + 1, l, ts, h, vs, hv => by
    simp only [rdT] at h
    split at h
    · rename_i o v c
      cases hb : (fitsB o && isV isN v)
      · simp [hb] at h
      · simp only [hb, cond_true, Option.some.injEq] at h
        subst h
        simp only [Bool.and_eq_true] at hb
        match vs, hv with
        | [x, y, z], hv =>
          obtain ⟨h1, h2, ⟨m, _, _, h3⟩, _⟩ := hv
          have h1 : x = .int .i64 o := h1
          obtain ⟨h2, h2'⟩ := isV_ok hN hb.2 h2
          refine ⟨none, m, by rw [h1, h2, h3]; rfl, ?_⟩
          exact Tr.leaf w o _ none m (fitsB_ok hb.1) h2'
    · rename_i o v i off m c
      cases hb : (fitsB o && (isV isN v && Nat.ble m 1000))
      · simp [hb] at h
      · simp only [hb, cond_true] at h
        simp only [Bool.and_eq_true] at hb
        obtain ⟨hb1, hb2, hb3⟩ := hb
        have hb3 := Nat.le_of_ble_eq_true hb3
        split at h
        · rename_i B hB
          split at h
          · rename_i cs hcs
            split at h
            · rename_i l' hl'
              injection h with h
              subst h
              match vs, hv with
              | [x, y, z], hv =>
                obtain ⟨h1, h2, ⟨b, mc, hbk, hcap, hle, h3⟩, _⟩ := hv
                have h1 : x = .int .i64 o := h1
                obtain ⟨h2, h2'⟩ := isV_ok hN hb2 h2
                obtain ⟨ds, g1, g2, g3⟩ := load_sub V hr hB hbk hcs
                obtain ⟨k1, k2⟩ := rdL_ok (Q := fun ts vs => ∃ A c, vs = [.int .i64 (toTm V ts).op, .int .i64 (toTm V ts).val, .slice A (toTm V ts).args.length c] ∧ Tr w (toTm V ts) A c) (fun cells ts' h' vs' hv' => rdT_ok hN hr n cells ts' h' vs' hv') cs l' hl' ds g2
                have hlen : cs.length = m * 3 := by
                  rw [f2_len g2, g1]
                have hml : l'.length = m := by omega
                have hel : ∀ i (h : i < (toTmL V l').length), ∃ A c, ds[3 * i]? = some (.int .i64 ((toTmL V l')[i]).op) ∧ ds[3 * i + 1]? = some (.int .i64 ((toTmL V l')[i]).val) ∧ ds[3 * i + 2]? = some (.slice A ((toTmL V l')[i]).args.length c) ∧ Tr w ((toTmL V l')[i]) A c := by
                  intro i h
                  obtain ⟨t, t1, t2⟩ := toTmL_get h
                  obtain ⟨a, b, c, q1, q2, q3, A, cc, q4, q5⟩ := k2 i t t1
                  rw [t2]
                  injection q4 with q4 q6
                  injection q6 with q6 q7
                  injection q7 with q7 _
                  exact ⟨A, cc, by rw [q1, q4], by rw [q2, q6], by rw [q3, q7], q5⟩
                refine ⟨some ⟨b, off, none⟩, mc, ?_, ?_⟩
                · rw [h1, h2, h3]
                  show [_, _, Value.slice _ m mc] = [_, _, Value.slice _ (toTmL V l').length mc]
                  rw [toTmL_len, hml]
                  rfl
                · refine Tr.mk (l := toTmL V l') (fun i => if h : i < (toTmL V l').length then (hel i h).choose else none) (fun i => if h : i < (toTmL V l').length then (hel i h).choose_spec.choose else 0) (fitsB_ok hb1) h2' (by rw [toTmL_len, hml]; exact hle) (by rw [toTmL_len, hml]; unfold maxLen; omega) ?_ ?_
                  · intro i h
                    obtain ⟨q1, q2, q3, q4⟩ := (hel i h).choose_spec.choose_spec
                    have e : ∀ j, (⟨b, off, none⟩ : Addr).add j = ⟨b, off + j, none⟩ := fun j => by simp [Addr.add]
                    have c1 := g3 _ _ q1
                    have c2 := g3 _ _ q2
                    have c3 := g3 _ _ q3
                    rw [e] at c1 c2 c3
                    refine ⟨b, off, rfl, ?_, ?_, ?_⟩
                    · rw [show off + i * 3 = off + 3 * i by omega]
                      exact c1
                    · rw [show off + i * 3 + 1 = off + (3 * i + 1) by omega]
                      exact c2
                    · rw [show off + i * 3 + 2 = off + (3 * i + 2) by omega, dif_pos h, dif_pos h]
                      exact c3
                  · intro i h
                    obtain ⟨q1, q2, q3, q4⟩ := (hel i h).choose_spec.choose_spec
                    rw [dif_pos h, dif_pos h]
                    exact q4
            · cases h
          · cases h
        · cases h
    · cases h
mutual
theorem nodes_toTm (V : Nat → Value) : ∀ t : TS, nodesT (toTm V t) = nodesS t
  | .mk o v l => by
    simp only [toTm, nodesT_mk, nodesS, nodes_toTmL V l]
theorem nodes_toTmL (V : Nat → Value) : ∀ l : List TS, nodesL (toTmL V l) = nodesSL l
  | [] => by simp only [toTmL, nodesL_nil, nodesSL]
  | t :: r => by simp only [toTmL, nodesL_cons, nodesSL, nodes_toTm V t, nodes_toTmL V r]
end
mutual
theorem depth_toTm (V : Nat → Value) : ∀ t : TS, depthT (toTm V t) = depthS t
  | .mk o v l => by
    simp only [toTm, depthT_mk, depthS, depth_toTmL V l]
theorem depth_toTmL (V : Nat → Value) : ∀ l : List TS, depthL (toTmL V l) = depthSL l
  | [] => by simp only [toTmL, depthL_nil, depthSL]
  | t :: r => by
    simp only [toTmL, depthL_cons, depthSL, depth_toTm V t, depth_toTmL V r]
end
theorem isZero_ok {v : AC} (h : isZero v = true) : ival V v = 0 := by
  unfold isZero at h
  split at h
  · rfl
  · cases h
theorem isPos_ok {v : AC} (h : isPos v = true) : 0 ≤ ival V v := by
  unfold isPos at h
  split at h
  · exact of_decide_eq_true h
  · cases h
theorem toTmL_nil {l : List TS} (h : l.isEmpty = true) : toTmL V l = [] := by
  rw [List.isEmpty_iff.1 h]
  rfl
theorem ordN_ok {l : List TS} (h : ordN l = true) : ∃ a x y, toTmL V l = [.mk a x [], .mk a y []] ∧ x ≤ y := by
  unfold ordN at h
  split at h
  · rename_i a k x b k' y
    simp only [Bool.and_eq_true, decide_eq_true_eq] at h
    obtain ⟨rfl, h⟩ := h
    exact ⟨a, x, y, rfl, h⟩
  · cases h
theorem form_toTm {o : Int} {v : AC} {l : List TS} (h : formS o v l = true) : formN o (ival V v) (toTmL V l) = true := by
  unfold formS at h
  split at h
  · simp [formN, toTmL_nil (V := V) h]
  · simp only [Bool.and_eq_true] at h
    simp [formN, toTmL_nil (V := V) h.1, isPos_ok (V := V) h.2]
  · simp [formN, isZero_ok (V := V) h]
  · simp only [Bool.and_eq_true] at h
    simp [formN, toTmL_len, Nat.eq_of_beq_eq_true h.1, isZero_ok (V := V) h.2]
  · simp only [Bool.and_eq_true] at h
    obtain ⟨a, x, y, e, hxy⟩ := ordN_ok (V := V) h.2.2
    rw [e]
    have : lessT (.mk a y []) (.mk a x []) = false := by
      unfold lessT
      rw [cmpT_mk]
      have e1 : cmpI a a = .eq := cmpI_eq.2 rfl
      rw [e1]
      by_cases hx : x = y
      · subst hx
        rw [cmpI_eq.2 rfl]
        rfl
      · have : cmpI y x = .gt := by
          unfold cmpI
          rw [if_neg (by omega), if_pos (by omega)]
        rw [this]
        rfl
    simp [formN, isZero_ok (V := V) h.2.1, this]
  · simp [formN, isPos_ok (V := V) h]
  · simp only [Bool.and_eq_true] at h
    simp [formN, toTmL_len, Nat.eq_of_beq_eq_true h.1, isZero_ok (V := V) h.2]
  · simp only [Bool.and_eq_true] at h
    simp [formN, toTmL_len, Nat.eq_of_beq_eq_true h.1, isPos_ok (V := V) h.2]
  · simp only [Bool.and_eq_true] at h
    simp [formN, toTmL_nil (V := V) h.1, isPos_ok (V := V) h.2]
  · simp only [Bool.and_eq_true] at h
    simp [formN, toTmL_nil (V := V) h.1, isPos_ok (V := V) h.2]
  · cases h
mutual
theorem forms_toTm : ∀ t : TS, formsS t = true → formsT (toTm V t) = true
  | .mk o v l, h => by
    simp only [formsS, Bool.and_eq_true] at h
    simp only [toTm, formsT_mk, forms_toTmL l h.1, form_toTm h.2, Bool.and_self]
theorem forms_toTmL : ∀ l : List TS, formsSL l = true → formsL (toTmL V l) = true
  | [], _ => by simp only [toTmL, formsL_nil]
  | t :: r, h => by
    simp only [formsSL, Bool.and_eq_true] at h
    simp only [toTmL, formsL_cons, forms_toTm t h.1, forms_toTmL r h.2, Bool.and_self]
end
theorem valid_toTm {t : TS} (h : validS t = true) : validT (toTm V t) = true := by
  unfold validS at h
  simp only [Bool.and_eq_true] at h
  unfold validT
  rw [nodes_toTm, depth_toTm, forms_toTm t h.2.2, decide_eq_true (Nat.le_of_ble_eq_true h.1), decide_eq_true (Nat.le_of_ble_eq_true h.2.1)]
  rfl
theorem eqV_ok {v v' : AC} {r : Bool} (h : eqV v v' = some r) : decide (ival V v = ival V v') = r := by
  unfold eqV at h
  split at h
  · rename_i k a k' b
    simp only [Option.some.injEq] at h
    show decide (a = b) = r
    rw [← h]
    rfl
  · rename_i i j
    cases hb : Nat.beq i j
    · simp [hb] at h
    · simp only [hb, cond_true, Option.some.injEq] at h
      subst h
      simp [Nat.eq_of_beq_eq_true hb]
  · cases h
theorem andO_true {a b : Option Bool} (h : andO a b = some true) : a = some true ∧ b = some true := by
  unfold andO at h
  split at h
  · cases h
  · cases h
  · exact ⟨rfl, rfl⟩
  · cases h
theorem andO_false {a b : Option Bool} (h : andO a b = some false) : a = some false ∨ b = some false := by
  unfold andO at h
  split at h
  · exact .inl rfl
  · exact .inr rfl
  · cases h
  · cases h
mutual
theorem eqS_ok : ∀ (t u : TS) (r : Bool), eqS t u = some r → (toTm V t = toTm V u ↔ r = true)
  | .mk o v l, .mk o' v' l', r, h => by
    simp only [eqS] at h
    simp only [toTm, Tm.mk.injEq]
    cases r with
    | true =>
      obtain ⟨h1, h2⟩ := andO_true h
      obtain ⟨h2, h3⟩ := andO_true h2
      injection h1 with h1
      simp only [beq_iff_eq] at h1
      have e2 := of_decide_eq_true (eqV_ok (V := V) h2)
      have e3 := (eqSL_ok l l' true h3).2 rfl
      exact ⟨fun _ => rfl, fun _ => ⟨h1, e2, e3⟩⟩
    | false =>
      refine ⟨fun e => ?_, fun e => by cases e⟩
      obtain ⟨e1, e2, e3⟩ := e
      rcases andO_false h with h1 | h2
      · injection h1 with h1
        rw [e1] at h1
        simp at h1
      · rcases andO_false h2 with h2 | h3
        · have := of_decide_eq_false (eqV_ok (V := V) h2)
          exact (this e2).elim
        · have := (eqSL_ok l l' false h3).1 e3
          exact this
theorem eqSL_ok : ∀ (l m : List TS) (r : Bool), eqSL l m = some r → (toTmL V l = toTmL V m ↔ r = true)
  | [], [], r, h => by
    simp only [eqSL, Option.some.injEq] at h
    subst h
    simp
  | t :: l, u :: m, r, h => by
    simp only [eqSL] at h
    simp only [toTmL, List.cons.injEq]
    cases r with
    | true =>
      obtain ⟨h1, h2⟩ := andO_true h
      exact ⟨fun _ => rfl, fun _ => ⟨(eqS_ok t u true h1).2 rfl, (eqSL_ok l m true h2).2 rfl⟩⟩
    | false =>
      refine ⟨fun e => ?_, fun e => by cases e⟩
      rcases andO_false h with h1 | h2
      · exact (eqS_ok t u false h1).1 e.1
      · exact (eqSL_ok l m false h2).1 e.2
  | [], _ :: _, r, h => by
    simp only [eqSL, Option.some.injEq] at h
    subst h
    simp [toTmL]
  | _ :: _, [], r, h => by
    simp only [eqSL, Option.some.injEq] at h
    subst h
    simp [toTmL]
end
theorem equ_toTm {t u : TS} {r : Bool} (h : eqS t u = some r) : equT (toTm V t) (toTm V u) = r := by
  cases r with
  | true => exact equT_iff.2 ((eqS_ok t u true h).2 rfl)
  | false => exact equT_false.2 (fun e => by have := (eqS_ok (V := V) t u false h).1 e; cases this)
--DEFS
/-- Valid and Equal. -/
noncomputable def tmE (isN : Nat → Bool) (f : Nat) (args : List AV) (s : St) : Option (AV × St) :=
  match args with
  | [.one (.agg l)] => bif Nat.beq f 73 then (match rdT isN s.heap 70 l with | some t => bif validS t then some (.one (.c (.bool true)), s) else none | none => none) else none
  | [.one (.agg l), .one (.agg m)] => bif Nat.beq f 23 || Nat.beq f 67 then (match rdT isN s.heap 70 l, rdT isN s.heap 70 m with
    | some t, some u => (match eqS t u with | some r => some (.one (.c (.bool r)), s) | none => none)
    | _, _ => none) else none
  | _ => none
--END
theorem tmE_ok (hN : ∀ j, isN j = true → ∃ x, V j = .int .i64 x ∧ fits x) : CallOK Tryz.prog V (tmE isN) := by
  intro f args s v s' h ρ w vals hargs hr hf
  unfold tmE at h
  split at h
  · rename_i l
    cases hb : Nat.beq f 73
    · simp [hb] at h
    · simp only [hb, cond_true] at h
      have hb := Nat.eq_of_beq_eq_true hb
      subst hb
      split at h
      · rename_i t ht
        cases hv : validS t
        · simp [hv] at h
        · simp only [hv, cond_true, Option.some.injEq, Prod.mk.injEq] at h
          obtain ⟨rfl, rfl⟩ := h
          match hl : vals.toList, hargs with
          | [u], hargs =>
            obtain ⟨cs, rfl, hcs⟩ := hargs.1
            obtain ⟨A, c, e, hT⟩ := rdT_ok hN hr 70 l t ht _ hcs
            have hvals : vals = #[.agg #[.int .i64 (toTm V t).op, .int .i64 (toTm V t).val, .slice A (toTm V t).args.length c]] := by
              apply Array.ext'
              rw [hl]
              have : cs = #[.int .i64 (toTm V t).op, .int .i64 (toTm V t).val, .slice A (toTm V t).args.length c] := Array.ext' (by rw [e])
              rw [this]
            subst hvals
            refine (rvalid_any (toTm V t) w A c hT).mono ?_
            rintro e w' ⟨rfl, hbw⟩
            exact ⟨_, ρ, rfl, goes_keep hr hbw, by rw [valid_toTm hv]; rfl⟩
      · cases h
  · rename_i l m
    cases hb : (Nat.beq f 23 || Nat.beq f 67)
    · simp [hb] at h
    · simp only [hb, cond_true] at h
      split at h
      · rename_i t u ht hu
        split at h
        · rename_i r hr'
          simp only [Option.some.injEq, Prod.mk.injEq] at h
          obtain ⟨rfl, rfl⟩ := h
          match hl : vals.toList, hargs with
          | [x, y], hargs =>
            obtain ⟨cs, rfl, hcs⟩ := hargs.1
            obtain ⟨ds, rfl, hds⟩ := hargs.2.1
            obtain ⟨A, c, e1, hT⟩ := rdT_ok hN hr 70 l t ht _ hcs
            obtain ⟨B, d, e2, hU⟩ := rdT_ok hN hr 70 m u hu _ hds
            have hvals : vals = #[.agg #[.int .i64 (toTm V t).op, .int .i64 (toTm V t).val, .slice A (toTm V t).args.length c], .agg #[.int .i64 (toTm V u).op, .int .i64 (toTm V u).val, .slice B (toTm V u).args.length d]] := by
              apply Array.ext'
              rw [hl]
              have h1 : cs = #[.int .i64 (toTm V t).op, .int .i64 (toTm V t).val, .slice A (toTm V t).args.length c] := Array.ext' (by rw [e1])
              have h2 : ds = #[.int .i64 (toTm V u).op, .int .i64 (toTm V u).val, .slice B (toTm V u).args.length d] := Array.ext' (by rw [e2])
              rw [h1, h2]
            subst hvals
            simp only [Bool.or_eq_true] at hb
            rcases hb with hb | hb
            · have hb := Nat.eq_of_beq_eq_true hb
              subst hb
              refine (requal_any (toTm V t) (toTm V u) w A B c d hT hU).mono ?_
              rintro e w' ⟨rfl, hbw⟩
              exact ⟨_, ρ, rfl, goes_keep hr hbw, by rw [equ_toTm hr']; rfl⟩
            · have hb := Nat.eq_of_beq_eq_true hb
              subst hb
              refine (equal_any (toTm V t) (toTm V u) w A B c d hT hU).mono ?_
              rintro e w' ⟨rfl, hbw⟩
              exact ⟨_, ρ, rfl, goes_keep hr hbw, by rw [equ_toTm hr']; rfl⟩
        · cases h
      · cases h
  · cases h
end
end Ab
end Go.Proofs.YtbfppnppijcnlaaGreat
