/-
  The walk of the law RemoveChains, by the interpreter: the loop by induction over what is left, the rest by one run for each length.
  Conditions: none.
-/
import Derived.Test.YtddiclnkfhldlaaRChA
import Derived.Test.YtddiclnkfhldlaaRChB
import Derived.Test.YtddiclnkfhldlaaRChC
import Derived.Test.YtddiclnkfhldlaaRChD
import Derived.Test.YtddiclnkfhldlaaRChE
import Derived.Test.YtddiclnkfhldlaaRChF
namespace Go.Proofs.Ytddiclnkfhldlaa
namespace Ab
open Go.RowKit
set_option linter.unusedVariables false
set_option maxRecDepth 100000
theorem rdAll1 (a : Bool) : goodS true [a] = true → cnt [a] < 1 → rdR true [a] = true := by
  cases a
  · exact fun _ _ => rd_F
  · exact fun _ h => absurd h (by decide)
theorem rdAll2 (a b : Bool) : goodS true [a, b] = true → cnt [a, b] < 2 → rdR true [a, b] = true := by
  cases a <;> cases b
  · exact fun _ _ => rd_FF
  · exact fun _ _ => rd_FT
  · exact fun _ _ => rd_TF
  · exact fun _ h => absurd h (by decide)
theorem rdAll3 (a b c : Bool) : goodS true [a, b, c] = true → cnt [a, b, c] < 3 → rdR true [a, b, c] = true := by
  cases a <;> cases b <;> cases c
  · exact fun _ _ => rd_FFF
  · exact fun _ _ => rd_FFT
  · exact fun _ _ => rd_FTF
  · exact fun _ _ => rd_FTT
  · exact fun _ _ => rd_TFF
  · exact fun _ _ => rd_TFT
  · exact fun _ _ => rd_TTF
  · exact fun _ h => absurd h (by decide)
theorem rdAll4 (a b c d : Bool) : goodS true [a, b, c, d] = true → cnt [a, b, c, d] < 4 → rdR true [a, b, c, d] = true := by
  cases a <;> cases b <;> cases c <;> cases d
  · exact fun _ _ => rd_FFFF
  · exact fun _ _ => rd_FFFT
  · exact fun _ _ => rd_FFTF
  · exact fun _ _ => rd_FFTT
  · exact fun _ _ => rd_FTFF
  · exact fun _ _ => rd_FTFT
  · exact fun _ _ => rd_FTTF
  · exact fun _ _ => rd_FTTT
  · exact fun _ _ => rd_TFFF
  · exact fun _ _ => rd_TFFT
  · exact fun _ _ => rd_TFTF
  · exact fun _ _ => rd_TFTT
  · exact fun _ _ => rd_TTFF
  · exact fun _ _ => rd_TTFT
  · exact fun _ _ => rd_TTTF
  · exact fun _ h => absurd h (by decide)
theorem rdAll5 (a b c d e : Bool) : goodS true [a, b, c, d, e] = true → cnt [a, b, c, d, e] < 5 → rdR true [a, b, c, d, e] = true := by
  cases a <;> cases b <;> cases c <;> cases d <;> cases e
  · exact fun _ _ => rd_FFFFF
  · exact fun _ _ => rd_FFFFT
  · exact fun _ _ => rd_FFFTF
  · exact fun _ _ => rd_FFFTT
  · exact fun _ _ => rd_FFTFF
  · exact fun _ _ => rd_FFTFT
  · exact fun _ _ => rd_FFTTF
  · exact fun _ _ => rd_FFTTT
  · exact fun _ _ => rd_FTFFF
  · exact fun _ _ => rd_FTFFT
  · exact fun _ _ => rd_FTFTF
  · exact fun _ _ => rd_FTFTT
  · exact fun _ _ => rd_FTTFF
  · exact fun _ _ => rd_FTTFT
  · exact fun _ _ => rd_FTTTF
  · exact fun _ _ => rd_FTTTT
  · exact fun _ _ => rd_TFFFF
  · exact fun _ _ => rd_TFFFT
  · exact fun _ _ => rd_TFFTF
  · exact fun _ _ => rd_TFFTT
  · exact fun _ _ => rd_TFTFF
  · exact fun _ _ => rd_TFTFT
  · exact fun _ _ => rd_TFTTF
  · exact fun _ _ => rd_TFTTT
  · exact fun _ _ => rd_TTFFF
  · exact fun _ _ => rd_TTFFT
  · exact fun _ _ => rd_TTFTF
  · exact fun _ _ => rd_TTFTT
  · exact fun _ _ => rd_TTTFF
  · exact fun _ _ => rd_TTTFT
  · exact fun _ _ => rd_TTTTF
  · exact fun _ h => absurd h (by decide)
theorem rfAll1 (a : Bool) : goodS false [a] = true → cnt [a] < 1 → rdR false [a] = true := by
  cases a
  · exact fun _ _ => rf_F
  · exact fun _ h => absurd h (by decide)
theorem rfAll2 (a b : Bool) : goodS false [a, b] = true → cnt [a, b] < 2 → rdR false [a, b] = true := by
  cases a <;> cases b
  · exact fun _ _ => rf_FF
  · exact fun h => absurd h (by decide)
  · exact fun _ _ => rf_TF
  · exact fun _ h => absurd h (by decide)
theorem rfAll3 (a b c : Bool) : goodS false [a, b, c] = true → cnt [a, b, c] < 3 → rdR false [a, b, c] = true := by
  cases a <;> cases b <;> cases c
  · exact fun _ _ => rf_FFF
  · exact fun h => absurd h (by decide)
  · exact fun h => absurd h (by decide)
  · exact fun h => absurd h (by decide)
  · exact fun _ _ => rf_TFF
  · exact fun h => absurd h (by decide)
  · exact fun _ _ => rf_TTF
  · exact fun _ h => absurd h (by decide)
theorem rfAll4 (a b c d : Bool) : goodS false [a, b, c, d] = true → cnt [a, b, c, d] < 4 → rdR false [a, b, c, d] = true := by
  cases a <;> cases b <;> cases c <;> cases d
  · exact fun _ _ => rf_FFFF
  · exact fun h => absurd h (by decide)
  · exact fun h => absurd h (by decide)
  · exact fun h => absurd h (by decide)
  · exact fun h => absurd h (by decide)
  · exact fun h => absurd h (by decide)
  · exact fun h => absurd h (by decide)
  · exact fun h => absurd h (by decide)
  · exact fun _ _ => rf_TFFF
  · exact fun h => absurd h (by decide)
  · exact fun h => absurd h (by decide)
  · exact fun h => absurd h (by decide)
  · exact fun _ _ => rf_TTFF
  · exact fun h => absurd h (by decide)
  · exact fun _ _ => rf_TTTF
  · exact fun _ h => absurd h (by decide)
theorem rfAll5 (a b c d e : Bool) : goodS false [a, b, c, d, e] = true → cnt [a, b, c, d, e] < 5 → rdR false [a, b, c, d, e] = true := by
  cases a <;> cases b <;> cases c <;> cases d <;> cases e
  · exact fun _ _ => rf_FFFFF
  · exact fun h => absurd h (by decide)
  · exact fun h => absurd h (by decide)
  · exact fun h => absurd h (by decide)
  · exact fun h => absurd h (by decide)
  · exact fun h => absurd h (by decide)
  · exact fun h => absurd h (by decide)
  · exact fun h => absurd h (by decide)
  · exact fun h => absurd h (by decide)
  · exact fun h => absurd h (by decide)
  · exact fun h => absurd h (by decide)
  · exact fun h => absurd h (by decide)
  · exact fun h => absurd h (by decide)
  · exact fun h => absurd h (by decide)
  · exact fun h => absurd h (by decide)
  · exact fun h => absurd h (by decide)
  · exact fun _ _ => rf_TFFFF
  · exact fun h => absurd h (by decide)
  · exact fun h => absurd h (by decide)
  · exact fun h => absurd h (by decide)
  · exact fun h => absurd h (by decide)
  · exact fun h => absurd h (by decide)
  · exact fun h => absurd h (by decide)
  · exact fun h => absurd h (by decide)
  · exact fun _ _ => rf_TTFFF
  · exact fun h => absurd h (by decide)
  · exact fun h => absurd h (by decide)
  · exact fun h => absurd h (by decide)
  · exact fun _ _ => rf_TTTFF
  · exact fun h => absurd h (by decide)
  · exact fun _ _ => rf_TTTTF
  · exact fun _ h => absurd h (by decide)
theorem rdAll (hl : Bool) : ∀ (S : List Bool), 1 ≤ S.length → S.length ≤ 5 → goodS hl S = true → cnt S < S.length → rdR hl S = true := by
  intro S h1 h2 h3 h4
  match S, h1, h2, h3, h4 with
  | [a], _, _, h3, h4 => cases hl; exact rfAll1 a h3 h4; exact rdAll1 a h3 h4
  | [a, b], _, _, h3, h4 => cases hl; exact rfAll2 a b h3 h4; exact rdAll2 a b h3 h4
  | [a, b, c], _, _, h3, h4 => cases hl; exact rfAll3 a b c h3 h4; exact rdAll3 a b c h3 h4
  | [a, b, c, d], _, _, h3, h4 => cases hl; exact rfAll4 a b c d h3 h4; exact rdAll4 a b c d h3 h4
  | [a, b, c, d, e], _, _, h3, h4 => cases hl; exact rfAll5 a b c d e h3 h4; exact rdAll5 a b c d e h3 h4
  | _ :: _ :: _ :: _ :: _ :: _ :: _, _, h, _, _ => simp only [List.length_cons] at h; omega
theorem cnt_le : ∀ (S : List Bool), cnt S ≤ S.length
  | [] => Nat.le_refl _
  | b :: S => by
    have := cnt_le S
    cases b <;> simp [cnt] <;> omega
theorem cnt_full : ∀ (S : List Bool), cnt S = S.length → S = List.replicate S.length true
  | [], _ => rfl
  | b :: S, h => by
    have h1 := cnt_le S
    cases b
    · simp [cnt] at h
      omega
    · simp only [cnt, cond_true, List.length_cons] at h
      have := cnt_full S (by omega)
      rw [List.length_cons, List.replicate_succ, ← this]
theorem exAll (hl : Bool) (m : Nat) (h1 : 1 ≤ m) (h2 : m ≤ 5) : exR hl (List.replicate m true) = true := by
  match m, h1, h2 with
  | 1, _, _ => cases hl; exact exf_1; exact ex_1
  | 2, _, _ => cases hl; exact exf_2; exact ex_2
  | 3, _, _ => cases hl; exact exf_3; exact ex_3
  | 4, _, _ => cases hl; exact exf_4; exact ex_4
  | 5, _, _ => cases hl; exact exf_5; exact ex_5
  | _ + 6, _, h => omega
theorem tbAll (m : Nat) (h1 : 1 ≤ m) (h2 : m ≤ 5) : (tbR (m + 1)).all (memoOK eM) = true := by
  match m, h1, h2 with
  | 1, _, _ => exact tb_1
  | 2, _, _ => exact tb_2
  | 3, _, _ => exact tb_3
  | 4, _, _ => exact tb_4
  | 5, _, _ => exact tb_5
  | _ + 6, _, h => omega
section
variable {V : Nat → Value}
theorem envNo {oth : Nat → List AV → St → Option (AV × St)} (h1 : ∀ i, (V i).oneCell' = true) : EnvOK Try.prog V (env noTab noCvt oth) :=
  env_ok (fun op a b z h => (by cases h)) (fun k i z h => (by cases h)) h1
theorem eM_ext {tab : BinOp → AC → AC → Option AC} {cvt : IntKind → AC → Option AC} (h1 : ∀ i, (V i).oneCell' = true) : ExtOK Try.prog V (env tab cvt (memoE tb0)) :=
  memoE_ok (envNo (oth := noExt) h1) (noExt_ok rfl) (fun x hx => List.all_eq_true.1 tb_0 x hx) rfl rfl
theorem eD_ext (h1 : ∀ i, (V i).oneCell' = true) (m : Nat) (g1 : 1 ≤ m) (g2 : m ≤ 5) : ExtOK Try.prog V (eD (m + 1)) :=
  memoE_ok (envNo (oth := memoE tb0) h1) (eM_ext h1) (fun x hx => List.all_eq_true.1 (tbAll m g1 g2) x hx) rfl rfl
end
section
variable {V0 : Nat → Value} {q : Ls} {ga : Nat} {row : Array Value} {hl : Bool} {base : Nat} {w0 : World}
theorem drawsR (h1 : ∀ i, (V0 i).oneCell' = true) (hL : LsOK hl q ga row) (m : Nat) (g1 : 1 ≤ m) (g2 : m ≤ 5) : DrawsOK Try.prog V0 hl q ga row (eD (m + 1)) (eX (m + 1) hl) where
  one := h1
  e := fun b p hp => ⟨envNo (vL_one h1 b p), eD_ext (vL_one h1 b p) m g1 g2⟩
  r := fun b p k hp k1 k2 => ⟨envNo (vL_one h1 b p), envR_ext hL hp (by omega) (by omega) (eD_ext (vL_one h1 b p) m g1 g2)⟩
  ls := hL
theorem here_subC (h1 : ∀ i, (V0 i).oneCell' = true) {t u : Sl} {s r : St} {a : Act} {w : World} (f fc : List (Nat × Nat)) (h : subOK f fc t s u r = true) (hh : HereC V0 q ga row base w0 t s a w) : HereC V0 q ga row base w0 u r a w := by
  obtain ⟨b, p, hp, hh⟩ := hh
  exact ⟨b, p, hp, here_sub (vL_one h1 b p) f fc h hh⟩
theorem mOfR_ok (S : List Bool) (h : 1 ≤ S.length) (h2 : S.length ≤ 5) : ∀ id m mg, mOfR S id = some (m, mg) → 1 ≤ m ∧ m ≤ 1000 := by
  intro id m mg hk
  unfold mOfR at hk
  cases hb : Nat.beq id 26
  · rw [hb] at hk
    cases hk
  · rw [hb] at hk
    simp only [cond_true, Option.some.injEq, Prod.mk.injEq] at hk
    omega
theorem loopR (h1 : ∀ i, (V0 i).oneCell' = true) (hL : LsOK hl q ga row) {m : Nat} (g1 : 1 ≤ m) (g2 : m ≤ 5) {Q : Exit → Act → World → Prop} (hQ : ∀ a' w', HereC V0 q ga row base w0 (slC (List.replicate m true)) (stC hl (List.replicate m true)) a' w' → Q (.exit 4) a' w') :
    ∀ (d : Nat) (S : List Bool), S.length = m → goodS hl S = true → cnt S + d = m → ∀ a w, HereC V0 q ga row base w0 (slC S) (stC hl S) a w → LoopWp Try.prog rcL Q a w
  | 0, S, hS, hg, hd, a, w, hh => by
    have hf := cnt_full S (by omega)
    rw [hS] at hf
    subst hf
    have hx := exAll hl m g1 g2
    unfold exR at hx
    rw [hS] at hx
    split at hx
    · rename_i l hr
      refine loop_one ((codeN_ok (drawsR h1 hL m g1 g2) (mOfR_ok _ (by omega) (by omega)) (noHk_ok (c0 := rcL)) 100).1 rcL (fun _ _ h => h) hr hh _ (fun x hxm a' w' h' => ?_))
      have hk := List.all_eq_true.1 hx x hxm
      obtain ⟨e, t', s'⟩ := x
      split at hk
      · rename_i heq
        simp only [Prod.mk.injEq] at heq
        obtain ⟨rfl, rfl, rfl⟩ := heq
        exact hQ a' w' (here_subC h1 _ _ hk h')
      · cases hk
    · cases hx
  | d + 1, S, hS, hg, hd, a, w, hh => by
    have hx := rdAll hl S (by omega) (by omega) hg (by omega)
    unfold rdR at hx
    rw [hS] at hx
    split at hx
    · rename_i l hr
      refine loop_one ((codeN_ok (drawsR h1 hL m g1 g2) (mOfR_ok _ (by omega) (by omega)) (noHk_ok (c0 := rcL)) 100).1 rcL (fun _ _ h => h) hr hh _ (fun x hxm a' w' h' => ?_))
      have hk := List.all_eq_true.1 hx x hxm
      obtain ⟨e, t', s'⟩ := x
      simp only at hk
      split at hk
      · rename_i t2 s2 heq
        simp only [Prod.mk.injEq] at heq
        obtain ⟨rfl, rfl, rfl⟩ := heq
        simp only [Bool.and_eq_true] at hk
        obtain ⟨⟨⟨k1, k2⟩, k3⟩, k4⟩ := hk
        have k1 := Nat.eq_of_beq_eq_true k1
        have k2 := Nat.eq_of_beq_eq_true k2
        exact loopR h1 hL g1 g2 hQ d _ k1 k3 (by omega) a' w' (here_subC h1 _ _ k4 h')
      · cases hk
    · cases hx
end
/-- The contract of the loop. -/
noncomputable def hkR (m : Nat) (hl : Bool) : Nat → Sl → St → Option (List (AE × Sl × St)) := fun id t s =>
  bif Nat.beq id 4 && subOK (fOf hl true t s).1 (fOf hl true t s).2 t s (slC (List.replicate m false)) (stC hl (List.replicate m false)) then some [(.normal, slC (List.replicate m true), stC hl (List.replicate m true))] else none
theorem cnt_none : ∀ m, cnt (List.replicate m false) = 0
  | 0 => rfl
  | m + 1 => by
    rw [List.replicate_succ]
    simp [cnt, cnt_none m]
theorem init_none : ∀ m, initS (List.replicate m false) = true
  | 0 => rfl
  | m + 1 => by
    rw [List.replicate_succ]
    simp [initS, cnt_none m]
theorem hkR_ok {V0 : Nat → Value} {q : Ls} {ga : Nat} {row : Array Value} {hl : Bool} {base : Nat} {w0 : World} (h1 : ∀ i, (V0 i).oneCell' = true) (hL : LsOK hl q ga row) {m : Nat} (g1 : 1 ≤ m) (g2 : m ≤ 5) {c : Code} (hc : ∀ b, b ∈ blocksOf 4 c → b ∈ blocksOf 4 rcC) : HookC Try.prog V0 q ga row base w0 c (hkR m hl) := by
  intro id blk hb t s l hk a w hh Q hQ
  unfold hkR at hk
  cases hid : (Nat.beq id 4 && subOK (fOf hl true t s).1 (fOf hl true t s).2 t s (slC (List.replicate m false)) (stC hl (List.replicate m false)))
  · rw [hid] at hk
    cases hk
  · rw [hid] at hk
    simp only [cond_true, Option.some.injEq] at hk
    subst hk
    simp only [Bool.and_eq_true] at hid
    obtain ⟨k1, k2⟩ := hid
    have k1 := Nat.eq_of_beq_eq_true k1
    subst k1
    have hb := hc _ hb
    rw [rcL_is] at hb
    simp only [List.mem_cons, List.not_mem_nil, or_false] at hb
    subst hb
    refine wp_block (wp_of_loop ?_)
    refine loopR (Q := Exit.inBlock 4 Q) h1 hL g1 g2 (fun a' w' h' => ?_) m (List.replicate m false) (by simp) ?_ (by rw [cnt_none]; omega) a w (here_subC h1 _ _ k2 hh)
    · show (if 4 = 4 then Q .normal a' w' else Q (.exit 4) a' w')
      rw [if_pos rfl]
      exact hQ _ (List.mem_singleton.2 rfl) a' w' h'
    · unfold goodS
      rw [init_none]
      simp
def tabR (k : Nat) : BinOp → AC → AC → Option AC
  | .rem, .sym 2, .int .i64 5 => some (.int .i64 k)
  | _, _, _ => none
def cvR : IntKind → AC → Option AC
  | .i64, .sym 1 => some (.sym 2)
  | _, _ => none
def vR (sl : Value) (a : Nat) : Nat → Value
  | 0 => sl
  | 1 => .int .u8 a
  | _ => .int .i64 a
noncomputable def eK (k : Nat) : Env := env (tabR k) cvR (memoE tb0)
noncomputable def eKn (k : Nat) : Env := env (tabR k) cvR noExt
theorem vR_one {A : Option Addr} {n c a : Nat} (i : Nat) : (vR (.slice A n c) a i).oneCell' = true := by
  unfold vR
  split <;> rfl
theorem eK_ok {V : Nat → Value} {a k : Nat} {oth : Nat → List AV → St → Option (AV × St)} (ha : a < 256) (hk : a % 5 = k) (h1 : ∀ i, (V i).oneCell' = true) (v1 : V 1 = .int .u8 a) (v2 : V 2 = .int .i64 a) : EnvOK Try.prog V (env (tabR k) cvR oth) := by
  refine env_ok ?_ ?_ h1
  · intro op x y z h ρ u v hu hv
    unfold tabR at h
    split at h
    · injection h with h
      subst h
      have hu : u = V 2 := hu
      have hv : v = .int .i64 5 := hv
      rw [v2] at hu
      subst hu; subst hv
      refine ⟨_, _, _, _, .int .i64 k, rfl, rfl, rfl, fun xt => ?_⟩
      have e1 : ((a : Int).tmod 5) = (k : Nat) := by
        rw [Int.tmod_eq_emod_of_nonneg (by omega)]
        omega
      have h0 : binOp .rem xt (.int .i64 (a : Int)) (.int .i64 5) = .pure (.int .i64 ((a : Int).tmod 5)) := rfl
      rw [h0, e1]
    · cases h
  · intro kk i z h ρ
    unfold cvR at h
    split at h
    · rename_i he
      injection he with he
      subst he
      injection h with h
      subst h
      refine ⟨.u8, a, v1, ?_⟩
      have e : IntKind.i64.wrap (a : Int) = a := IntWalk.i64_in _ (by omega)
      rw [e]
      exact v2.symm
    · cases h
noncomputable def rcPre : List Code := (lin rcC).take 3
noncomputable def rcRest : List Code := (lin rcC).drop 4
noncomputable def rcOps : Array Oper := match (lin rcC).drop 3 with
  | .region _ ops _ :: _ => ops
  | _ => #[]
theorem rc_lin : lin rcC = rcPre ++ (.region 3 rcOps false :: rcRest) := by kernel_rfl
noncomputable def rcT0 : Sl := pad Try.f7.ntmps [.one (.c (.sym 0)), .one (.c (.sym 1))]
noncomputable def rcP (k : Nat) : Option (Sl × St) := codeAL (eKn k) rcPre rcT0 st0
noncomputable def rcRun (k : Nat) (hl : Bool) : Bool :=
  match rcP k with
  | some (t1, s1) => match newR (eKn k) 60 rcOps t1 s1 with
    | some t2 => allTrue (eK k) Try.f7.results.toList (codeNL hl s1.next (s1.next + 1) (eK k) (fun _ _ => eK k) (fun _ => none) (hkR (k + 1) hl) 100 rcRest t2 (newS hl { s1 with heap := [] }))
    | none => false
  | none => false
theorem rcRun0 : rcRun 0 true = true ∧ rcRun 0 false = true := by constructor <;> kernel_rfl
theorem rcRun1 : rcRun 1 true = true ∧ rcRun 1 false = true := by constructor <;> kernel_rfl
theorem rcRun2 : rcRun 2 true = true ∧ rcRun 2 false = true := by constructor <;> kernel_rfl
theorem rcRun3 : rcRun 3 true = true ∧ rcRun 3 false = true := by constructor <;> kernel_rfl
theorem rcRun4 : rcRun 4 true = true ∧ rcRun 4 false = true := by constructor <;> kernel_rfl
theorem rest_sub : ∀ c ∈ rcRest, ∀ b, b ∈ blocksOf 4 c → b ∈ blocksOf 4 rcC := by
  intro c hc b hb
  have key : ∀ (x : Code) (l : List Code), (∀ c ∈ l, c ∈ lin x) → ∀ c ∈ l, ∀ b, b ∈ blocksOf 4 c → b ∈ blocksOf 4 x := by
    intro x
    have h0 : ∀ x c, c ∈ lin x → ∀ b, b ∈ blocksOf 4 c → b ∈ blocksOf 4 x := by
      intro x
      induction x with
      | seq y z ihy ihz =>
        intro c hc b hb
        simp only [lin, List.mem_append] at hc
        simp only [blocksOf, List.mem_append]
        rcases hc with hc | hc
        · exact .inl (ihy c hc b hb)
        · exact .inr (ihz c hc b hb)
      | _ =>
        intro c hc b hb
        simp only [lin, List.mem_cons, List.not_mem_nil, or_false] at hc
        rw [← hc]
        exact hb
    exact fun l hl c hc b hb => h0 x c (hl c hc) b hb
  refine key rcC rcRest (fun c hc => ?_) c hc b hb
  exact List.mem_of_mem_drop hc
end Ab
namespace removeChains
open Ab RowKit
theorem walkK (w : World) (A : Option Addr) (len cap : Nat) (hB : Byts w A len) (hl1 : len ≤ cap) (hl2 : cap ≤ maxLen) (a k : Nat) (ha : a < 256) (hk : a % 5 = k) (hr : rcRun k true = true ∧ rcRun k false = true) :
    Calls Try.prog 7 #[.slice A len cap, .int .u8 a] w fun e w' => e = .returned (.bool true) ∧ RowKit.Below w.heap.size w w' := by
  have args : F2 (VR (vR (.slice A len cap) a) ρ0) [.one (.c (.sym 0)), .one (.c (.sym 1))] #[.slice A len cap, .int .u8 a].toList := ⟨rfl, rfl, trivial⟩
  have hrun : ∀ hl, rcRun k hl = true := fun hl => by cases hl; exact hr.2; exact hr.1
  have h0 := hrun true
  unfold rcRun at h0 hrun
  split at h0
  · rename_i t1 s1 hpre
    split at h0
    · rename_i t2 hnew
      have hE : ∀ b p q ga row oth, EnvOK Try.prog (vL (vR (.slice A len cap) a) q ga row b p) (env (tabR k) cvR oth) := fun b p q ga row oth => eK_ok ha hk (vL_one vR_one b p) rfl rfl
      refine law_ok (V0 := vR (.slice A len cap) a) (E0 := eKn k) (E := fun _ => eK k) (eR := fun _ _ _ => eK k) (mOf := fun _ => none) (hk := hkR (k + 1)) Try.func7 rcC_is args (by rw [Try.ntmps7]; show 2 ≤ _; omega) w rfl hB hl1 hl2 (most := 60) (by omega)
        (eK_ok ha hk vR_one rfl rfl) (noExt_ok rfl) (by kernel_rfl) rc_lin hpre hnew (fun hl q ga row hL => ⟨vR_one, fun b p hp => ⟨hE b p q ga row _, eM_ext (vL_one vR_one b p)⟩, fun b p m hp _ _ => ⟨hE b p q ga row _, eM_ext (vL_one vR_one b p)⟩, hL⟩) (fun _ _ _ h => (by cases h)) (fun hl q ga row hL c hc => hkR_ok vR_one hL (by omega) (by omega) (rest_sub c hc)) 100 (fun hl => ?_)
      have := hrun hl
      rw [hpre] at this
      simp only [hnew] at this
      exact this
    · cases h0
  · cases h0
theorem removeChains_walk (w : World) (A : Option Addr) (len cap : Nat) (hB : Byts w A len) (hl : len ≤ cap ∧ cap ≤ maxLen) (a1 : Int) (h1 : 0 ≤ a1 ∧ a1 ≤ 255) :
    Calls Try.prog 7 #[.slice A len cap, .int .u8 a1] w fun e w' => e = .returned (.bool true) ∧ RowKit.Below w.heap.size w w' := by
  obtain ⟨a, rfl⟩ := Int.eq_ofNat_of_zero_le h1.1
  have ha : a < 256 := by omega
  rcases (by omega : a % 5 = 0 ∨ a % 5 = 1 ∨ a % 5 = 2 ∨ a % 5 = 3 ∨ a % 5 = 4) with h | h | h | h | h
  · exact walkK w A len cap hB hl.1 hl.2 a 0 ha h rcRun0
  · exact walkK w A len cap hB hl.1 hl.2 a 1 ha h rcRun1
  · exact walkK w A len cap hB hl.1 hl.2 a 2 ha h rcRun2
  · exact walkK w A len cap hB hl.1 hl.2 a 3 ha h rcRun3
  · exact walkK w A len cap hB hl.1 hl.2 a 4 ha h rcRun4
end removeChains
end Go.Proofs.Ytddiclnkfhldlaa
