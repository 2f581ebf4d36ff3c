/-
  The walk of the law CookieBinds, by the interpreter.
  Conditions: none.
-/
import Derived.Test.YtddiclnkfhldlaaCBr0
import Derived.Test.YtddiclnkfhldlaaCBr1
import Derived.Test.YtddiclnkfhldlaaCBr2
import Derived.Test.YtddiclnkfhldlaaCBr3
namespace Go.Proofs.Ytddiclnkfhldlaa
namespace Ab
open Go.RowKit
set_option linter.unusedVariables false
set_option linter.unusedSimpArgs false
set_option maxRecDepth 100000
theorem cl_all (x y B : Int) (r1 r2 : Bool) : clRun ⟨decide (x < y), decide (x = y), decide (x < B), decide (x = B), decide (y < B), decide (y = B), r1, r2⟩ = true := by
  rcases Int.lt_trichotomy x y with h1 | h1 | h1 <;> rcases Int.lt_trichotomy x B with h2 | h2 | h2 <;> rcases Int.lt_trichotomy y B with h3 | h3 | h3
  · rw [(decide_eq_true (by omega) : decide (x < y) = true), (decide_eq_false (by omega) : decide (x = y) = false), (decide_eq_true (by omega) : decide (x < B) = true), (decide_eq_false (by omega) : decide (x = B) = false), (decide_eq_true (by omega) : decide (y < B) = true), (decide_eq_false (by omega) : decide (y = B) = false)]
    cases r1 <;> cases r2
    · exact rCl_lll_00
    · exact rCl_lll_01
    · exact rCl_lll_10
    · exact rCl_lll_11
  · rw [(decide_eq_true (by omega) : decide (x < y) = true), (decide_eq_false (by omega) : decide (x = y) = false), (decide_eq_true (by omega) : decide (x < B) = true), (decide_eq_false (by omega) : decide (x = B) = false), (decide_eq_false (by omega) : decide (y < B) = false), (decide_eq_true (by omega) : decide (y = B) = true)]
    cases r1 <;> cases r2
    · exact rCl_lle_00
    · exact rCl_lle_01
    · exact rCl_lle_10
    · exact rCl_lle_11
  · rw [(decide_eq_true (by omega) : decide (x < y) = true), (decide_eq_false (by omega) : decide (x = y) = false), (decide_eq_true (by omega) : decide (x < B) = true), (decide_eq_false (by omega) : decide (x = B) = false), (decide_eq_false (by omega) : decide (y < B) = false), (decide_eq_false (by omega) : decide (y = B) = false)]
    cases r1 <;> cases r2
    · exact rCl_llg_00
    · exact rCl_llg_01
    · exact rCl_llg_10
    · exact rCl_llg_11
  · exfalso; omega
  · exfalso; omega
  · rw [(decide_eq_true (by omega) : decide (x < y) = true), (decide_eq_false (by omega) : decide (x = y) = false), (decide_eq_false (by omega) : decide (x < B) = false), (decide_eq_true (by omega) : decide (x = B) = true), (decide_eq_false (by omega) : decide (y < B) = false), (decide_eq_false (by omega) : decide (y = B) = false)]
    cases r1 <;> cases r2
    · exact rCl_leg_00
    · exact rCl_leg_01
    · exact rCl_leg_10
    · exact rCl_leg_11
  · exfalso; omega
  · exfalso; omega
  · rw [(decide_eq_true (by omega) : decide (x < y) = true), (decide_eq_false (by omega) : decide (x = y) = false), (decide_eq_false (by omega) : decide (x < B) = false), (decide_eq_false (by omega) : decide (x = B) = false), (decide_eq_false (by omega) : decide (y < B) = false), (decide_eq_false (by omega) : decide (y = B) = false)]
    cases r1 <;> cases r2
    · exact rCl_lgg_00
    · exact rCl_lgg_01
    · exact rCl_lgg_10
    · exact rCl_lgg_11
  · rw [(decide_eq_false (by omega) : decide (x < y) = false), (decide_eq_true (by omega) : decide (x = y) = true), (decide_eq_true (by omega) : decide (x < B) = true), (decide_eq_false (by omega) : decide (x = B) = false), (decide_eq_true (by omega) : decide (y < B) = true), (decide_eq_false (by omega) : decide (y = B) = false)]
    cases r1 <;> cases r2
    · exact rCl_ell_00
    · exact rCl_ell_01
    · exact rCl_ell_10
    · exact rCl_ell_11
  · exfalso; omega
  · exfalso; omega
  · exfalso; omega
  · rw [(decide_eq_false (by omega) : decide (x < y) = false), (decide_eq_true (by omega) : decide (x = y) = true), (decide_eq_false (by omega) : decide (x < B) = false), (decide_eq_true (by omega) : decide (x = B) = true), (decide_eq_false (by omega) : decide (y < B) = false), (decide_eq_true (by omega) : decide (y = B) = true)]
    cases r1 <;> cases r2
    · exact rCl_eee_00
    · exact rCl_eee_01
    · exact rCl_eee_10
    · exact rCl_eee_11
  · exfalso; omega
  · exfalso; omega
  · exfalso; omega
  · rw [(decide_eq_false (by omega) : decide (x < y) = false), (decide_eq_true (by omega) : decide (x = y) = true), (decide_eq_false (by omega) : decide (x < B) = false), (decide_eq_false (by omega) : decide (x = B) = false), (decide_eq_false (by omega) : decide (y < B) = false), (decide_eq_false (by omega) : decide (y = B) = false)]
    cases r1 <;> cases r2
    · exact rCl_egg_00
    · exact rCl_egg_01
    · exact rCl_egg_10
    · exact rCl_egg_11
  · rw [(decide_eq_false (by omega) : decide (x < y) = false), (decide_eq_false (by omega) : decide (x = y) = false), (decide_eq_true (by omega) : decide (x < B) = true), (decide_eq_false (by omega) : decide (x = B) = false), (decide_eq_true (by omega) : decide (y < B) = true), (decide_eq_false (by omega) : decide (y = B) = false)]
    cases r1 <;> cases r2
    · exact rCl_gll_00
    · exact rCl_gll_01
    · exact rCl_gll_10
    · exact rCl_gll_11
  · exfalso; omega
  · exfalso; omega
  · rw [(decide_eq_false (by omega) : decide (x < y) = false), (decide_eq_false (by omega) : decide (x = y) = false), (decide_eq_false (by omega) : decide (x < B) = false), (decide_eq_true (by omega) : decide (x = B) = true), (decide_eq_true (by omega) : decide (y < B) = true), (decide_eq_false (by omega) : decide (y = B) = false)]
    cases r1 <;> cases r2
    · exact rCl_gel_00
    · exact rCl_gel_01
    · exact rCl_gel_10
    · exact rCl_gel_11
  · exfalso; omega
  · exfalso; omega
  · rw [(decide_eq_false (by omega) : decide (x < y) = false), (decide_eq_false (by omega) : decide (x = y) = false), (decide_eq_false (by omega) : decide (x < B) = false), (decide_eq_false (by omega) : decide (x = B) = false), (decide_eq_true (by omega) : decide (y < B) = true), (decide_eq_false (by omega) : decide (y = B) = false)]
    cases r1 <;> cases r2
    · exact rCl_ggl_00
    · exact rCl_ggl_01
    · exact rCl_ggl_10
    · exact rCl_ggl_11
  · rw [(decide_eq_false (by omega) : decide (x < y) = false), (decide_eq_false (by omega) : decide (x = y) = false), (decide_eq_false (by omega) : decide (x < B) = false), (decide_eq_false (by omega) : decide (x = B) = false), (decide_eq_false (by omega) : decide (y < B) = false), (decide_eq_true (by omega) : decide (y = B) = true)]
    cases r1 <;> cases r2
    · exact rCl_gge_00
    · exact rCl_gge_01
    · exact rCl_gge_10
    · exact rCl_gge_11
  · rw [(decide_eq_false (by omega) : decide (x < y) = false), (decide_eq_false (by omega) : decide (x = y) = false), (decide_eq_false (by omega) : decide (x < B) = false), (decide_eq_false (by omega) : decide (x = B) = false), (decide_eq_false (by omega) : decide (y < B) = false), (decide_eq_false (by omega) : decide (y = B) = false)]
    cases r1 <;> cases r2
    · exact rCl_ggg_00
    · exact rCl_ggg_01
    · exact rCl_ggg_10
    · exact rCl_ggg_11
def vB (sl : Value) (spi frm oth : Int) : Nat → Value
  | 0 => sl
  | 1 => .int .i64 spi
  | 2 => .int .i64 frm
  | 3 => .int .i64 oth
  | 4 => .int .i64 (IntKind.i64.wrap (spi + 1))
  | _ => .int .i64 0
theorem vB_one {A : Option Addr} {n c : Nat} {x y z : Int} (i : Nat) : (vB (.slice A n c) x y z i).oneCell' = true := by
  unfold vB
  split <;> rfl
theorem withV_one {V : Nat → Value} (h : ∀ i, (V i).oneCell' = true) (k : Nat) (x : Int) (i : Nat) : (withV V k (.int .i64 x) i).oneCell' = true := by
  unfold withV
  split
  · rfl
  · exact h i
theorem eCl_ok {V : Nat → Value} (h1 : ∀ i, (V i).oneCell' = true) {spi frm oth x y : Int} (hs : -9223372036854775808 ≤ spi ∧ spi ≤ 9223372036854775807) (v1 : V 1 = .int .i64 spi) (v2 : V 2 = .int .i64 frm) (v3 : V 3 = .int .i64 oth) (v4 : V 4 = .int .i64 (IntKind.i64.wrap (spi + 1))) (v5 : V 5 = .int .i64 x) (v6 : V 6 = .int .i64 y) (hx : 100 ≤ x) (hy : 100 ≤ y) :
    EnvOK Try.prog V (eCl ⟨decide (x < y), decide (x = y), decide (x < 1048577), decide (x = 1048577), decide (y < 1048577), decide (y = 1048577), decide (oth = spi), decide (oth = frm)⟩) := by
  have w4 : ¬ IntKind.i64.wrap (spi + 1) = spi := by
    rw [IntKind.wrap_i64]
    omega
  have gt_of : ∀ a b : Int, (!(decide (a < b) || decide (a = b))) = decide (b < a) := fun a b => by
    rw [Bool.eq_iff_iff]
    simp
    omega
  have eq_of : ∀ a b : Int, decide (a = b) = decide (b = a) := fun a b => by
    rw [Bool.eq_iff_iff]
    simp
    exact ⟨fun h => h.symm, fun h => h.symm⟩
  have fin : ∀ {op : BinOp} {u u' : Value} {z : AC} {ρ : Rho} (n m : Int), u = .int .i64 n → u' = .int .i64 m → (∃ c, CR V ρ z c ∧ ∀ xt, binOp op xt (.int .i64 n) (.int .i64 m) = .pure c) → ∃ k n k' n' c, u = .int k n ∧ u' = .int k' n' ∧ CR V ρ z c ∧ ∀ xt, binOp op xt u u' = .pure c := by
    rintro op u u' z ρ n m rfl rfl ⟨c, c1, c2⟩
    exact ⟨_, _, _, _, c, rfl, rfl, c1, c2⟩
  have ansN_ok : ∀ {op : BinOp} {v B' n : Int} {z : AC} (ρ : Rho), 100 ≤ v → ansN op (decide (v < 1048577)) (decide (v = 1048577)) n = some z → ∃ c, CR V ρ z c ∧ ∀ xt, binOp op xt (.int .i64 v) (.int .i64 n) = .pure c := by
    intro op v B' n z ρ hv h
    unfold ansN at h
    split at h
    · rename_i e
      subst e
      exact cmpAns_ok h rfl rfl ρ
    · split at h
      · exact cmpAns_ok h (decide_eq_false (by omega)).symm (decide_eq_false (by omega)).symm ρ
      · cases h
  have ansM_ok : ∀ {op : BinOp} {v n : Int} {z : AC} (ρ : Rho), 100 ≤ v → ansM op (!(decide (v < 1048577) || decide (v = 1048577))) (decide (v = 1048577)) n = some z → ∃ c, CR V ρ z c ∧ ∀ xt, binOp op xt (.int .i64 n) (.int .i64 v) = .pure c := by
    intro op v n z ρ hv h
    unfold ansM at h
    split at h
    · rename_i e
      subst e
      exact cmpAns_ok h (gt_of _ _) (eq_of _ _) ρ
    · split at h
      · exact cmpAns_ok h (decide_eq_true (by omega)).symm (decide_eq_false (by omega)).symm ρ
      · cases h
  refine env_ok ?_ (fun k i z h => (by cases h)) h1
  intro op a b z h ρ u u' hu hu'
  unfold tabB at h
  split at h
  · exact fin x y (Eq.trans hu v5) (Eq.trans hu' v6) (cmpAns_ok h rfl rfl ρ)
  · exact fin y x (Eq.trans hu v6) (Eq.trans hu' v5) (cmpAns_ok h (gt_of _ _) (eq_of _ _) ρ)
  · exact fin x x (Eq.trans hu v5) (Eq.trans hu' v5) (cmpAns_ok h (decide_eq_false (by omega)).symm (decide_eq_true rfl).symm ρ)
  · exact fin y y (Eq.trans hu v6) (Eq.trans hu' v6) (cmpAns_ok h (decide_eq_false (by omega)).symm (decide_eq_true rfl).symm ρ)
  · exact fin spi spi (Eq.trans hu v1) (Eq.trans hu' v1) (cmpAns_ok h (decide_eq_false (by omega)).symm (decide_eq_true rfl).symm ρ)
  · exact fin frm frm (Eq.trans hu v2) (Eq.trans hu' v2) (cmpAns_ok h (decide_eq_false (by omega)).symm (decide_eq_true rfl).symm ρ)
  · rename_i n
    exact fin x n (Eq.trans hu v5) hu' (ansN_ok (B' := 0) ρ hx h)
  · rename_i n
    exact fin y n (Eq.trans hu v6) hu' (ansN_ok (B' := 0) ρ hy h)
  · rename_i n
    exact fin n x hu (Eq.trans hu' v5) (ansM_ok ρ hx h)
  · rename_i n
    exact fin n y hu (Eq.trans hu' v6) (ansM_ok ρ hy h)
  · exact fin oth spi (Eq.trans hu v3) (Eq.trans hu' v1) (eqAns_ok h rfl ρ)
  · exact fin oth frm (Eq.trans hu v3) (Eq.trans hu' v2) (eqAns_ok h rfl ρ)
  · exact fin _ spi (Eq.trans hu v4) (Eq.trans hu' v1) (eqAns_ok h (decide_eq_false w4).symm ρ)
  · exact fin spi _ (Eq.trans hu v1) (Eq.trans hu' v4) (eqAns_ok h (decide_eq_false (fun e => w4 e.symm)).symm ρ)
  · split at h
    · injection h with h
      subst h
      refine fin spi 1 (Eq.trans hu v1) hu' ⟨.int .i64 (IntKind.i64.wrap (spi + 1)), v4.symm, fun xt => ?_⟩
      have hkk : ¬ (IntKind.i64 ≠ .i64) := fun h => h rfl
      simp only [binOp, if_neg hkk]
      rfl
    · cases h
  · cases h
end Ab
namespace cookieBinds
open Ab RowKit
set_option linter.unusedVariables false
theorem cookieBinds_walk (w : World) (A : Option Addr) (len cap : Nat) (hB : Byts w A len) (hl : len ≤ cap ∧ cap ≤ maxLen) (a1 : Int) (h1 : -9223372036854775808 ≤ a1 ∧ a1 ≤ 9223372036854775807) (a2 : Int) (h2 : -9223372036854775808 ≤ a2 ∧ a2 ≤ 9223372036854775807) (a3 : Int) (h3 : -9223372036854775808 ≤ a3 ∧ a3 ≤ 9223372036854775807) :
    Calls Try.prog 3 #[.slice A len cap, .int .i64 a1, .int .i64 a2, .int .i64 a3] w fun e w' => e = .returned (.bool true) ∧ RowKit.Below w.heap.size w w' := by
  have args : F2 (VR (vB (.slice A len cap) a1 a2 a3) ρ0) [sB 0, sB 1, sB 2, sB 3] #[.slice A len cap, .int .i64 a1, .int .i64 a2, .int .i64 a3].toList := ⟨rfl, rfl, rfl, rfl, trivial⟩
  have hone : ∀ i, (vB (.slice A len cap) a1 a2 a3 i).oneCell' = true := vB_one
  have hM : ∀ hl, cbM hl = true := fun hl => by cases hl; exact cbMF; exact cbMT
  have h0 := hM true
  unfold cbM at h0 hM
  split at h0
  · rename_i t1 s1 hpre
    split at h0
    · rename_i t2 hnew
      refine law3_ok (V0 := vB (.slice A len cap) a1 a2 a3) (E0 := E0n) (E := eW noExt) Try.func3 cbC_is args (by rw [Try.ntmps3]; show 4 ≤ _; omega) w rfl hB hl.1 hl.2 (most := 120) (by omega)
        (env_ok (fun op a b z h => (by cases h)) (fun k i z h => (by cases h)) hone) (noExt_ok rfl) (by kernel_rfl) cb_lin hpre hnew (fun hl q ga row hL => (drawsW (oth := noExt) (fun b p f args s v s' h => by cases h) hone hL).e) (fun hl => ?_)
      have hm := hM hl
      rw [hpre] at hm
      simp only [hnew] at hm
      split at hm
      · rename_i t3 s3 hmid
        refine ⟨t3, s3, hmid, fun q ga row hL a w' hh => ?_⟩
        obtain ⟨b, p, hp, hh⟩ := hh
        have hh := here_sub (vL_one hone b p) cbF [] hm hh
        obtain ⟨f1, f2, f3, f4⟩ := cb_free
        obtain ⟨x, x1, x2, hh⟩ := here_sym (k := 5) cb_at5 f1 f2 hh
        obtain ⟨y, y1, y2, hh⟩ := here_sym (k := 6) cb_at6 f3 f4 hh
        refine endTrue_ok (eCl_ok (withV_one (withV_one (vL_one hone b p) 5 x) 6 y) h1 (spi := a1) (frm := a2) (oth := a3) (x := x) (y := y) rfl rfl rfl rfl rfl rfl x1 y1) (noExt_ok rfl) ?_ hh
        exact cl_all x y 1048577 (decide (a3 = a1)) (decide (a3 = a2))
      · cases hm
    · cases h0
  · cases h0
end cookieBinds
end Go.Proofs.Ytddiclnkfhldlaa
