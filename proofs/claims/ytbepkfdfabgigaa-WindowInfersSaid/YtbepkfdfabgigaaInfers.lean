/-
  window.Infer returns the only number of the right remainder in the range, as the reference does (P23.2): the law WindowInfers returns true at every input. Conditions: none.
-/
import Derived.Test.YtbepkfdfabgigaaRows
import Derived.WalkKit
import Derived.ProofKit
import Derived.OpenShut
import Derived.Test.YtbepkfdfabgigaaBase
import Derived.LoopTactic
namespace Go.Proofs.Ytbepkfdfabgigaa.windowInfers
open Go.ChangeShapes Go.WideShapes Go.ChangeAt Go.RowKit
set_option linter.unusedVariables false      -- a walk need not use every 'w<i>' (that an integer argument fits its kind)

theorem own : ownKnob Try.prog.godebug = none := by kernel_rfl

def us (t : Int) (k : Nat) : Int := if k = 0 then t else if k = 1 then t % 3000 else t % 40
theorem us_bd (t : Int) (k : Nat) (h0 : 0 ≤ t) (h1 : t ≤ 4611686018427387904) : 0 ≤ us t k ∧ us t k ≤ 4611686018427387904 := by
  unfold us; split
  · omega
  · split <;> omega
theorem walk (a0 : Int) (a1 : Int) (a2 : Int) (a3 : Int) (w0 : (Lit.int .i64 a0).wf = true) (w1 : (Lit.int .i64 a1).wf = true) (w2 : (Lit.int .i64 a2).wf = true) (w3 : (Lit.int .u64 a3).wf = true) (w : World) :
    Calls Try.prog 3 #[.int .i64 a0, .int .i64 a1, .int .i64 a2, .int .u64 a3] w fun e w' => e = .returned (.bool true) ∧ Grown w w' := by
  obtain ⟨b0, c0⟩ := bounds_i64 w0
  obtain ⟨b1, c1⟩ := bounds_i64 w1
  obtain ⟨b2, c2⟩ := bounds_i64 w2
  obtain ⟨b3, c3⟩ := bounds_u64 w3
  clear w0 w1 w2 w3
  have t0 : 0 ≤ a0 % 4611686018427387904 := by omega
  have t1 : a0 % 4611686018427387904 ≤ 4611686018427387904 := by omega
  have s0 : 0 ≤ a1 % 1024 := by omega
  have s1 : a1 % 1024 ≤ 1023 := by omega
  have k0 : 0 ≤ a2 % 32 := by omega
  have k1 : a2 % 32 ≤ 31 := by omega
  have Ht := Lib.hid (mod_any a0 4611686018427387904 w (by omega) (by omega) b0 c0)
  have Hs := Lib.hid (mod_any a1 1024 w (by omega) (by omega) b1 c1)
  have Hk := Lib.hid (mod_any a2 32 w (by omega) (by omega) b2 c2)
  generalize a0 % 4611686018427387904 = t at *
  generalize a1 % 1024 = s at *
  generalize a2 % 32 = k at *
  go_enter Try.func3, Try.ntmps3
  go_wp2_with fail
  refine (awake_any _).mono ?_
  rintro e w' ⟨rfl, rfl⟩
  go_wp2_with fail
  refine Ht.out.mono ?_
  rintro e w' ⟨rfl, rfl⟩
  go_wp2_with fail
  refine Hs.out.mono ?_
  rintro e w' ⟨rfl, rfl⟩
  go_wp2_with fail
  refine Hk.out.mono ?_
  rintro e w' ⟨rfl, rfl⟩
  go_wp2_with fail
  have hg : Grown w (w.alloc (Obj.cells #[Value.int IntKind.u64 t, Value.int IntKind.u64 (t % 3000), Value.int IntKind.u64 (t % 40)] 22)) := Grown.alloc (Grown.refl w) _ _
  have hc : ∀ n : Nat, n < 3 → (w.alloc (Obj.cells #[Value.int IntKind.u64 t, Value.int IntKind.u64 (t % 3000), Value.int IntKind.u64 (t % 40)] 22)).cell? ⟨w.heap.size, n, none⟩ = some (.int .u64 (us t n)) := by
    intro n hn
    rcases (by omega : n = 0 ∨ n = 1 ∨ n = 2) with rfl | rfl | rfl <;> simp [us, go_sem]
  generalize w.alloc (Obj.cells #[Value.int IntKind.u64 t, Value.int IntKind.u64 (t % 3000), Value.int IntKind.u64 (t % 40)] 22) = W1 at *
  generalize w.heap.size = B at *
  have HG := Lib.hid hg
  have HC := Lib.hid hc
  clear hg hc Ht Hs Hk
  go_loopw [35] (fun i wr => ∃ n : Nat, n ≤ 3 ∧ i = .int .i64 n ∧ ∃ d, wr = W1.drewN d) (fun i _ => 3 - (intOf i).toNat)
  case atStart => exact ⟨0, by omega, rfl, 0, rfl⟩
  case round =>
    obtain ⟨n, hn, rfl, d, hd⟩ := hrel
    have Hd := Lib.hid hd
    have HCr : ∀ n : Nat, n < 3 → wr.cell? ⟨B, n, none⟩ = some (.int .u64 (us t n)) := by intro m hm; rw [hd]; exact HC.out m hm
    clear hd
    by_cases hlt : n < 3
    · have hcell := HCr n hlt; clear HCr
      obtain ⟨hu0, hu1⟩ := us_bd t n t0 t1
      generalize us t n = u at *
      have hMM := two_pow_le (1 + k).toNat 32 (by omega)
      have hM2 := two_pow_le 1 (1 + k).toNat (by omega)
      generalize hM : (2 : Int) ^ (1 + k).toNat = M at *
      have HN : ∀ L, lst u (1 + s) = L → L ≤ inf (lst u (1 + s)) a3 M ∧ inf (lst u (1 + s)) a3 M < L + M ∧ inf (lst u (1 + s)) a3 M % M = a3 % M := by
        intro L hL
        have e0 := Int.emod_nonneg (a3 - L) (show M ≠ 0 by omega)
        have e1 := Int.emod_lt_of_pos (a3 - L) (show 0 < M by omega)
        refine ⟨by unfold inf; rw [hL]; omega, by unfold inf; rw [hL]; omega, ?_⟩
        unfold inf
        rw [hL, Int.add_emod_emod, show L + (a3 - L) = a3 by omega]
      have hi := fun W => infer_any u (1 + s) a3 (1 + k) M W (by omega) (by omega) (by omega) (by omega) (by omega) (by omega) (by omega) (by omega) hM (by omega) (by omega)
      have hr := fun W => rinfer_any u (1 + s) a3 (1 + k) M W (by omega) (by omega) (by omega) (by omega) (by omega) (by omega) (by omega) (by omega) hM (by omega) (by omega)
      by_cases hst : 1 + s < u + 1
      · obtain ⟨n0, n1, n2⟩ := HN (u + 1 - (1 + s)) (by unfold lst; rw [if_pos (by omega)]; omega)
        generalize inf (lst u (1 + s)) a3 M = N at *
        have q1 : decide (N < u + 1 - (1 + s)) = false := by simp; omega
        have q2 : IntKind.u64.wrap (u + 1 - (1 + s) + M) = u + 1 - (1 + s) + M := by rw [IntKind.wrap_u64]; omega
        have q3 : decide (u + 1 - (1 + s) + M ≤ N) = false := by simp; omega
        have Hi := Lib.hid hi
        have Hr := Lib.hid hr
        clear hi hr HN
        go_wp2_with fail
        refine (Hi.out _).mono ?_
        rintro e w' ⟨rfl, rfl⟩
        go_wp2_with fail
        go_quiet ((go_at_call 14; exact Calls.quiet_of (Hr.out _)))
        go_wp2_with fail
        go_roundw
        case rel => exact ⟨n + 1, by omega, by go_num, _, by rw [Hd.out, World.drewN_drewN]⟩
        case measure => simp [intOf]; omega
      · obtain ⟨n0, n1, n2⟩ := HN 0 (by unfold lst; rw [if_neg (by omega)])
        generalize inf (lst u (1 + s)) a3 M = N at *
        have q1 : decide (N < 0) = false := by simp; omega
        have q2 : IntKind.u64.wrap M = M := by rw [IntKind.wrap_u64]; omega
        have q3 : decide (M ≤ N) = false := by simp; omega
        have Hi := Lib.hid hi
        have Hr := Lib.hid hr
        clear hi hr HN
        go_wp2_with fail
        refine (Hi.out _).mono ?_
        rintro e w' ⟨rfl, rfl⟩
        go_wp2_with fail
        go_quiet ((go_at_call 14; exact Calls.quiet_of (Hr.out _)))
        go_wp2_with fail
        go_roundw
        case rel => exact ⟨n + 1, by omega, by go_num, _, by rw [Hd.out, World.drewN_drewN]⟩
        case measure => simp [intOf]; omega
    · go_wp2_with fail
      go_ret
      refine ⟨rfl, ?_⟩
      rw [Hd.out]
      exact HG.out

set_option maxRecDepth 100000 in
theorem lifted (os : Os) (started : os.Started) (H : Type) (enc : TypeId × Value → H) :
    ReturnsInHanded {} Try.checked os 3 .any (Rows.windowInfersSpec.pre6 enc Try.prog Try.f3 Rows.windowInfersRow.domain false) (Rows.windowInfersSpec.post enc Try.prog Try.f3 false true false false) := by
  refine returnsInHanded_of_change (C := Try.checked) own started (by kernel_rfl) Try.func3
    (ChangeSpec.witness6 (enc := enc) (C := Try.checked) false ⟨#[], #[.int .i64 0, .int .i64 0, .int .i64 0, .int .u64 0], []⟩ 8 (by kernel_rfl) (by kernel_rfl) (by kernel_rfl) (by kernel_rfl)) ?_
  intro W base args ds gs before hval0 hW hcnd _
  have hval : ∀ (j : Nat) t v, Try.f3.params[j]? = some t → args[j]? = some v → Value.okWide Try.prog W .any base t v := hval0
  have hW' := hW
  obtain ⟨p, q, hA0, hV, rfl, hfz, hnd⟩ := hW
  have hA : DataW.TrodAll enc Try.prog W 0 (fun _ => true) true Try.f3.params.toList args.toList ds p := hA0
  rw [Try.params3] at hA hval
  obtain ⟨v0, vs0, d0, ds0, p0, q0, hargs, rfl, rfl, h0, r0⟩ := trodAll_cons hA
  obtain ⟨v1, vs1, d1, ds1, p1, q1, rfl, rfl, rfl, h1, r1⟩ := trodAll_cons r0
  obtain ⟨v2, vs2, d2, ds2, p2, q2, rfl, rfl, rfl, h2, r2⟩ := trodAll_cons r1
  obtain ⟨v3, vs3, d3, ds3, p3, q3, rfl, rfl, rfl, h3, r3⟩ := trodAll_cons r2
  obtain ⟨rfl, rfl, rfl⟩ := trodAll_nil r3
  obtain rfl : args = #[v0, v1, v2, v3] := by cases args; simp_all
  obtain ⟨rfl, rfl⟩ := trodVars_none hV
  obtain ⟨a0, rfl, rfl, rfl, w0⟩ := open_int Try.underlying3 (hval 0 3 v0 rfl rfl) h0
  obtain ⟨a1, rfl, rfl, rfl, w1⟩ := open_int Try.underlying3 (hval 1 3 v1 rfl rfl) h1
  obtain ⟨a2, rfl, rfl, rfl, w2⟩ := open_int Try.underlying3 (hval 2 3 v2 rfl rfl) h2
  obtain ⟨a3, rfl, rfl, rfl, w3⟩ := open_int Try.underlying22 (hval 3 22 v3 rfl rfl) h3
  clear hA0 hval0
  simp only [List.append_nil] at hW'
  refine (walk a0 a1 a2 a3 w0 w1 w2 w3 W).mono fun e W' ⟨he, hg⟩ => ?_
  subst he
  exact ⟨_, rfl, post_of_same (pa := []) (pv := []) hW' (fun _ _ _ => (trodAll_cons_mk (shut_bool Try.underlying4 _) trodAll_mk0)) (fun sp _ => (trodAll_cons_mk (shut_int Try.underlying3 w0) (trodAll_cons_mk (shut_int Try.underlying3 w1) (trodAll_cons_mk (shut_int Try.underlying3 w2) (trodAll_cons_mk (shut_int Try.underlying22 w3) trodAll_mk0))))) (fun _ _ => rfl) rfl
    (hg.frame _) hg.2.1 (ok_one (by kernel_rfl) rfl (okWide_bool_mk Try.underlying4 _))⟩

theorem over : Rows.windowInfersRow.holds Try.pinned (OpenSpec.ofChange Rows.windowInfersSpec) :=
  OpenClaim.holds_of_wide 3 Try.f3 rfl rfl rfl rfl rfl rfl rfl ⟨rfl, rfl, rfl, rfl, rfl⟩ rfl rfl rfl rfl rfl (by kernel_rfl) Try.func3 (by kernel_rfl)
    (of_decide_eq_true (by kernel_rfl)) (by unfold Func.isWrapper; first | (rw [if_pos (by decide +kernel)]; kernel_rfl) | (rw [if_neg (by decide +kernel)]; exact ⟨rfl, rfl⟩))
    (fun os started H enc _ => lifted os started H enc)

theorem proved : Rows.WindowInfersSaid :=
  over
#print axioms proved
end Go.Proofs.Ytbepkfdfabgigaa.windowInfers
