/-
  An undisturbed connection of the two gateways: where it ends, class by class.
  Conditions: none.
-/
import Derived.Test.YtbfppnppijcnlaaGreatTwL
namespace Go.Proofs.YtbfppnppijcnlaaGreat
namespace Ab
open Go.RowKit
set_option linter.unusedVariables false
set_option linter.unusedSimpArgs false
set_option maxRecDepth 100000
noncomputable def anyS : Nat → Sl → Sl
  | 0, t => t
  | d + 1, t => anyS d (lset t d .any)
noncomputable def ptS (i : Nat) : AV := .one (.c (.ptr (some (i, 0))))
noncomputable def gwZ : List AC := [.int .i64 0, .int .i64 0, .int .i64 0, .int .i64 0, zZ, zZ, .int .i64 0, .int .i64 0, .int .i64 0, .int .i64 0, zZ, .int .i64 0, .int .i64 0, zZ, .int .i64 0, zZ, zZ, zZ, zZ]
noncomputable def twC : Code := Tryz.f11.body.getD .skip
theorem twC_is : Tryz.f11.body = some twC := by kernel_rfl
noncomputable def twOps : Array Oper := opsOf ((lin twC).drop 1)
noncomputable def twRest : List Code := (lin twC).drop 2
theorem tw_lin : lin twC = (lin twC).take 1 ++ (.region 1 twOps false :: twRest) := by kernel_rfl
noncomputable def uTw : Sl := lset (lset (lset (anyS 68 ⟨68, .leaf⟩) 2 (ptS 2)) 3 (ptS 3)) 4 (.one (.c (.bool false)))
noncomputable def rTw : St := ⟨[(3, ⟨36, gwZ, none⟩), (2, ⟨36, gwZ, none⟩)], 4, 0, []⟩
noncomputable def tTw : Tell := { f := [(2, 2), (3, 3)], fc := [], src := id, p := fun _ => false, lit := fun _ => none }
noncomputable def twPre (hl : Bool) : Bool :=
  match codeAL E0n ((lin twC).take 1) (pad Tryz.f11.ntmps (argC [])) (sC hl) with
  | some (t, s) => gwStart hl 0 1 11 twOps tTw uTw rTw t s && s.dirty.all (fun j => Nat.ble 2 j)
  | none => false
theorem twPreT : twPre true = true := by kernel_rfl
theorem twPreF : twPre false = true := by kernel_rfl
noncomputable def tOf (n : Nat) : Nat := 1 + n / 2 % 2
noncomputable def nOf (n : Nat) : Bool := Nat.beq (n % 2) 1
noncomputable def twPreL : List Code := twRest.take 3
noncomputable def twLB : Code := match twRest.drop 3 with | .block _ (.loop b) :: _ => b | _ => .skip
noncomputable def twTail : List Code := twRest.drop 4
theorem twRest_is : twRest = twPreL ++ (.block 0 (.loop twLB) :: twTail) := by kernel_rfl
noncomputable def eM0 : Env := eMid noTab
noncomputable def mdU (c : Nat) : Sl := lset (lset (lset (lset (lset (lset (lset (anyS 68 ⟨68, .leaf⟩) 2 (ptS 0)) 3 (ptS 1)) 4 (.one (.c (.bool false)))) 5 (ptS 2)) 6 (ptS 3)) 7 (ptS 4)) 8 (.one (.c (.int .i64 (Int.ofNat (mdM c)))))
/-- From where the gateways are drawn to the first reading of a template. -/
noncomputable def twOKa (c : Nat) : Bool :=
  match opsA eM0 (fnA eM0 30) twOps (twOps.toList.drop 2) (lset uTw 11 (gwV c rTw)) (gwSt c rTw) with
  | some (t, s) => (match codeAL eM0 twPreL t s with
    | some (t1, s1) => (match roundsA eM0 twLB (mdM c) t1 s1 with
      | some (t2, s2) => retOK (mdT c) t2 s2 (mdU c) (mdS c)
      | none => false)
    | none => false)
  | none => false
/-- From there to the end. -/
noncomputable def twOKb (n : Nat) : Bool :=
  match codeA (eNet (tOf n) (nOf n)) (fnA (eNet (tOf n) (nOf n)) 30) (drawA (eNet (tOf n) (nOf n)) (fnA (eNet (tOf n) (nOf n)) 30)) 1000 (.loop twLB) (mdU (n / 4)) (mdS (n / 4)) with
  | some (.exit 0, t0, s0) => (match codeAE (eNet (tOf n) (nOf n)) twTail t0 s0 with
    | some (.ret, t, s) => (match resultsA (eNet (tOf n) (nOf n)) t s Tryz.f11.results.toList with
      | some [a, b, r] => retOK (twT n) (pad 3 [.one a, .one b, .one r]) s (twU (kdOf n)) (twS (kdOf n))
      | _ => false)
    | _ => false)
  | _ => false
theorem if_zero {X Y : Prop} (h : X) : (if (0 : Nat) = 0 then X else Y) := by
  rw [if_pos rfl]
  exact h
/-- What two returns. -/
noncomputable def TwoPost (A : Nat → Value) (g : Nat) (w : World) (e : Ending) (w' : World) : Prop :=
  ∃ n, n < 24 ∧ ∃ V DK wK ρ, ∃ x y z : Value, e = .returned (.tuple #[x, y, z]) ∧ (∀ j, j < 30 → V j = A j) ∧ NetOK V DK wK (tOf n) (nOf n) ∧ TR V ρ (twU (kdOf n)) { tmps := #[x, y, z], defers := [] } ∧ Rep V ρ (twS (kdOf n)) w' ∧ Clean ρ (twS (kdOf n)) ∧ (∀ i b, ρ.blk i = some b → w.heap.size ≤ b) ∧ KP DK wK ρ w' ∧ GrB w.heap.size g w w'
section
variable {q : Ls} {ga : Nat} {row : Array Value} {hl : Bool}
theorem two_any (hRa : ∀ c, c < 6 → twOKa c = true) (hRb : ∀ n, n < 24 → twOKb n = true) (hL : LsOK hl q ga row) {w : World} {g p : Nat} (hC : Cod w g q p) (hB : RowIn hl ga row w) (hne : hl = true → ga ≠ g) {A : Nat → Value} (hA : ∀ i, (A i).oneCell' = true) :
    Calls Tryz.prog 11 #[.pointer (some ⟨g, 0, none⟩)] w (TwoPost A g w) := by
  obtain ⟨ρ, h1, h2, h3, h4⟩ := rep_start hL hC hB hne
  have hrun : twPre hl = true := by
    cases hl
    · exact twPreF
    · exact twPreT
  have hX : EnvOK Tryz.prog (VG q ga row) E0n ∧ ExtOK Tryz.prog (VG q ga row) E0n := e0n_ok (vL_one V1_one 0 0)
  have hv : F2 (VR (VG q ga row) ρ) (argC []) (#[.pointer (some ⟨g, 0, none⟩)] : Array Value).toList := ⟨⟨g, h3, rfl⟩, trivial⟩
  have ht := pad_tr (n := Tryz.f11.ntmps) hv (by
    rw [Tryz.ntmps11]
    show 1 ≤ _
    omega)
  unfold twPre at hrun
  split at hrun
  · rename_i t0 s0 r0
    simp only [Bool.and_eq_true] at hrun
    obtain ⟨hst, hd0⟩ := hrun
    refine calls_of_wp Tryz.func11 twC_is (wp_of_lin ?_)
    rw [tw_lin]
    refine codeAL_goes hX.1 hX.2 _ r0 ht h1 h2 (fun ρ0 a0 w0 g0 ht0 => ?_)
    have c0 := h2.goes g0
    have hb0 : ∀ i c, ρ0.blk i = some c → w.heap.size ≤ c ∨ i = 0 ∨ i = 1 := by
      intro i c e
      by_cases hi : i < (sC hl).next ∨ s0.next ≤ i
      · rcases hi with hi | hi
        · have : i < 2 := hi
          omega
        · rw [c0.b i hi] at e
          cases e
      · rcases g0.2.1.new i c (by omega) (by omega) e with h | ⟨j, hj, hj2, _⟩
        · exact .inl h
        · have := Nat.le_of_ble_eq_true (List.all_eq_true.1 hd0 j hj)
          have : j < 2 := hj2
          omega
    show (Code.region 1 twOps false).wp Tryz.prog (Exit.then (wpL Tryz.prog _ twRest) _) a0 w0
    refine gw_region (V0 := V1) hL V1_one hA (T := tTw) (fun j hj => by cases hj) (fun j => rfl) rfl hst ht0 g0.1 c0 (base := w.heap.size) hb0 g0.2.1.size (fun c t' nar V' DK wK w2 a' g' hc6 htt hVA hN hg0 hgr hh => ?_)
    have hgg : g' = g := by
      rw [g0.2.1.blk 0 (.inl (by show 0 < 2; omega)), h3] at hg0
      injection hg0 with hg0
      exact hg0.symm
    subst hgg
    obtain ⟨n, hn24, hnt, hnn, hnc⟩ : ∃ n, n < 24 ∧ tOf n = t' ∧ nOf n = nar ∧ n / 4 = c := by
      refine ⟨4 * c + 2 * (t' - 1) + (if nar then 1 else 0), ?_, ?_, ?_, ?_⟩
      · split <;> omega
      · unfold tOf
        split <;> omega
      · unfold nOf
        cases nar
        · rw [if_neg (by simp), show (4 * c + 2 * (t' - 1) + 0) % 2 = 0 by omega]
          rfl
        · rw [if_pos rfl, show (4 * c + 2 * (t' - 1) + 1) % 2 = 1 by omega]
          rfl
      · split <;> omega
    have hok := hRb n hn24
    have hoka := hRa c hc6
    unfold twOKb at hok
    unfold twOKa at hoka
    obtain ⟨m1, m2⟩ := netM_okK (tab := noTab) (fun op a b z h => (by cases h)) hN
    subst hnt
    subst hnn
    subst hnc
    obtain ⟨e1, e2⟩ := net_okK hN
    split at hoka
    · rename_i ta sa ra1
      split at hoka
      · rename_i tb sb rb1
        split at hoka
        · rename_i tc sc rc1
          refine ops_hereK m1 m2 ra1 hh (fun a4 w4 h4' => ?_)
          show wpL Tryz.prog _ twRest a4 w4
          rw [twRest_is]
          refine codeALK_ok m1 m2 twPreL rb1 h4' (fun a5 w5 h5' => ?_)
          show (Code.block 0 (.loop twLB)).wp Tryz.prog (Exit.then (wpL Tryz.prog _ twTail) _) a5 w5
          refine wp_block (wp_of_loop ?_)
          refine rounds_hereK m1 m2 _ rc1 h5' (fun a6 w6 h6' => ?_)
          have h6' := hereK_tell (T := mdT (n / 4)) rfl hN.one (fun j _ => rfl) (fun j b e => by cases e) hoka h6'
          split at hok
          · rename_i t0' s0' rl
            refine loopEnd_hereK e1 e2 rl h6' (fun a7 w7 h7' => ?_)
            simp only [AEx, Exit.inBlock, Exit.then, if_true]
            split at hok
            · rename_i t s hrest
              split at hok
              · rename_i l3 ra rb rr hres
                refine codeAE_okK e1 e2 twTail hrest h7' (fun a3 w3 h' => ?_)
                obtain ⟨ρ3, ht3, hr3, c3, d3, b3, hbel, hsz, hk3⟩ := h'
                obtain ⟨vs, g2, hr2⟩ := results_at e1 ht3 hr3 hres
                obtain ⟨x, y, z, rfl, hx, hy, hz⟩ : ∃ x y z, vs = [x, y, z] ∧ V1R V' ρ3 ra x ∧ V1R V' ρ3 rb y ∧ V1R V' ρ3 rr z := by
                  match vs, g2 with
                  | [x, y, z], g2 => exact ⟨x, y, z, rfl, g2.1, g2.2.1, g2.2.2.1⟩
                have htr : TR V' ρ3 (pad 3 [.one ra, .one rb, .one rr]) { tmps := #[x, y, z] ++ Array.replicate (3 - (#[x, y, z] : Array Value).size) undef, defers := [] } := pad_tr (args := [.one ra, .one rb, .one rr]) (vals := #[x, y, z]) ⟨hx, hy, hz, trivial⟩ (by show 3 ≤ 3; omega)
                obtain ⟨k1, k2, k3, k4, k5⟩ := tell_all (V := V') (V' := V') (T := twT n) hN.one (fun j _ => rfl) (fun j b e => by cases e) (fun j x v e => by cases e) hok htr hr3
                refine ⟨ht3.df, _, hr2, n, hn24, V', DK, wK, ρ3.tell (twT n), x, y, z, rfl, hVA, hN, ?_, k2, ⟨k3, k4⟩, fun i b e => ?_, ⟨hk3.lt, hk3.eq, fun b hb i e => ?_⟩, ?_⟩
                · exact k1
                · obtain ⟨j, _, e'⟩ := k5 i b e
                  exact b3 j b e'
                · obtain ⟨j, _, e'⟩ := k5 i b e
                  exact hk3.no b hb j e'
                · obtain ⟨o1, o2, o3, o4, o5⟩ := hgr
                  refine ⟨(hbel.os.trans o1).trans g0.2.1.os, (hbel.tape.trans o2).trans g0.2.1.tape, (hbel.output.trans o3).trans g0.2.1.out, Nat.le_trans g0.2.1.size (Nat.le_trans o4 hbel.size), fun i hi hne' => ?_⟩
                  refine ((hbel.block i hi).trans (o5 i hi hne')).trans (g0.2.1.fr i hi (fun j hj hj2 e => ?_))
                  have := Nat.le_of_ble_eq_true (List.all_eq_true.1 hd0 j hj)
                  have : j < 2 := hj2
                  omega
              · cases hok
            · cases hok
          · cases hok
        · cases hoka
      · cases hoka
    · cases hoka
  · cases hrun
end
end Ab
end Go.Proofs.YtbfppnppijcnlaaGreat
