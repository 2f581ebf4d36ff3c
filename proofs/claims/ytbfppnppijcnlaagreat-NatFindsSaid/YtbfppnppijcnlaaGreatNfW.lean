/-
  The law NatFinds: every run of it returns true and changes nothing below.
  Conditions: none.
-/
import Derived.Test.YtbfppnppijcnlaaGreatNf
import Derived.Test.YtbfppnppijcnlaaGreatNf0
import Derived.Test.YtbfppnppijcnlaaGreatNf1
import Derived.Test.YtbfppnppijcnlaaGreatNf2
import Derived.Test.YtbfppnppijcnlaaGreatNf3
namespace Go.Proofs.YtbfppnppijcnlaaGreat
namespace natFinds
open Ab RowKit
set_option linter.unusedVariables false
set_option linter.unusedSimpArgs false
set_option maxRecDepth 100000
theorem zF : ∀ n, n < 24 → zOK false n = true := by
  intro n hn
  match n, hn with
  | 0, _ => exact Ab.zF0
  | 1, _ => exact Ab.zF1
  | 2, _ => exact Ab.zF2
  | 3, _ => exact Ab.zF3
  | 4, _ => exact Ab.zF4
  | 5, _ => exact Ab.zF5
  | 6, _ => exact Ab.zF6
  | 7, _ => exact Ab.zF7
  | 8, _ => exact Ab.zF8
  | 9, _ => exact Ab.zF9
  | 10, _ => exact Ab.zF10
  | 11, _ => exact Ab.zF11
  | 12, _ => exact Ab.zF12
  | 13, _ => exact Ab.zF13
  | 14, _ => exact Ab.zF14
  | 15, _ => exact Ab.zF15
  | 16, _ => exact Ab.zF16
  | 17, _ => exact Ab.zF17
  | 18, _ => exact Ab.zF18
  | 19, _ => exact Ab.zF19
  | 20, _ => exact Ab.zF20
  | 21, _ => exact Ab.zF21
  | 22, _ => exact Ab.zF22
  | 23, _ => exact Ab.zF23
  | n + 24, h => exact absurd h (by omega)
theorem zT : ∀ n, n < 24 → zOK true n = true := by
  intro n hn
  match n, hn with
  | 0, _ => exact Ab.zT0
  | 1, _ => exact Ab.zT1
  | 2, _ => exact Ab.zT2
  | 3, _ => exact Ab.zT3
  | 4, _ => exact Ab.zT4
  | 5, _ => exact Ab.zT5
  | 6, _ => exact Ab.zT6
  | 7, _ => exact Ab.zT7
  | 8, _ => exact Ab.zT8
  | 9, _ => exact Ab.zT9
  | 10, _ => exact Ab.zT10
  | 11, _ => exact Ab.zT11
  | 12, _ => exact Ab.zT12
  | 13, _ => exact Ab.zT13
  | 14, _ => exact Ab.zT14
  | 15, _ => exact Ab.zT15
  | 16, _ => exact Ab.zT16
  | 17, _ => exact Ab.zT17
  | 18, _ => exact Ab.zT18
  | 19, _ => exact Ab.zT19
  | 20, _ => exact Ab.zT20
  | 21, _ => exact Ab.zT21
  | 22, _ => exact Ab.zT22
  | 23, _ => exact Ab.zT23
  | n + 24, h => exact absurd h (by omega)
theorem bA : ∀ n, n < 24 → bOK n = true := by
  intro n hn
  match n, hn with
  | 0, _ => exact Ab.b0
  | 1, _ => exact Ab.b1
  | 2, _ => exact Ab.b2
  | 3, _ => exact Ab.b3
  | 4, _ => exact Ab.b4
  | 5, _ => exact Ab.b5
  | 6, _ => exact Ab.b6
  | 7, _ => exact Ab.b7
  | 8, _ => exact Ab.b8
  | 9, _ => exact Ab.b9
  | 10, _ => exact Ab.b10
  | 11, _ => exact Ab.b11
  | 12, _ => exact Ab.b12
  | 13, _ => exact Ab.b13
  | 14, _ => exact Ab.b14
  | 15, _ => exact Ab.b15
  | 16, _ => exact Ab.b16
  | 17, _ => exact Ab.b17
  | 18, _ => exact Ab.b18
  | 19, _ => exact Ab.b19
  | 20, _ => exact Ab.b20
  | 21, _ => exact Ab.b21
  | 22, _ => exact Ab.b22
  | 23, _ => exact Ab.b23
  | n + 24, h => exact absurd h (by omega)
theorem pF : ∀ n, n < 24 → pOK false n = true := by
  intro n hn
  match n, hn with
  | 0, _ => exact Ab.pF0
  | 1, _ => exact Ab.pF1
  | 2, _ => exact Ab.pF2
  | 3, _ => exact Ab.pF3
  | 4, _ => exact Ab.pF4
  | 5, _ => exact Ab.pF5
  | 6, _ => exact Ab.pF6
  | 7, _ => exact Ab.pF7
  | 8, _ => exact Ab.pF8
  | 9, _ => exact Ab.pF9
  | 10, _ => exact Ab.pF10
  | 11, _ => exact Ab.pF11
  | 12, _ => exact Ab.pF12
  | 13, _ => exact Ab.pF13
  | 14, _ => exact Ab.pF14
  | 15, _ => exact Ab.pF15
  | 16, _ => exact Ab.pF16
  | 17, _ => exact Ab.pF17
  | 18, _ => exact Ab.pF18
  | 19, _ => exact Ab.pF19
  | 20, _ => exact Ab.pF20
  | 21, _ => exact Ab.pF21
  | 22, _ => exact Ab.pF22
  | 23, _ => exact Ab.pF23
  | n + 24, h => exact absurd h (by omega)
theorem pT : ∀ n, n < 24 → pOK true n = true := by
  intro n hn
  match n, hn with
  | 0, _ => exact Ab.pT0
  | 1, _ => exact Ab.pT1
  | 2, _ => exact Ab.pT2
  | 3, _ => exact Ab.pT3
  | 4, _ => exact Ab.pT4
  | 5, _ => exact Ab.pT5
  | 6, _ => exact Ab.pT6
  | 7, _ => exact Ab.pT7
  | 8, _ => exact Ab.pT8
  | 9, _ => exact Ab.pT9
  | 10, _ => exact Ab.pT10
  | 11, _ => exact Ab.pT11
  | 12, _ => exact Ab.pT12
  | 13, _ => exact Ab.pT13
  | 14, _ => exact Ab.pT14
  | 15, _ => exact Ab.pT15
  | 16, _ => exact Ab.pT16
  | 17, _ => exact Ab.pT17
  | 18, _ => exact Ab.pT18
  | 19, _ => exact Ab.pT19
  | 20, _ => exact Ab.pT20
  | 21, _ => exact Ab.pT21
  | 22, _ => exact Ab.pT22
  | 23, _ => exact Ab.pT23
  | n + 24, h => exact absurd h (by omega)
noncomputable def vLw (x : Value) (a : Int) (w : Bool) : Nat → Value := fun j => if j = 0 then x else if j = 1 then .int .u8 a else if j = 2 then .bool w else if j = 3 then .int .i64 a else if j = 4 then .int .i64 (a % 3) else if j = 5 then .int .i64 (a % 3 * 7) else .bool false
theorem vLw_one {A : Option Addr} {len cap : Nat} {a : Int} {w : Bool} : ∀ i, (vLw (.slice A len cap) a w i).oneCell' = true := by
  intro i
  unfold vLw
  repeat (split; · rfl)
  rfl
theorem farG_ok {V : Nat → Value} {op : BinOp} {gt : Bool} {z : AC} (h : farG op gt = some z) (ρ : Rho) (xt : Nat) {x y : Int} (hxy : if gt = true then y < x else x < y) : ∃ c, CR V ρ z c ∧ binOp op xt (.int .i64 x) (.int .i64 y) = .pure c := by
  have e1 : (x == y) = false := by
    simp only [beq_eq_false_iff_ne, ne_eq]
    split at hxy <;> omega
  have e2 : decide (x < y) = !gt := by
    cases gt <;> simp only [if_true, Bool.false_eq_true, if_false] at hxy <;> simp <;> omega
  have e3 : decide (x ≤ y) = !gt := by
    cases gt <;> simp only [if_true, Bool.false_eq_true, if_false] at hxy <;> simp <;> omega
  have e4 : decide (y < x) = gt := by
    cases gt <;> simp only [if_true, Bool.false_eq_true, if_false] at hxy <;> simp <;> omega
  have e5 : decide (y ≤ x) = gt := by
    cases gt <;> simp only [if_true, Bool.false_eq_true, if_false] at hxy <;> simp <;> omega
  unfold farG at h
  split at h <;> first | (cases h; done) | (injection h with h; subst h)
  · exact ⟨_, rfl, by rw [← e1]; rfl⟩
  · exact ⟨.bool (x != y), by show Value.bool _ = _; rw [bne, e1]; rfl, rfl⟩
  · exact ⟨_, rfl, by rw [← e2]; rfl⟩
  · exact ⟨_, rfl, by rw [← e3]; rfl⟩
  · exact ⟨_, rfl, by rw [← e4]; rfl⟩
  · exact ⟨_, rfl, by rw [← e5]; rfl⟩
theorem farG_same {V : Nat → Value} {op : BinOp} {gt : Bool} {z : AC} (h : farG op gt = some z) {ρ : Rho} {c c' : Value} (h1 : CR V ρ z c) (h2 : CR V ρ z c') : c = c' := by
  unfold farG at h
  split at h <;> first | (cases h; done) | (injection h with h; subst h; rw [show c = _ from h1, show c' = _ from h2])
theorem nf_okK {V : Nat → Value} {DK : Nat → Prop} {wK : World} {n : Nat} {z : Bool} {a : Int} (N : NetOK V DK wK (tOf n) (nOf n)) (ha : 0 ≤ a ∧ a ≤ 255) (v1 : V 1 = .int .u8 a) (v3 : V 3 = .int .i64 a) (v4 : V 4 = .int .i64 (a % 3)) (v5 : V 5 = .int .i64 (a % 3 * 7)) (hz : if z = true then a % 3 = 0 else a % 3 ≠ 0) : EnvOK Tryz.prog V (eNf z n) ∧ ExtOKK DK wK Tryz.prog V (eNf z n) := by
  obtain ⟨h1, h2⟩ := net_okK N
  have num : ∀ j, isN5 j = true → ∃ x, V j = .int .i64 x ∧ fits x := by
    intro j hj
    unfold isN5 at hj
    simp only [Bool.or_eq_true] at hj
    rcases hj with hj | hj
    · rw [Nat.eq_of_beq_eq_true hj]
      exact ⟨_, v5, by unfold fits; omega⟩
    · exact N.num j hj
  constructor
  · refine env_ok (fun op x y c h ρ u v hu hv => ?_) (fun k i c h ρ => ?_) N.one
    · unfold tabNf at h
      split at h
      · rename_i i m
        have hu : u = V i := hu
        have hv : v = .int .i64 m := hv
        cases b3 : Nat.beq i 3
        · simp only [b3, cond_false] at h
          cases b4 : Nat.beq i 4
          · simp only [b4, cond_false] at h
            cases b5 : (Nat.beq i 5 && (!z && decide (m < 7)))
            · simp [b5] at h
            · simp only [b5, cond_true] at h
              simp only [Bool.and_eq_true, Bool.not_eq_true', decide_eq_true_eq] at b5
              obtain ⟨e5, ez, em⟩ := b5
              rw [Nat.eq_of_beq_eq_true e5, v5] at hu
              rw [ez, if_neg (by simp)] at hz
              obtain ⟨d, k1, _⟩ := farG_ok (V := V) h ρ 0 (x := a % 3 * 7) (y := m) (by rw [if_pos rfl]; omega)
              refine ⟨_, _, _, _, d, hu, hv, k1, fun xt => ?_⟩
              obtain ⟨d', k1', k2'⟩ := farG_ok (V := V) h ρ xt (x := a % 3 * 7) (y := m) (by rw [if_pos rfl]; omega)
              rw [hu, hv, k2', farG_same h k1 k1']
          · simp only [b4, cond_true] at h
            rw [Nat.eq_of_beq_eq_true b4, v4] at hu
            split at h
            · cases bc : decide (m = 7)
              · simp [bc] at h
              · simp only [bc, cond_true, Option.some.injEq] at h
                subst h
                have bc := of_decide_eq_true bc
                subst bc
                refine ⟨_, _, _, _, V 5, hu, hv, rfl, fun xt => ?_⟩
                rw [hu, hv, v5]
                show Sem.pure (Value.int .i64 (IntKind.i64.wrap (a % 3 * 7))) = _
                rw [IntKind.wrap_i64]
                congr 2
                omega
            · cases h
        · simp only [b3, cond_true] at h
          rw [Nat.eq_of_beq_eq_true b3, v3] at hu
          split at h
          · cases bc : decide (m = 3)
            · simp [bc] at h
            · simp only [bc, cond_true, Option.some.injEq] at h
              subst h
              have bc := of_decide_eq_true bc
              subst bc
              have hm : a.tmod 3 = a % 3 := Int.tmod_eq_emod_of_nonneg ha.1
              refine ⟨_, _, _, _, .int .i64 (a % 3), hu, hv, ?_, fun xt => ?_⟩
              · cases z
                · exact v4.symm
                · rw [if_pos rfl] at hz
                  rw [hz]
                  rfl
              · rw [hu, hv, ← hm]
                rfl
          · cases h
      · rename_i m i
        have hu : u = .int .i64 m := hu
        have hv : v = V i := hv
        cases b5 : (Nat.beq i 5 && (!z && decide (m < 7)))
        · simp [b5] at h
        · simp only [b5, cond_true] at h
          simp only [Bool.and_eq_true, Bool.not_eq_true', decide_eq_true_eq] at b5
          obtain ⟨e5, ez, em⟩ := b5
          rw [Nat.eq_of_beq_eq_true e5, v5] at hv
          rw [ez, if_neg (by simp)] at hz
          obtain ⟨d, k1, _⟩ := farG_ok (V := V) h ρ 0 (x := m) (y := a % 3 * 7) (by rw [if_neg (by simp)]; omega)
          refine ⟨_, _, _, _, d, hu, hv, k1, fun xt => ?_⟩
          obtain ⟨d', k1', k2'⟩ := farG_ok (V := V) h ρ xt (x := m) (y := a % 3 * 7) (by rw [if_neg (by simp)]; omega)
          rw [hu, hv, k2', farG_same h k1 k1']
      · rename_i i j
        cases b5 : (Nat.beq i 5 && Nat.beq j 5)
        · simp [b5] at h
        · simp only [b5, cond_true] at h
          simp only [Bool.and_eq_true] at b5
          have hu : u = V i := hu
          have hv : v = V j := hv
          rw [Nat.eq_of_beq_eq_true b5.1, v5] at hu
          rw [Nat.eq_of_beq_eq_true b5.2, v5] at hv
          unfold sameG at h
          split at h
          · injection h with h
            subst h
            refine ⟨_, _, _, _, .bool true, hu, hv, rfl, fun xt => ?_⟩
            rw [hu, hv]
            show Sem.pure (Value.bool (a % 3 * 7 == a % 3 * 7)) = _
            rw [beq_self_eq_true]
          · injection h with h
            subst h
            refine ⟨_, _, _, _, .bool false, hu, hv, rfl, fun xt => ?_⟩
            rw [hu, hv]
            show Sem.pure (Value.bool (a % 3 * 7 != a % 3 * 7)) = _
            rw [bne, beq_self_eq_true]
            rfl
          · cases h
      · cases h
    · unfold cvtNf at h
      split at h
      · rename_i e
        injection e with e
        injection h with h
        subst e
        subst h
        refine ⟨.u8, a, v1, ?_⟩
        show _ = V 3
        rw [v3, IntKind.wrap_i64]
        congr 1
        omega
      · exact h1.cvt _ _ _ h ρ
  · have e1 : EnvOK Tryz.prog V (env noTab noCvt tm5) := env_ok (fun op a b z h => (by cases h)) (fun k i z h => (by cases h)) N.one
    have x1 : ExtOK Tryz.prog V (env noTab noCvt tm5) := by
      refine ⟨?_, ?_, ?_⟩
      · intro f args s v s' h
        have h : tm5 f args s = some (v, s') := h
        unfold tm5 at h
        split at h
        · cases h
        · exact tmE_ok num f args s v s' h
      · intro f args s v s' h
        have h : tm5 f args s = some (v, s') := h
        unfold tm5 at h
        split at h
        · cases h
        · rw [tmE_st h]
          exact ⟨Nat.le_refl _, Nat.le_refl _⟩
      · intro f args s r h
        have h : tm5 f args s = some r := h
        unfold tm5 at h
        split at h
        · cases h
        · rename_i g hg
          exact ⟨g, hg⟩
    exact orX (E1 := env noTab noCvt tm5) (E2 := eNet (tOf n) (nOf n)) (E := eNf z n) rfl rfl rfl (fun f args s r h => by
      obtain ⟨g, hg⟩ := x1.fn f args s r h
      exact e1.bnd f g hg) x1 h2
theorem endTrueL_okK {V : Nat → Value} {E : Env} {DK : Nat → Prop} {wK : World} (hE : EnvOK Tryz.prog V E) (hx : ExtOKK DK wK Tryz.prog V E) {fn : Func} {base : Nat} {w0 w1 : World} (hlow : ∀ w', RowKit.Below base w1 w' → RowKit.Below w0.heap.size w0 w') {l : List Code} {t : Sl} {s : St} (h : endTrue E fn.results.toList (codeAE E l t s) = true) {a : Act} {w : World} (hh : HereK DK wK V base w1 t s a w) : wpL Tryz.prog (LawQ fn w0) l a w := by
  unfold endTrue at h
  split at h
  · rename_i t' s' hr
    split at h
    · rename_i hres
      refine codeAE_okK hE hx l hr hh (fun a' w' h' => ?_)
      obtain ⟨ρ', ht', hr', _, _, _, hb, _⟩ := h'
      obtain ⟨vs, g2, hr2⟩ := results_at hE ht' hr' hres
      have hv : vs = [.bool true] := by
        match vs, g2 with
        | [v], g2 => rw [show v = .bool true from g2.1]
      subst hv
      exact ⟨ht'.df, _, hr2, rfl, hlow _ hb⟩
    · cases h
  · cases h
theorem cls {c t' : Nat} {nar : Bool} (hc6 : c < 6) (htt : t' = 1 ∨ t' = 2) : ∃ n, n < 24 ∧ tOf n = t' ∧ nOf n = nar ∧ n / 4 = c := by
  refine ⟨4 * c + 2 * (t' - 1) + (if nar then 1 else 0), ?_, ?_, ?_, ?_⟩
  · split <;> omega
  · unfold tOf
    split <;> omega
  · unfold nOf
    cases nar
    · rw [if_neg (by simp), show (4 * c + 2 * (t' - 1) + 0) % 2 = 0 by omega]
      rfl
    · rw [if_pos rfl, show (4 * c + 2 * (t' - 1) + 1) % 2 = 1 by omega]
      rfl
  · split <;> omega
theorem vals_of {V : Nat → Value} {x : Value} {a : Int} {w : Bool} (hV : ∀ j, j < 30 → V j = vLw x a w j) : V 1 = .int .u8 a ∧ V 3 = .int .i64 a ∧ V 4 = .int .i64 (a % 3) ∧ V 5 = .int .i64 (a % 3 * 7) :=
  ⟨hV 1 (by omega), hV 3 (by omega), hV 4 (by omega), hV 5 (by omega)⟩
theorem walk (w : World) (A : Option Addr) (len cap : Nat) (hB : Byts w A len) (hl : len ≤ cap ∧ cap ≤ maxLen) (a : Int) (ha : 0 ≤ a ∧ a ≤ 255) (who : Bool) :
    Calls Tryz.prog 7 #[.slice A len cap, .int .u8 a, .bool who] w fun e w' => e = .returned (.bool true) ∧ RowKit.Below w.heap.size w w' := by
  have args : F2 (VR (vLw (.slice A len cap) a who) ρ0) (lwArgs who) (#[.slice A len cap, .int .u8 a, .bool who] : Array Value).toList := ⟨rfl, rfl, rfl, trivial⟩
  have hM : ∀ hl, lwM who hl = true := fun hl => by cases who <;> cases hl; exact lwMFF; exact lwMFT; exact lwMTF; exact lwMTT
  have h0 := hM true
  unfold lwM at h0 hM
  split at h0
  · rename_i t1 s1 hpre
    split at h0
    · rename_i t2 hnew
      refine law3_ok (V0 := vLw (.slice A len cap) a who) (E0 := E0n) (E := fun _ => E0n) (args := lwArgs who) Tryz.func7 lwC_is args (by rw [Tryz.ntmps7]; show 3 ≤ _; omega) w rfl hB hl.1 hl.2 (most := 120) (by omega)
        (e0n_ok vLw_one).1 (e0n_ok vLw_one).2 (by kernel_rfl) lw_lin hpre hnew (fun hl q ga row hL b' p _ => e0n_ok (vL_one vLw_one b' p)) (fun hl => ?_)
      have hm := hM hl
      rw [hpre] at hm
      simp only [hnew] at hm
      refine ⟨t2, _, rfl, fun q ga row hL a' w' hh => ?_⟩
      by_cases hz : a % 3 = 0
      · cases who
        · refine law_gw hL vLw_one hm (fun c t' nar V DK wK w2 a2 hc6 htt hV hN hlow h2 => ?_) hh
          obtain ⟨n, hn24, rfl, rfl, rfl⟩ := cls (nar := nar) hc6 htt
          obtain ⟨v1, v3, v4, v5⟩ := vals_of hV
          have hE := nf_okK (z := true) hN ha v1 v3 v4 v5 (by rw [if_pos rfl]; exact hz)
          exact endTrue_okK hE.1 hE.2 hlow (zF n hn24) h2
        · refine law_gw2 hL vLw_one hm (fun c t' nar V DK wK w2 a2 hc6 htt hV hN hlow h2 => ?_) hh
          obtain ⟨n, hn24, rfl, rfl, rfl⟩ := cls (nar := nar) hc6 htt
          obtain ⟨v1, v3, v4, v5⟩ := vals_of hV
          have hE := nf_okK (z := true) hN ha v1 v3 v4 v5 (by rw [if_pos rfl]; exact hz)
          exact endTrue_okK hE.1 hE.2 hlow (zT n hn24) h2
      · refine law_gw hL vLw_one hm (fun c t' nar V DK wK w2 a2 hc6 htt hV hN hlow h2 => ?_) hh
        obtain ⟨n, hn24, rfl, rfl, rfl⟩ := cls (nar := nar) hc6 htt
        obtain ⟨v1, v3, v4, v5⟩ := vals_of hV
        have hE := nf_okK (z := false) hN ha v1 v3 v4 v5 (by rw [if_neg (by simp)]; exact hz)
        have hp : pOK who n = true := by cases who; exact natFinds.pF n hn24; exact natFinds.pT n hn24
        unfold pOK at hp
        split at hp
        · rename_i t3 s3 hpr
          unfold preA at hpr
          split at hpr
          · rename_i t4 s4 hops
            refine ops_hereK hE.1 hE.2 hops h2 (fun a4 w4 h4 => ?_)
            show wpL Tryz.prog _ lwRest a4 w4
            rw [← List.take_append_drop 6 lwRest]
            refine codeALK_ok hE.1 hE.2 lwL1 hpr h4 (fun a5 w5 h5 => ?_)
            have h5 := hereK_tell (T := midT n) rfl hN.one (fun j _ => rfl) (fun j b e => by cases e) hp h5
            exact endTrueL_okK hE.1 hE.2 hlow (bA n hn24) h5
          · cases hpr
        · cases hp
    · cases h0
  · cases h0
theorem natFinds_walk (w : World) (A : Option Addr) (len cap : Nat) (hB : Byts w A len) (hl : len ≤ cap ∧ cap ≤ maxLen) (a : Int) (ha : 0 ≤ a ∧ a ≤ 255) (who : Bool) : Calls Tryz.prog 7 #[.slice A len cap, .int .u8 a, .bool who] w fun e w' => e = .returned (.bool true) ∧ RowKit.Below w.heap.size w w' := walk w A len cap hB hl a ha who
end natFinds
end Go.Proofs.YtbfppnppijcnlaaGreat
