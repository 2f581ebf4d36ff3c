/-
  A law that connects two drawn gateways by the call of two, and goes on with what two yields.
  Conditions: none.
-/
import Derived.Test.YtbfppnppijcnlaaGreatTwo
namespace Go.Proofs.YtbfppnppijcnlaaGreat
namespace Ab
open Go.RowKit
set_option linter.unusedVariables false
set_option linter.unusedSimpArgs false
set_option maxRecDepth 100000
noncomputable def ckTw (hl : Bool) (i0 i1 d : Nat) (o : Oper) (t : Sl) (s : St) : Bool :=
  match calleeOf o, o.dst with
  | some (f, l), some e => Nat.beq f 11 && (Nat.beq e d && ((match evals t l with | [.one (.c (.ptr (some (j, 0))))] => Nat.beq j i0 | _ => false) && codesIn hl i0 i1 s 900))
  | _, _ => false
theorem ckTw_ok {hl : Bool} {i0 i1 d : Nat} {o : Oper} {t : Sl} {s : St} (h : ckTw hl i0 i1 d o t s = true) : ∃ l, calleeOf o = some (11, l) ∧ o.dst = some d ∧ evals t l = [.one (.c (.ptr (some (i0, 0))))] ∧ codesIn hl i0 i1 s 900 = true := by
  unfold ckTw at h
  split at h
  · rename_i f l e h1 h2
    simp only [Bool.and_eq_true] at h
    obtain ⟨k1, k2, k3, k4⟩ := h
    have k1 := Nat.eq_of_beq_eq_true k1
    subst k1
    have k2 := Nat.eq_of_beq_eq_true k2
    subst k2
    refine ⟨l, h1, h2, ?_, k4⟩
    split at k3
    · rename_i j he
      rw [he, Nat.eq_of_beq_eq_true k3]
    · cases k3
  · cases h
theorem two_fn : E0n.fn 11 = some Tryz.f11 := by kernel_rfl
noncomputable def tLow : Tell := { f := [], fc := [], src := id, p := fun j => Nat.blt j 30, lit := fun _ => none }
noncomputable def lwStart (hl : Bool) (i0 i1 d : Nat) (ops : Array Oper) (u : Sl) (t : Sl) (s : St) : Bool :=
  rfreeT 902 903 t t.length && (rfreeH 902 903 s.heap && (match opsA E0n (fnA E0n 30) ops (ops.toList.take 1) t s with
    | some (t1, s1) => (match ops[1]? with
      | some o1 => ckTw hl i0 i1 d o1 t1 s1 && (retOK tLow t1 (codeOn s1 i0) u ⟨[], 0, 0, []⟩ && Nat.blt i0 s.next)
      | none => false)
    | none => false))
section
variable {V0 : Nat → Value} {q : Ls} {ga : Nat} {row : Array Value} {hl : Bool}
theorem law_two (hRa : ∀ c, c < 6 → twOKa c = true) (hRb : ∀ n, n < 24 → twOKb n = true) (hL : LsOK hl q ga row) (hone : ∀ i, (V0 i).oneCell' = true) {i0 i1 d id : Nat} {ops : Array Oper} {u t : Sl} {s : St} (hck : lwStart hl i0 i1 d ops u t s = true) {fn : Func} {w0 : World} {l : List Code}
    (hall : ∀ n, n < 24 → ∀ V DK wK, (∀ j, j < 30 → V j = V0 j) → NetOK V DK wK (tOf n) (nOf n) → ∃ E, EnvOK Tryz.prog V E ∧ ExtOKK DK wK Tryz.prog V E ∧ endTrue E fn.results.toList (restA E ops l (lset u d (twV (kdOf n))) (twS (kdOf n))) = true)
    {a : Act} {w : World} (hh : HereC V0 q ga row w0.heap.size w0 t s a w) : wpL Tryz.prog (LawQ fn w0) (.region id ops false :: l) a w := by
  obtain ⟨b, p, _, ρ, ht, hr, h1, h2, h3, h4, h5⟩ := hh
  unfold lwStart at hck
  simp only [Bool.and_eq_true] at hck
  obtain ⟨ft, fh, hck⟩ := hck
  split at hck
  · rename_i t1 s1 r1
    split at hck
    · rename_i o1 ho1
      simp only [Bool.and_eq_true] at hck
      obtain ⟨ck, hret, hi0⟩ := hck
      have hi0 : i0 < s.next := Nat.le_of_ble_eq_true hi0
      have hsz : 2 ≤ ops.size := by
        have := (Array.getElem?_eq_some_iff.1 ho1).1
        omega
      show (Code.region id ops false).wp Tryz.prog (Exit.then (wpL Tryz.prog (LawQ fn w0) l) (LawQ fn w0)) a w
      refine wp_region ?_
      rw [List.range_eq_range', show ops.size = 1 + ((ops.size - 2) + 1) by omega]
      have hbp : ∀ i, (i < 902 ∨ 903 ≤ i) → vL V0 q ga row b p i = vL V0 q ga row 0 0 i := by
        intro i hi
        unfold vL
        split
        · rfl
        · split
          · rfl
          · rw [if_neg (by omega), if_neg (by omega)]
      have ht := tr_raV hbp ft ht
      have hr := rep_raV hbp fh hr
      have hV1 := vL_one (q := q) (ga := ga) (row := row) hone 0 0
      obtain ⟨e1, e2⟩ := e0n_ok hV1
      have hc : Clean ρ s := ⟨h1, h2⟩
      have hk : KP (fun _ => False) w ρ w := ⟨fun b h => h.elim, fun b h => h.elim, fun b h => h.elim⟩
      have e2K : ExtOKK (fun _ => False) w Tryz.prog (vL V0 q ga row 0 0) E0n := ExtOK.kk (noDeep e1 (fun f args s r h => e2.fn f args s r h)) e2
      have tk := ops_takeK e1 (fnA_okK e1 e2K 30) (fnA_fnK e2K.fn 30) (fnA_up (E := E0n) e2.up 30) (ops := ops) (ops.toList.take 1) 0 ((ops.size - 2) + 1) (fun i o ho => by have := sub_at (ops := ops) (k := 0) (n := 1) i o (by simpa using ho); exact this) r1 ht hr (hc.free _) hk (Q := Exit.then (wpL Tryz.prog (LawQ fn w0) l) (LawQ fn w0))
      have hl1 : (ops.toList.take 1).length = 1 := by
        rw [List.length_take, Array.length_toList]
        omega
      rw [hl1] at tk
      refine tk (fun ρ1 a1 w1 g1 ht1 hk1 => ?_)
      have hs0 : HereK (fun _ => False) w (vL V0 q ga row 0 0) w0.heap.size w0 t1 s1 a1 w1 := hereK_goes hr h1 h2 h3 h4 h5 hk g1 ht1
      obtain ⟨_, _, _, _, _, _, b1, b2, _⟩ := hs0
      rw [show (0 + 1 : Nat) = 1 from rfl, List.range'_succ, wpOps_cons]
      obtain ⟨l3, q1, q2, q3, q4⟩ := ckTw_ok ck
      refine wp_callee2 e1 two_fn ho1 q1 ht1 (fun vals hv => ?_)
      rw [q3] at hv
      obtain ⟨d0, d1⟩ := codesIn_ok q4
      obtain ⟨g, p', hbg, hC⟩ := rep_some hL g1.1 d0 d1
      obtain ⟨hrow, hne⟩ := row_ne hL g1.1 q4 hC
      have hvals : vals = #[.pointer (some ⟨g, 0, none⟩)] := by
        apply Array.ext'
        match hl : vals.toList, hv with
        | [x], hv =>
          obtain ⟨b', f0, f1⟩ := hv.1
          rw [hbg] at f0
          injection f0 with f0
          subst f0
          rw [f1]
      subst hvals
      refine (two_any hRa hRb hL hC hrow hne hone).mono ?_
      rintro e w2 ⟨n, hn24, V, DK, wK, ρ2, x, y, z, rfl, hVA, hN, ht2, hr2, hc2, hb2, hk2, hgr⟩
      obtain ⟨E, hE, hx, hend⟩ := hall n hn24 V DK wK hVA hN
      have hret1 : retOK tLow t1 s1 u ⟨[], 0, 0, []⟩ = true := hret
      obtain ⟨k1, _, _, _, _⟩ := tell_all (V := vL V0 q ga row 0 0) (V' := V) (T := tLow) hV1 (fun j hj => by
        have hj : j < 30 := Nat.le_of_ble_eq_true hj
        rw [hVA j hj]
        exact (vL_low (by show j < 900; omega)).symm) (fun j b hb => by cases hb) (fun j x v e => by cases e) hret1 ht1 g1.1
      have hle : Le (ρ1.tell tLow) ρ2 := ⟨fun i b e => (by cases e), fun i b e => (by cases e)⟩
      have hg0 : w0.heap.size ≤ g := h3 i0 g (by rw [← g1.2.1.blk i0 (.inl hi0)]; exact hbg)
      obtain ⟨o1', o2', o3', o4', o5'⟩ := hgr
      refine ⟨_, rfl, ?_⟩
      refine endTrue_okK hE hx (base := w0.heap.size) (w1 := w2) (fun w' hb => ?_) hend ⟨ρ2, ?_, hr2, hc2.b, hc2.c, fun i b e => Nat.le_trans b2 (hb2 i b e), Below.refl _ _, Nat.le_trans b2 o4', hk2⟩
      · have hb12 : RowKit.Below w0.heap.size w1 w2 := ⟨o1', o2', o3', o4', fun i hi => o5' i (by omega) (by omega)⟩
        exact (b1.trans hb12).trans hb
      · rw [q2]
        exact tr_put (k1.mono _ hle) (d := some d) (v := twV (kdOf n)) ⟨#[x, y, z], rfl, ht2.v 0, ht2.v 1, ht2.v 2, trivial⟩
    · cases hck
  · cases hck
end
end Ab
end Go.Proofs.YtbfppnppijcnlaaGreat
