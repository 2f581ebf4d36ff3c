/-
  Two drawn gateways, where the second one is to begin.
  Conditions: none.
-/
import Derived.Test.YtbfppnppijcnlaaGreatGwL
namespace Go.Proofs.YtbfppnppijcnlaaGreat
namespace Ab
open Go.RowKit
set_option linter.unusedVariables false
set_option linter.unusedSimpArgs false
set_option maxRecDepth 100000
noncomputable def gwV2 (c : Nat) (r : St) : AV := .tup [.agg (gwN 0 32 (grpC c).1.length r.next r.ncap), .agg (gwN 1 30 (grpC c).2.length (r.next + 1) (r.ncap + 1))]
/-- What is known of the two gateways when they are drawn. -/
theorem gw_after2 {w w2 : World} {k M : Nat} (hk : k < 12) {cs1 cs2 : Array Value} (hM1 : w.heap.size ≤ M) (hM2 : M ≤ w2.heap.size) (hG1 : GwF 0 (glA k) cs1.toList w.heap.size M w2) (hG2 : GwF 1 (glB k) cs2.toList M w2.heap.size w2) {A : Nat → Value} (hA : ∀ i, (A i).oneCell' = true) :
    ∃ c, c < 6 ∧ ∃ t nar V DK, (t = 1 ∨ t = 2) ∧ (∀ j, j < 30 → V j = A j) ∧ NetOK V DK w2 t nar ∧ (∀ b, DK b → w.heap.size ≤ b ∧ b < w2.heap.size) ∧
      ∀ {ρ : Rho} {r : St}, Rep V ρ r w2 → Clean ρ r → (∀ i b, ρ.blk i = some b → b < w.heap.size) → ∃ ρ', Rep V ρ' (gwSt c r) w2 ∧ Clean ρ' (gwSt c r) ∧ Le ρ ρ' ∧ VR V ρ' (gwV2 c r) (.tuple #[.agg cs1, .agg cs2]) ∧ KP DK w2 ρ' w2 ∧ ∀ i b, ρ'.blk i = some b → ρ.blk i = some b ∨ w.heap.size ≤ b := by
  obtain ⟨c, hc6, eA, eB⟩ := grpC_ok k hk
  rw [eA] at hG1
  rw [eB] at hG2
  obtain ⟨hI1, D1, w1', a4, a5, u4, u5, ⟨ru1, gr1⟩, sz1, f1⟩ := hG1
  obtain ⟨hI2, D2, w2', b4, b5, v4, v5, ⟨ru2, gr2⟩, sz2, f2⟩ := hG2
  obtain ⟨bA, capA, postA, eA5, hbA, hlA, dA⟩ := gr1
  obtain ⟨bB, capB, postB, eB5, hbB, hlB, dB⟩ := gr2
  have ru1 := ruK_but ru1 hbA
  have ru2 := ruK_but ru2 hbB
  obtain ⟨l1, W1, ρ1, E1, S1⟩ := ru1.parts
  obtain ⟨l2, W2, ρ2, E2, S2⟩ := ru2.parts
  obtain ⟨t, nar, V, ht, hV, v30, v32, hN⟩ := net_ok S2 S1 (DK := fun b => (D1 b ∧ b ≠ bA) ∨ (D2 b ∧ b ≠ bB)) (wK := w2) (fun w' h => ⟨fun b hb => ⟨(h b (.inr hb)).1, (h b (.inr hb)).2.trans (f2 b hb.1).2.2⟩, fun b hb => ⟨(h b (.inl hb)).1, (h b (.inl hb)).2.trans (f1 b hb.1).2.2⟩⟩) A hA
  have rA := f1 bA dA
  have rB := f2 bB dB
  refine ⟨c, hc6, t, nar, V, _, ht, hV, hN, ?_, ?_⟩
  · rintro b (⟨hb, _⟩ | ⟨hb, _⟩)
    · have := f1 b hb
      omega
    · have := f2 b hb
      omega
  · intro ρ r hr hcl hlo
    obtain ⟨p1, p2, p3, p4, p5, p6⟩ := rep_adopt hr hcl (b := bA) (cap := capA) (cells := (grpC c).1.map (AC.int .i64)) (rA.2.2.trans hbA) rfl (ints_f2 _) (by rw [← hlA]; simp) (fun i e => by have := hlo i bA e; omega)
    obtain ⟨q1, q2, q3, q4, q5, q6⟩ := rep_adopt p1 p2 (b := bB) (cap := capB) (cells := (grpC c).2.map (AC.int .i64)) (rB.2.2.trans hbB) rfl (ints_f2 _) (by rw [← hlB]; simp) (fun i e => by
      rcases p6 i bB e with h | h
      · have := hlo i bB h
        omega
      · omega)
    refine ⟨_, ⟨q1.h, q1.inj, q1.bnd, q1.lt⟩, ⟨q2.b, q2.c⟩, p3.trans q3, ?_, ⟨?_, fun _ _ => rfl, ?_⟩, ?_⟩
    · refine ⟨#[.agg cs1, .agg cs2], rfl, ⟨cs1, rfl, gwN_f2 (hI1 _ _) u4 u5 v32.symm ⟨bA, capA, q3.1 _ _ p4, q3.2 _ _ p5, by omega, eA5⟩⟩, ⟨cs2, rfl, gwN_f2 (hI2 _ _) v4 v5 v30.symm ⟨bB, capB, q4, q5, by omega, eB5⟩⟩, trivial⟩
    · rintro b (⟨hb, _⟩ | ⟨hb, _⟩)
      · have := f1 b hb
        omega
      · have := f2 b hb
        omega
    · intro b hb i e
      have hlt : w.heap.size ≤ b := by
        rcases hb with ⟨hb, _⟩ | ⟨hb, _⟩
        · exact (f1 b hb).1
        · have := (f2 b hb).1
          omega
      rcases q6 i b e with h | h
      · rcases p6 i b h with h | h
        · have := hlo i b h
          omega
        · rcases hb with ⟨hb, hn⟩ | ⟨hb, hn⟩
          · exact hn h
          · have := (f2 b hb).1
            omega
      · rcases hb with ⟨hb, hn⟩ | ⟨hb, hn⟩
        · have := (f1 b hb).2.1
          omega
        · exact hn h
    · intro i b e
      rcases q6 i b e with h | h
      · rcases p6 i b h with h | h
        · exact .inl h
        · right
          omega
      · right
        omega
section
variable {V0 : Nat → Value} {q : Ls} {ga : Nat} {row : Array Value} {hl : Bool}
theorem gw_region2 (hL : LsOK hl q ga row) (hone : ∀ i, (V0 i).oneCell' = true) {A : Nat → Value} (hA : ∀ i, (A i).oneCell' = true) {T : Tell} (hT : ∀ j, T.p j = true → j < 30 ∧ T.src j = j ∧ A j = V0 j) (hTl : ∀ j, T.lit j = none) (hTs : T.sy = []) {i0 i1 d id : Nat} {ops : Array Oper} {u : Sl} {r : St} {t : Sl} {s : St} (hck : gwStart hl i0 i1 d ops T u r t s = true)
    {b p : Nat} {ρ : Rho} {a : Act} {w : World} (ht : TR (vL V0 q ga row b p) ρ t a) (hr : Rep (vL V0 q ga row b p) ρ s w) (hc : Clean ρ s) {base : Nat} (hb : ∀ i c, ρ.blk i = some c → base ≤ c ∨ i = i0 ∨ i = i1) (hbw : base ≤ w.heap.size) {Q : Exit → Act → World → Prop}
    (hQ : ∀ c t' nar V' DK wK w2 a' g, c < 6 → (t' = 1 ∨ t' = 2) → (∀ j, j < 30 → V' j = A j) → NetOK V' DK wK t' nar → ρ.blk i0 = some g → GrB base g w w2 → HereK DK wK V' base w2 (lset u d (gwV2 c r)) (gwSt c r) a' w2 → wpOps Tryz.prog ops Q (List.range' 2 (ops.size - 2)) a' w2) : (Code.region id ops false).wp Tryz.prog Q a w := by
  unfold gwStart at hck
  simp only [Bool.and_eq_true] at hck
  obtain ⟨ft, fh, hck⟩ := hck
  split at hck
  · rename_i t1 s1 r1
    split at hck
    · rename_i o1 ho1
      simp only [Bool.and_eq_true] at hck
      obtain ⟨ck, hret, hfid, hi0, hdirty⟩ := hck
      have hsz : 2 ≤ ops.size := by
        have := (Array.getElem?_eq_some_iff.1 ho1).1
        omega
      refine wp_region ?_
      rw [List.range_eq_range', show ops.size = 1 + ((ops.size - 2) + 1) by omega]
      have hbp : ∀ i, (i < 902 ∨ 903 ≤ i) → vL V0 q ga row b p i = vL V0 q ga row 0 0 i := by
        intro i hi
        unfold vL
        split
        · rfl
        · split
          · rfl
          · rw [if_neg (by omega), if_neg (by omega)]
      have ht := tr_raV hbp ft ht
      have hr := rep_raV hbp fh hr
      have hV1 := vL_one (q := q) (ga := ga) (row := row) hone 0 0
      obtain ⟨e1, e2⟩ := e0n_ok hV1
      have hk : KP (fun _ => False) w ρ w := ⟨fun b h => h.elim, fun b h => h.elim, fun b h => h.elim⟩
      have e2K : ExtOKK (fun _ => False) w Tryz.prog (vL V0 q ga row 0 0) E0n := ExtOK.kk (noDeep e1 (fun f args s r h => e2.fn f args s r h)) e2
      have tk := ops_takeK e1 (fnA_okK e1 e2K 30) (fnA_fnK e2K.fn 30) (fnA_up (E := E0n) e2.up 30) (ops := ops) (ops.toList.take 1) 0 ((ops.size - 2) + 1) (fun i o ho => by have := sub_at (ops := ops) (k := 0) (n := 1) i o (by simpa using ho); exact this) r1 ht hr (hc.free _) hk (Q := Q)
      have hl1 : (ops.toList.take 1).length = 1 := by
        rw [List.length_take, Array.length_toList]
        omega
      rw [hl1] at tk
      refine tk (fun ρ1 a1 w1 g1 ht1 hk1 => ?_)
      have c1 := hc.goes g1
      rw [show (0 + 1 : Nat) = 1 from rfl, List.range'_succ, wpOps_cons]
      obtain ⟨l3, q1, q2, q3, q4⟩ := ckG_ok ck
      refine wp_callee2 e1 gws_fn ho1 q1 ht1 (fun vals hv => ?_)
      rw [q3] at hv
      obtain ⟨d0, d1⟩ := codesIn_ok q4
      obtain ⟨g, p', hbg, hC⟩ := rep_some hL g1.1 d0 d1
      obtain ⟨hrow, hne⟩ := row_ne hL g1.1 q4 hC
      have hvals : vals = #[.pointer (some ⟨g, 0, none⟩)] := by
        apply Array.ext'
        match hl : vals.toList, hv with
        | [x], hv =>
          obtain ⟨b', f0, f1⟩ := hv.1
          rw [hbg] at f0
          injection f0 with f0
          subst f0
          rw [f1]
      subst hvals
      refine (gws_any hL hC hrow hne).mono ?_
      rintro e w2 ⟨k, hk12, cs1, cs2, rfl, ⟨M, hM1, hM2, hG1, hG2⟩, ⟨p2, hC'⟩, hg, _⟩
      obtain ⟨c, hc6, t', nar, V', DK, htt, hVA, hN, hDK, hadopt⟩ := gw_after2 hk12 hM1 hM2 hG1 hG2 hA
      have hgo := go_codes (V := vL V0 q ga row 0 0) g1.1 d0 hbg hg hC'.2.2.1 (pb_some hC'.1)
      have cod : Clean ρ1 (codeOn s1 i0) := c1.goes hgo
      obtain ⟨k1, k2, k3, k4, k5⟩ := tell_all (V := vL V0 q ga row 0 0) (V' := V') (T := T) hV1 (fun j hj => by
        obtain ⟨x1, x2, x3⟩ := hT j hj
        rw [hVA j x1, x2, x3, vL_low (by omega)]) (fun j b hb => by rw [hTl j] at hb; cases hb) (fun j x v e => by rw [hTs] at e; cases e) hret ht1 hgo.1
      obtain ⟨ρ', y1, y2, y3, y4, y5, y6⟩ := hadopt k2 ⟨k3, k4⟩ (fun i b e => by
        obtain ⟨j, _, e'⟩ := k5 i b e
        exact g1.1.bnd j b e')
      have hi0 : i0 < s.next := Nat.le_of_ble_eq_true hi0
      have hg0 : ρ.blk i0 = some g := by rw [← g1.2.1.blk i0 (.inl hi0)]; exact hbg
      have hold : ∀ j c, j < s.next → ρ1.blk j = some c → ρ.blk j = some c := fun j c hj e => by rw [← g1.2.1.blk j (.inl hj)]; exact e
      have hbase' : ∀ i c, ρ'.blk i = some c → base ≤ c := by
        intro i c e
        rcases y6 i c e with h | h
        · obtain ⟨j, e1, e2⟩ := k5 i c h
          have := List.all_eq_true.1 hfid _ (lkN_mem e1)
          simp only [Bool.and_eq_true, Bool.not_eq_true'] at this
          have hj : j < s.next := Nat.le_of_ble_eq_true this.1.1
          rcases hb j c (hold j c hj e2) with h | h | h
          · exact h
          · have := this.1.2
            simp only [h, Nat.beq_refl] at this
            cases this
          · have := this.2
            simp only [h, Nat.beq_refl] at this
            cases this
        · have := g1.2.1.size
          omega
      refine ⟨_, rfl, ?_⟩
      refine hQ c t' nar V' DK w2 w2 _ g hc6 htt hVA hN hg0 ⟨hg.os.trans g1.2.1.os, hg.tape.trans g1.2.1.tape, hg.output.trans g1.2.1.out, Nat.le_trans g1.2.1.size hg.size, fun i hi hne' => ?_⟩ ⟨ρ', ?_, y1, y2.b, y2.c, hbase', Below.refl _ _, ?_, y5⟩
      · have s1 := g1.2.1.size
        refine (hg.block i (by omega) (fun e => hne' (by injection e))).trans (g1.2.1.fr i (by omega) (fun j hj hj2 e => ?_))
        rcases hb j i e with h | h | h
        · omega
        · rw [h, hg0] at e
          injection e with e
          exact hne' e.symm
        · have := List.all_eq_true.1 hdirty j hj
          simp only [h, Nat.beq_refl, Bool.not_true] at this
          cases this
      · rw [q2]
        exact tr_put (k1.mono _ y3) (d := some d) y4
      · exact Nat.le_trans hbw (Nat.le_trans g1.2.1.size hg.size)
    · cases hck
  · cases hck
theorem law_gw2 (hL : LsOK hl q ga row) (hone : ∀ i, (V0 i).oneCell' = true) {i0 i1 d id : Nat} {ops : Array Oper} {u t : Sl} {s : St} (hck : gwStart hl i0 i1 d ops tLaw u ⟨[], 0, 0, []⟩ t s = true) {fn : Func} {w0 : World} {l : List Code}
    (hall : ∀ c t' nar V' DK wK w2 a', c < 6 → (t' = 1 ∨ t' = 2) → (∀ j, j < 30 → V' j = V0 j) → NetOK V' DK wK t' nar → (∀ w', RowKit.Below w0.heap.size w2 w' → RowKit.Below w0.heap.size w0 w') → HereK DK wK V' w0.heap.size w2 (lset u d (gwV2 c ⟨[], 0, 0, []⟩)) (gwSt c ⟨[], 0, 0, []⟩) a' w2 → wpOps Tryz.prog ops (Exit.then (wpL Tryz.prog (LawQ fn w0) l) (LawQ fn w0)) (List.range' 2 (ops.size - 2)) a' w2)
    {a : Act} {w : World} (hh : HereC V0 q ga row w0.heap.size w0 t s a w) : wpL Tryz.prog (LawQ fn w0) (.region id ops false :: l) a w := by
  obtain ⟨b, p, _, ρ, ht, hr, h1, h2, h3, h4, h5⟩ := hh
  show (Code.region id ops false).wp Tryz.prog (Exit.then (wpL Tryz.prog (LawQ fn w0) l) (LawQ fn w0)) a w
  refine gw_region2 hL hone hone (T := tLaw) (fun j hj => ⟨Nat.le_of_ble_eq_true hj, rfl, rfl⟩) (fun j => rfl) rfl hck ht hr ⟨h1, h2⟩ (base := w0.heap.size) (fun i c e => .inl (h3 i c e)) h5 (fun c t' nar V' DK wK w2 a' g hc6 htt hVA hN hg0 hgr hh => ?_)
  obtain ⟨o1, o2, o3, o4, o5⟩ := hgr
  refine hall c t' nar V' DK wK w2 a' hc6 htt hVA hN (fun w' hb => ?_) hh
  have hg : w0.heap.size ≤ g := h3 _ _ hg0
  exact (h4.trans ⟨o1, o2, o3, o4, fun i hi => o5 i hi (by omega)⟩).trans hb
end
end Ab
end Go.Proofs.YtbfppnppijcnlaaGreat
