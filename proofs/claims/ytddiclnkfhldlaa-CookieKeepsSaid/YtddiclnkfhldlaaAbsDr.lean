/-
  Regions that draw their order: the theorem.
  Conditions: none.
-/
import Derived.Test.YtddiclnkfhldlaaAbsZ
namespace Go.Proofs.Ytddiclnkfhldlaa
namespace Ab
set_option linter.unusedVariables false
set_option linter.unusedSimpArgs false
section
variable {P : Program} {V : Nat → Value} {E : Env}
/-- The state of things when the steps of a set have been made. -/
structure Inv (V : Nat → Value) (ρ0 : Rho) (s : St) (w0 : World) (t : Sl) (L : List PR) (D : DS) (X : Nat → Bool) (ρ : Rho) (a : Act) (w : World) : Prop where
  tr : TR V ρ (tfold t (only X L)) a
  h : ∀ i B, Hist s (only X L) i B → ∃ b cs, ρ.blk i = some b ∧ w.heap[b]? = some (.cells cs B.ty (0, 0)) ∧ BR V ρ b B cs
  inj : ∀ i j B C b, Hist s (only X L) i B → Hist s (only X L) j C → ρ.blk i = some b → ρ.blk j = some b → i = j
  bnd : ∀ i b, ρ.blk i = some b → b < w.heap.size
  dom : ∀ i b, ρ.blk i = some b → ρ0.blk i = some b ∨ ∃ r ∈ L, X r.i = true ∧ r.n ≤ i ∧ i < r.s1.next
  domc : ∀ i b, ρ.cap i = some b → ρ0.cap i = some b ∨ ∃ r ∈ L, X r.i = true ∧ r.c ≤ i ∧ i < r.s1.ncap
  old : ∀ i, (i < s.next ∨ D.s.next ≤ i) → ρ.blk i = ρ0.blk i
  oldc : ∀ i, (i < s.ncap ∨ D.s.ncap ≤ i) → ρ.cap i = ρ0.cap i
  le : Le ρ0 ρ
  fr : ∀ b, b < w0.heap.size → (∀ i ∈ D.s.dirty, i < s.next → ρ0.blk i ≠ some b) → w.heap[b]? = w0.heap[b]?
  new : ∀ i b, s.next ≤ i → i < D.s.next → ρ.blk i = some b → w0.heap.size ≤ b ∨ ∃ j ∈ D.s.dirty, j < s.next ∧ ρ0.blk j = some b
  os : w.os = w0.os
  tape : w.tape = w0.tape
  out : w.output = w0.output
  size : w0.heap.size ≤ w.heap.size
  rokW : ∀ r ∈ L, X r.i = true → ∀ j ∈ r.W, j < r.n ∧ (s.next ≤ j ∨ (look s.heap j).isSome = true)
  rokL : ∀ r ∈ L, X r.i = true → ∀ i B, look r.s1.heap i = some B → i < r.s1.next
/-- What a step's run gives. -/
structure SF (V : Nat → Value) (s : St) (L : List PR) (X : Nat → Bool) (r : PR) (ρ : Rho) (w : World) (ρ' : Rho) (w' : World) (c : Value) : Prop where
  blk : ∀ i, (i < r.n ∨ r.s1.next ≤ i) → ρ'.blk i = ρ.blk i
  cap : ∀ i, (i < r.c ∨ r.s1.ncap ≤ i) → ρ'.cap i = ρ.cap i
  le : Le ρ ρ'
  fr : ∀ b, b < w.heap.size → (∀ j ∈ r.W, ρ.blk j ≠ some b) → w'.heap[b]? = w.heap[b]?
  new : ∀ i b, r.n ≤ i → i < r.s1.next → ρ'.blk i = some b → w.heap.size ≤ b ∨ ∃ j ∈ r.W, ρ.blk j = some b
  kn : ∀ j ∈ r.W, j < r.n ∧ ∃ C, Hist s (only X L) j C
  h : ∀ i B, i ∈ r.ids → look r.s1.heap i = some B → ∃ b cs, ρ'.blk i = some b ∧ w'.heap[b]? = some (.cells cs B.ty (0, 0)) ∧ BR V ρ' b B cs
  inj : ∀ i j B C b, i ∈ r.ids → j ∈ r.ids → look r.s1.heap i = some B → look r.s1.heap j = some C → ρ'.blk i = some b → ρ'.blk j = some b → i = j
  lt : ∀ i B, look r.s1.heap i = some B → i < r.s1.next
  bnd : ∀ i b, ρ'.blk i = some b → b < w'.heap.size
  os : w'.os = w.os
  tape : w'.tape = w.tape
  out : w'.output = w.output
  size : w.heap.size ≤ w'.heap.size
  v : VR V ρ' r.v c
  free : ∀ i, r.n ≤ i → i < r.s1.next → ρ.blk i = none
  pw : isPure r.o.op = true → r.W = []
theorem only_append (X : Nat → Bool) (N O : List PR) : only X (N ++ O) = only X N ++ only X O := List.filter_append ..
theorem only_mem {X : Nat → Bool} {L : List PR} {r : PR} : r ∈ only X L ↔ r ∈ L ∧ X r.i = true := List.mem_filter
theorem only_cons_no {X : Nat → Bool} {r : PR} {O : List PR} (h : X r.i = false) : only X (r :: O) = only X O := by
  unfold only
  rw [List.filter_cons_of_neg (by simp [h])]
theorem only_cons_yes {X : Nat → Bool} {r : PR} {O : List PR} (h : X r.i = true) : only X (r :: O) = r :: only X O := by
  unfold only
  rw [List.filter_cons_of_pos (by exact h)]
theorem only_congr {X Y : Nat → Bool} : ∀ {L : List PR}, (∀ r ∈ L, X r.i = Y r.i) → only X L = only Y L
  | [], _ => rfl
  | r :: L, h => by
    have ih := only_congr (L := L) (fun r' hr' => h r' (by simp [hr']))
    cases hx : X r.i
    · rw [only_cons_no hx, only_cons_no (by rw [← h r (by simp)]; exact hx), ih]
    · rw [only_cons_yes hx, only_cons_yes (by rw [← h r (by simp)]; exact hx), ih]
/-- One step, whatever has gone before, out of what is known of its operation. -/
theorem step_sfG {call : Call1} (hup : CallUp call) {ops : Array Oper} {B : List Nat} (hB : BOK ops B) {t : Sl} {s : St} {D : DS} {N O : List PR} {r : PR} (ht : Trace E call ops B t s D (N ++ r :: O))
    {X : Nat → Bool} (hX : ∀ i j, X i = true → (B.getD i 0).testBit j = true → X j = true) (hk : X r.i = false) (hBk : ∀ j, (B.getD r.i 0).testBit j = true → X j = true) (hs0 : ∀ i C, look s.heap i = some C → i < s.next)
    {ρ0 ρ : Rho} {w0 w : World} {a : Act} (hI : Inv V ρ0 s w0 t (N ++ r :: O) D X ρ a w) (hfree : ∀ i, s.next ≤ i → i < D.s.next → ρ0.blk i = none) (hfreec : ∀ i, s.ncap ≤ i → i < D.s.ncap → ρ0.cap i = none)
    {Z : Value → World → Prop} {K : Act → World → Prop} {Q : Exit → Act → World → Prop}
    (hst : ∀ {t' : Sl} {s' s1 : St} {v : AV}, stepA E call ops t' s' r.o = some (v, s1) → TR V ρ t' a → Rep V ρ s' w → Free ρ s' s1 → ∀ {K : Act → World → Prop}, (∀ ρ' c w', Goes V ρ s' w s1 w' ρ' → VR V ρ' v c → Z c w' → K (a.put r.o.dst c) w') → wpOp P ops Q r.i K a w)
    (hK : ∀ ρ' c w', SF V s (N ++ r :: O) X r ρ w ρ' w' c → Z c w' → K (a.put r.o.dst c) w') : wpOp P ops Q r.i K a w := by
  obtain ⟨D0, bk, tr0, sc, hN⟩ := trace_at hup N ht
  have hbk : B.getD r.i 0 = bk := by rw [List.getD_eq_getElem?_getD, sc.hb]; rfl
  rw [hbk] at hBk
  have tf0 := trace_tf hup tr0
  have tfD := trace_tf hup ht
  obtain ⟨hT0, hH0, hD1, hD2, hD3⟩ := trace_hist tr0
  -- the later steps that have been made are not ordered against this one
  have hNX : ∀ r' ∈ N, X r'.i = true → r'.i ≠ r.i ∧ bk.testBit r'.i = false ∧ (B.getD r'.i 0).testBit r.i = false := by
    intro r' hr' hx
    obtain ⟨h1, _, _, _, h2⟩ := hN r' hr'
    refine ⟨h1, h2, ?_⟩
    cases hb : (B.getD r'.i 0).testBit r.i
    · rfl
    · rw [hX _ _ hx hb] at hk
      cases hk
  have hOi : ∀ r' ∈ O, r'.i ≠ r.i := by
    intro r' hr' e
    have := (tf0.bits r.i).2 ⟨r', hr', e⟩
    rw [sc.nb] at this
    cases this
  have hOB : ∀ r' ∈ O, (B.getD r'.i 0).testBit r.i = false := by
    intro r' hr'
    cases hb : (B.getD r'.i 0).testBit r.i
    · rfl
    · exfalso
      obtain ⟨O1, O2, rfl⟩ := List.append_of_mem hr'
      obtain ⟨D1, bk1, tr1, sc1, _⟩ := trace_at hup O1 tr0
      have hb1 : B.getD r'.i 0 = bk1 := by rw [List.getD_eq_getElem?_getD, sc1.hb]; rfl
      rw [hb1] at hb
      have h1 : D1.bits.testBit r.i = true := by
        have := congrArg (fun z => z.testBit r.i) sc1.su
        simp only [Nat.testBit_and, hb, Bool.true_and] at this
        exact this
      obtain ⟨q, hq, he⟩ := ((trace_tf hup tr1).bits r.i).1 h1
      exact hOi q (by simp [hq]) he
  -- the record of every step has its operation
  have hrec : ∀ r' ∈ N ++ r :: O, ops[r'.i]? = some r'.o := by
    intro r' hr'
    obtain ⟨L1, L2, e⟩ := List.append_of_mem hr'
    have ht' := ht
    rw [e] at ht'
    obtain ⟨_, _, _, sc1, _⟩ := trace_at hup L1 ht'
    exact sc1.ho
  have hmaskN : ∀ r' ∈ N, X r'.i = true → ∀ e, r'.o.dst = some e → r.o.dst ≠ some e := by
    intro r' hr' hx e he
    obtain ⟨h1, h2, h3⟩ := hNX r' hr' hx
    have := dstOk_ok B bk r.i r.o.dst ops.toList 0 sc.ds r'.i r'.o (by simpa using hrec r' (by simp [hr'])) (by omega) (by simpa using h2) (by simpa using h3) e he
    exact this
  -- the slots
  have htv : TR V ρ (viewT ops B bk r.i D0) a := by
    have hlen : (viewT ops B bk r.i D0).length = t.length := by
      have : ∀ (l : List Oper) (j : Nat) (u : Sl), (maskA B bk r.i l j u).length = u.length := by
        intro l
        induction l with
        | nil => intro j u; rfl
        | cons o l ih =>
          intro j u
          rw [maskA_cons]
          rw [ih]
          cases (Nat.beq j r.i || bk.testBit j || (B.getD j 0).testBit r.i) <;> simp [put_length]
      unfold viewT
      rw [this, hT0, tfold_length]
    refine ⟨by rw [hlen, hI.tr.z, tfold_length], fun e => ?_, hI.tr.df⟩
    rcases mask_look B bk r.i e ops.toList 0 D0.t with h1 | ⟨h1, h2⟩
    · unfold viewT
      rw [h1]
      exact trivial
    · unfold viewT
      rw [h1]
      have hv := hI.tr.v e
      by_cases he : e < t.length
      · have hno : ∀ r' ∈ N ++ r :: O, r'.i ≠ r.i → bk.testBit r'.i = false → (B.getD r'.i 0).testBit r.i = false → r'.o.dst ≠ some e := by
          intro r' hr' g1 g2 g3
          exact h2 r'.i r'.o (by simpa using hrec r' hr') (by omega) (by simpa using g2) (by simpa using g3) (by rw [hT0, tfold_length]; exact he)
        have e1 : lget (tfold t (only X (N ++ r :: O))) e = lget (tfold t O) e := by
          rw [only_append, only_cons_no hk, tfold_newer]
          · refine tfold_only t X e O (fun r' hr' hx => ?_)
            refine hno r' (by simp [hr']) (hOi r' hr') ?_ (hOB r' hr')
            cases hb : bk.testBit r'.i
            · rfl
            · rw [hBk _ hb] at hx
              cases hx
          · intro r' hr'
            rw [only_mem] at hr'
            obtain ⟨g1, g2, g3⟩ := hNX r' hr'.1 hr'.2
            exact hno r' (by simp [hr'.1]) g1 g2 g3
        rw [hT0, ← e1]
        exact hv
      · have e1 : ∀ u : Sl, u.length = t.length → lget u e = .undef := fun u hu => lget_far (by rw [hu]; exact he)
        rw [e1 _ (by rw [tfold_length])] at hv
        rw [e1 _ (by rw [hT0, tfold_length])]
        exact hv
  -- what the view knows
  have hview : ∀ i C, look (viewS bk D0).heap i = some C → Hist s (only X O) i C := by
    intro i C hC
    obtain ⟨g1, g2⟩ := hide_look _ _ _ _ hC
    rw [tf0.recs] at g1
    exact hist_only (bk := bk) O i C (hH0 i C g2) (hidden_iff bk O i g1) (fun r' hr' hb => hBk _ hb)
  have hlt : ∀ (M : List PR), (∀ r' ∈ M, r' ∈ O ∧ X r'.i = true) → ∀ i C, Hist s M i C → i < D0.s.next := by
    intro M
    induction M with
    | nil =>
      intro _ i C hC
      exact Nat.lt_of_lt_of_le (hs0 i C hC) tf0.s.1
    | cons q M ih =>
      intro hM i C hC
      rcases hC with ⟨_, h2⟩ | ⟨_, h2⟩
      · obtain ⟨g1, g2⟩ := hM q (by simp)
        exact Nat.lt_of_lt_of_le (hI.rokL q (by simp [g1]) g2 i C h2) (tf0.up q g1).1
      · exact ih (fun r' hr' => hM r' (by simp [hr'])) i C h2
  have hviewlt : ∀ i C, look (viewS bk D0).heap i = some C → i < D0.s.next := fun i C hC => hlt (only X O) (fun r' hr' => only_mem.1 hr') i C (hview i C hC)
  have hstep := stepA_up hup sc.st
  have hst1 : D0.s.next ≤ r.s1.next := hstep.1
  have hst2 : D0.s.ncap ≤ r.s1.ncap := hstep.2
  have hrin : r ∈ N ++ r :: O := by simp
  have hfr : ∀ i, D0.s.next ≤ i → i < r.s1.next → ρ.blk i = none := by
    intro i h1 h2
    cases hb : ρ.blk i with
    | none => rfl
    | some b =>
      exfalso
      rcases hI.dom i b hb with h3 | ⟨r', h3, h4, h5, h6⟩
      · have := hfree i (Nat.le_trans tf0.s.1 h1) (Nat.lt_of_lt_of_le h2 (tfD.up r hrin).1)
        rw [this] at h3
        cases h3
      · rcases List.mem_append.1 h3 with h7 | h7
        · have := (hN r' h7).2.1
          omega
        · cases h7 with
          | head => rw [h4] at hk; cases hk
          | tail _ h7 =>
            have := (tf0.up r' h7).1
            omega
  have hfrc : ∀ i, D0.s.ncap ≤ i → i < r.s1.ncap → ρ.cap i = none := by
    intro i h1 h2
    cases hb : ρ.cap i with
    | none => rfl
    | some b =>
      exfalso
      rcases hI.domc i b hb with h3 | ⟨r', h3, h4, h5, h6⟩
      · have := hfreec i (Nat.le_trans tf0.s.2 h1) (Nat.lt_of_lt_of_le h2 (tfD.up r hrin).2.1)
        rw [this] at h3
        cases h3
      · rcases List.mem_append.1 h3 with h7 | h7
        · have := (hN r' h7).2.2.1
          omega
        · cases h7 with
          | head => rw [h4] at hk; cases hk
          | tail _ h7 =>
            have := (tf0.up r' h7).2.1
            omega
  have hWlt : ∀ j ∈ r.W, j < r.n := by
    intro j hj
    rw [sc.W] at hj
    have := (List.mem_filter.1 hj).2
    rw [sc.n]
    have := Nat.le_of_ble_eq_true (show Nat.ble (j + 1) D0.s.next = true from this)
    omega
  have hids : ∀ i ∈ r.ids, i ∈ r.W ∨ r.n ≤ i := by
    intro i hi
    rw [sc.ids] at hi
    rcases List.mem_append.1 hi with hi | hi
    · exact .inl hi
    · exact .inr (by rw [sc.n]; exact newIds_ge _ _ _ hi)
  by_cases hp : isPure r.o.op = true
  · -- an operation that asks nothing of memory
    have hps : r.s1 = viewS bk D0 ∧ ∀ s2, stepA E call ops (viewT ops B bk r.i D0) s2 r.o = some (r.v, s2) := by
      have h := sc.st
      unfold stepA at h ⊢
      split at h
      · rename_i hw
        exact pure_op hp h
      · rename_i hw
        simp only [Option.some.injEq, Prod.mk.injEq] at h
        exact ⟨h.2.symm, fun s2 => by rw [h.1]⟩
      · cases h
    obtain ⟨hp1, hp2⟩ := hps
    have hW0 : r.W = [] := by
      rw [sc.W, hp1]
      rfl
    have hr0 : Rep V ρ { (viewS bk D0) with heap := [] } w := ⟨fun i C hC => (by simp [look] at hC), fun i j C D b hC => (by simp [look] at hC), hI.bnd, fun i C hC => (by simp [look] at hC)⟩
    refine hst (hp2 { (viewS bk D0) with heap := [] }) htv hr0 ⟨fun i h1 h2 => absurd h2 (by omega), fun i h1 h2 => absurd h2 (by omega)⟩ ?_
    intro ρ' c w' hg hv hz
    obtain ⟨g1, g2, g3⟩ := hg
    have hb : ∀ i, ρ'.blk i = ρ.blk i := fun i => g2.blk i (by omega)
    have hc : ∀ i, ρ'.cap i = ρ.cap i := fun i => g2.cap i (by omega)
    have hvac : ∀ i C, i ∈ r.ids → look r.s1.heap i = some C → False := by
      intro i C hi hC
      rw [hp1] at hC
      have h1 := hviewlt i C hC
      rcases hids i hi with h2 | h2
      · rw [hW0] at h2
        cases h2
      · rw [sc.n] at h2
        omega
    refine hK ρ' c w' ⟨fun i _ => hb i, fun i _ => hc i, g3, fun b h1 _ => g2.fr b h1 (fun i hi _ => by cases hi), fun i b h1 h2 h3 => ?_, fun j hj => (by rw [hW0] at hj; cases hj), fun i C h1 h2 => (hvac i C h1 h2).elim, fun i j C D b h1 _ h2 => (hvac i C h1 h2).elim, fun i C hC => ?_, g1.bnd, g2.os, g2.tape, g2.out, g2.size, hv, fun i h1 h2 => hfr i (by rw [sc.n] at h1; exact h1) h2, fun _ => hW0⟩ hz
    · rw [hp1] at h2
      rw [sc.n] at h1
      exact absurd h2 (by
        show ¬ i < D0.s.next
        omega)
    · rw [hp1] at hC ⊢
      exact hviewlt i C hC
  · -- an operation that looks at memory
    have hNW : ∀ r' ∈ N, X r'.i = true → r'.W = [] := by
      intro r' hr' hx
      obtain ⟨_, _, g3⟩ := hNX r' hr' hx
      rcases (hN r' hr').2.2.2.1 with h1 | h1 | h1
      · exact h1
      · rw [g3] at h1
        cases h1
      · exact absurd h1 hp
    have hup2 : ∀ i C, Hist s (only X O) i C → Hist s (only X (N ++ r :: O)) i C := by
      intro i C hC
      rw [only_append, only_cons_no hk]
      refine hist_newer _ _ i C hC (fun r' hr' => ?_)
      rw [only_mem] at hr'
      rw [hNW r' hr'.1 hr'.2]
      simp
    have hr0 : Rep V ρ (viewS bk D0) w := ⟨fun i C hC => hI.h i C (hup2 i C (hview i C hC)), fun i j C D b hC hD => hI.inj i j C D b (hup2 i C (hview i C hC)) (hup2 j D (hview j D hD)), hI.bnd, hviewlt⟩
    refine hst sc.st htv hr0 ⟨hfr, hfrc⟩ ?_
    intro ρ' c w' hg hv hz
    obtain ⟨g1, g2, g3⟩ := hg
    have hWi : ∀ j, j ∈ r.s1.dirty → j < D0.s.next → j ∈ r.W := by
      intro j h1 h2
      rw [sc.W]
      refine List.mem_filter.2 ⟨h1, ?_⟩
      exact Nat.ble_eq_true_of_le (show j + 1 ≤ D0.s.next from h2)
    refine hK ρ' c w' ⟨fun i h1 => g2.blk i (by rw [sc.n] at h1; exact h1), fun i h1 => g2.cap i (by rw [sc.c] at h1; exact h1), g3, fun b h1 h2 => g2.fr b h1 (fun i hi hl => h2 i (hWi i hi hl)), fun i b h1 h2 h3 => ?_, fun j hj => ⟨hWlt j hj, ?_⟩, fun i C h1 h2 => g1.h i C h2, fun i j C D b _ _ h1 h2 => g1.inj i j C D b h1 h2, g1.lt, g1.bnd, g2.os, g2.tape, g2.out, g2.size, hv, fun i h1 h2 => hfr i (by rw [sc.n] at h1; exact h1) h2, fun h => absurd h hp⟩ hz
    · rw [sc.n] at h1
      rcases g2.new i b h1 h2 h3 with h4 | ⟨j, h4, h5, h6⟩
      · exact .inl h4
      · exact .inr ⟨j, hWi j h4 h5, h6⟩
    · have hjl := hWlt j hj
      rw [sc.n] at hjl
      rw [sc.W] at hj
      rcases g2.own j (List.mem_filter.1 hj).1 with h1 | h1 | h1
      · cases h1
      · exact absurd hjl (by
          show ¬ j < D0.s.next
          have h1 : D0.s.next ≤ j := h1
          omega)
      · obtain ⟨C, hC⟩ := Option.isSome_iff_exists.1 h1
        exact ⟨C, hup2 j C (hview j C hC)⟩
/-- One step, whatever has gone before. -/
theorem step_sf (hE : EnvOK P V E) {call : Call1} (hcall : CallOK P V call) (hfn : CallFn E call) (hup : CallUp call) {ops : Array Oper} {B : List Nat} (hB : BOK ops B) {t : Sl} {s : St} {D : DS} {N O : List PR} {r : PR} (ht : Trace E call ops B t s D (N ++ r :: O))
    {X : Nat → Bool} (hX : ∀ i j, X i = true → (B.getD i 0).testBit j = true → X j = true) (hk : X r.i = false) (hBk : ∀ j, (B.getD r.i 0).testBit j = true → X j = true) (hs0 : ∀ i C, look s.heap i = some C → i < s.next)
    {ρ0 ρ : Rho} {w0 w : World} {a : Act} (hI : Inv V ρ0 s w0 t (N ++ r :: O) D X ρ a w) (hfree : ∀ i, s.next ≤ i → i < D.s.next → ρ0.blk i = none) (hfreec : ∀ i, s.ncap ≤ i → i < D.s.ncap → ρ0.cap i = none)
    {K : Act → World → Prop} {Q : Exit → Act → World → Prop} (hK : ∀ ρ' c w', SF V s (N ++ r :: O) X r ρ w ρ' w' c → K (a.put r.o.dst c) w') : wpOp P ops Q r.i K a w := by
  obtain ⟨D0, bk, tr0, sc, hN⟩ := trace_at hup N ht
  refine step_sfG (Z := fun _ _ => True) hup hB ht hX hk hBk hs0 hI hfree hfreec ?_ (fun ρ' c w' h _ => hK ρ' c w' h)
  intro t' s' s1 v h1 h2 h3 h4 K hK
  exact step_ok hE hcall hfn sc.ho h1 h2 h3 h4 (fun ρ' c w' g1 g2 => hK ρ' c w' g1 g2 trivial)
/-- The state of things behind a step. -/
theorem inv_step {call : Call1} (hup : CallUp call) {ops : Array Oper} {B : List Nat} (hB : BOK ops B) {t : Sl} {s : St} {D : DS} {N O : List PR} {r : PR} (ht : Trace E call ops B t s D (N ++ r :: O))
    {X : Nat → Bool} (hX : ∀ i j, X i = true → (B.getD i 0).testBit j = true → X j = true) (hk : X r.i = false)
    {ρ0 ρ ρ' : Rho} {w0 w w' : World} {a : Act} {c : Value} (hI : Inv V ρ0 s w0 t (N ++ r :: O) D X ρ a w) (hf : SF V s (N ++ r :: O) X r ρ w ρ' w' c) {Y : Nat → Bool} (hY : ∀ j, Y j = if j = r.i then true else X j) :
    Inv V ρ0 s w0 t (N ++ r :: O) D Y ρ' (a.put r.o.dst c) w' := by
  obtain ⟨D0, bk, tr0, sc, hN⟩ := trace_at hup N ht
  have tf0 := trace_tf hup tr0
  have tfD := trace_tf hup ht
  have hrin : r ∈ N ++ r :: O := by simp
  have hur := tfD.up r hrin
  have hOi : ∀ r' ∈ O, r'.i ≠ r.i := by
    intro r' hr' e
    have := (tf0.bits r.i).2 ⟨r', hr', e⟩
    rw [sc.nb] at this
    cases this
  have hYr : Y r.i = true := by rw [hY, if_pos rfl]
  have hYo : ∀ j, j ≠ r.i → Y j = X j := fun j hj => by rw [hY, if_neg hj]
  have hYX : ∀ j, X j = true → Y j = true := fun j hj => by
    by_cases h : j = r.i
    · rw [h]; exact hYr
    · rw [hYo j h]; exact hj
  have eN : only Y N = only X N := only_congr fun r' hr' => hYo _ (hN r' hr').1
  have eO : only Y O = only X O := only_congr fun r' hr' => hYo _ (hOi r' hr')
  have eY : only Y (N ++ r :: O) = only X N ++ r :: only X O := by rw [only_append, only_cons_yes hYr, eN, eO]
  have eX : only X (N ++ r :: O) = only X N ++ only X O := by rw [only_append, only_cons_no hk]
  have hrec : ∀ r' ∈ N ++ r :: O, ops[r'.i]? = some r'.o := by
    intro r' hr'
    obtain ⟨L1, L2, e⟩ := List.append_of_mem hr'
    have ht' := ht
    rw [e] at ht'
    obtain ⟨_, _, _, sc1, _⟩ := trace_at hup L1 ht'
    exact sc1.ho
  have hNX : ∀ r' ∈ N, X r'.i = true → bk.testBit r'.i = false ∧ (B.getD r'.i 0).testBit r.i = false := by
    intro r' hr' hx
    refine ⟨(hN r' hr').2.2.2.2, ?_⟩
    cases hb : (B.getD r'.i 0).testBit r.i
    · rfl
    · rw [hX _ _ hx hb] at hk
      cases hk
  have hmaskN : ∀ r' ∈ only X N, ∀ d, r'.o.dst = some d → r.o.dst ≠ some d := by
    intro r' hr' e he
    obtain ⟨hr', hx⟩ := only_mem.1 hr'
    obtain ⟨h2, h3⟩ := hNX r' hr' hx
    have h1 := (hN r' hr').1
    exact dstOk_ok B bk r.i r.o.dst ops.toList 0 sc.ds r'.i r'.o (by simpa using hrec r' (by simp [hr'])) (by omega) (by simpa using h2) (by simpa using h3) e he
  have hidsG : ∀ r' ∈ N ++ r :: O, ∀ i ∈ r'.ids, i ∈ r'.W ∨ r'.n ≤ i := by
    intro r' hr' i hi
    obtain ⟨L1, L2, e⟩ := List.append_of_mem hr'
    have ht' := ht
    rw [e] at ht'
    obtain ⟨_, _, _, sc1, _⟩ := trace_at hup L1 ht'
    rw [sc1.ids] at hi
    rcases List.mem_append.1 hi with hi | hi
    · exact .inl hi
    · exact .inr (by rw [sc1.n]; exact newIds_ge _ _ _ hi)
  have hLY : ∀ r' ∈ N ++ r :: O, Y r'.i = true → r' = r ∨ X r'.i = true := by
    intro r' hr' hy
    by_cases e : r'.i = r.i
    · rcases List.mem_append.1 hr' with h | h
      · exact absurd e (hN r' h).1
      · cases h with
        | head => exact .inl rfl
        | tail _ h => exact absurd e (hOi r' h)
    · exact .inr (by rw [← hYo _ e]; exact hy)
  -- what a fact is now: one of the step's own, or an old one that the step has not written
  have hfact : ∀ i C, Hist s (only Y (N ++ r :: O)) i C → (i ∈ r.ids ∧ look r.s1.heap i = some C) ∨ (Hist s (only X (N ++ r :: O)) i C ∧ i ∉ r.W) := by
    intro i C hC
    rw [eY] at hC
    rcases hist_mid r _ _ i C hC with ⟨h1, h2, _⟩ | ⟨h1, h2⟩
    · exact .inl ⟨h1, h2⟩
    · rw [← eX] at h1
      refine .inr ⟨h1, ?_⟩
      rcases h2 with h2 | ⟨r', h2, h3⟩
      · exact h2
      · obtain ⟨h4, hx⟩ := only_mem.1 h2
        obtain ⟨_, k2, _, k4, _⟩ := hN r' h4
        rcases hidsG r' (by simp [h4]) i h3 with h5 | h5
        · rcases k4 with k4 | k4 | k4
          · rw [k4] at h5
            cases h5
          · rw [(hNX r' h4 hx).2] at k4
            cases k4
          · rw [hf.pw k4]
            simp
        · intro h6
          have := (hf.kn i h6).1
          have := hur.2.2.2.2.1
          omega
  have hold : ∀ i C, Hist s (only X (N ++ r :: O)) i C → i ∉ r.W → ∃ b cs, ρ.blk i = some b ∧ ρ'.blk i = some b ∧ w'.heap[b]? = some (.cells cs C.ty (0, 0)) ∧ BR V ρ' b C cs := by
    intro i C h1 h2
    obtain ⟨b, cs, q1, q2, q3⟩ := hI.h i C h1
    refine ⟨b, cs, q1, hf.le.1 _ _ q1, (hf.fr b (hI.bnd i b q1) ?_).trans q2, q3.mono V hf.le⟩
    intro j hj e
    obtain ⟨_, C', hC'⟩ := hf.kn j hj
    exact h2 (hI.inj i j C C' b h1 hC' q1 e ▸ hj)
  have hcross : ∀ i j C C' b, i ∈ r.ids → look r.s1.heap i = some C → Hist s (only X (N ++ r :: O)) j C' → j ∉ r.W → ρ'.blk i = some b → ρ'.blk j = some b → False := by
    intro i j C C' b h1 h2 h3 h4 h5 h6
    obtain ⟨bj, cs, q1, q2, _⟩ := hold j C' h3 h4
    rw [q2] at h6
    injection h6 with h6
    subst h6
    rcases hidsG r hrin i h1 with h7 | h7
    · obtain ⟨k1, C2, k2⟩ := hf.kn i h7
      have h8 : ρ.blk i = some bj := by rw [← hf.blk i (.inl k1)]; exact h5
      exact h4 (hI.inj i j C2 C' bj k2 h3 h8 q1 ▸ h7)
    · rcases hf.new i bj h7 (hf.lt i C h2) h5 with h8 | ⟨j', h8, h9⟩
      · have := hI.bnd j bj q1
        omega
      · obtain ⟨_, C2, k2⟩ := hf.kn j' h8
        exact h4 (hI.inj j' j C2 C' bj k2 h3 h9 q1 ▸ h8)
  have hWD : ∀ j ∈ r.W, j ∈ D.s.dirty := (trace_hist ht).2.2.2.1 r hrin
  have hown : ∀ M : List PR, (∀ r' ∈ M, r' ∈ N ++ r :: O ∧ X r'.i = true) → ∀ i C, Hist s M i C → s.next ≤ i ∨ (look s.heap i).isSome = true := by
    intro M
    induction M with
    | nil =>
      intro _ i C hC
      exact .inr (by rw [show look s.heap i = some C from hC]; rfl)
    | cons q M ih =>
      intro hM i C hC
      obtain ⟨g1, g2⟩ := hM q (by simp)
      rcases hC with ⟨h1, _⟩ | ⟨_, h2⟩
      · rcases hidsG q g1 i h1 with h3 | h3
        · exact (hI.rokW q g1 g2 i h3).2
        · exact .inl (Nat.le_trans (tfD.up q g1).2.2.1 h3)
      · exact ih (fun r' hr' => hM r' (by simp [hr'])) i C h2
  constructor
  · have hp := tr_put (hI.tr.mono V hf.le) hf.v r.o.dst
    refine ⟨by rw [hp.z, put_length, tfold_length, tfold_length], fun e => ?_, hp.df⟩
    rw [eY, tfold_mid t r e _ _ hmaskN, ← eX]
    exact hp.v e
  · intro i C hC
    rcases hfact i C hC with ⟨h1, h2⟩ | ⟨h1, h2⟩
    · exact hf.h i C h1 h2
    · obtain ⟨b, cs, _, q2, q3, q4⟩ := hold i C h1 h2
      exact ⟨b, cs, q2, q3, q4⟩
  · intro i j C C' b hC hD h1 h2
    rcases hfact i C hC with ⟨g1, g2⟩ | ⟨g1, g2⟩
    · rcases hfact j C' hD with ⟨k1, k2⟩ | ⟨k1, k2⟩
      · exact hf.inj i j C C' b g1 k1 g2 k2 h1 h2
      · exact (hcross i j C C' b g1 g2 k1 k2 h1 h2).elim
    · rcases hfact j C' hD with ⟨k1, k2⟩ | ⟨k1, k2⟩
      · exact (hcross j i C' C b k1 k2 g1 g2 h2 h1).elim
      · obtain ⟨b1, _, q1, q2, _⟩ := hold i C g1 g2
        obtain ⟨b2, _, p1, p2, _⟩ := hold j C' k1 k2
        rw [q2] at h1
        rw [p2] at h2
        injection h1 with h1
        injection h2 with h2
        subst h1
        subst h2
        exact hI.inj i j C C' _ g1 k1 q1 p1
  · exact hf.bnd
  · intro i b h
    by_cases h1 : i < r.n ∨ r.s1.next ≤ i
    · rw [hf.blk i h1] at h
      rcases hI.dom i b h with h2 | ⟨r', h2, h3, h4⟩
      · exact .inl h2
      · exact .inr ⟨r', h2, hYX _ h3, h4⟩
    · exact .inr ⟨r, hrin, hYr, by omega, by omega⟩
  · intro i b h
    by_cases h1 : i < r.c ∨ r.s1.ncap ≤ i
    · rw [hf.cap i h1] at h
      rcases hI.domc i b h with h2 | ⟨r', h2, h3, h4⟩
      · exact .inl h2
      · exact .inr ⟨r', h2, hYX _ h3, h4⟩
    · exact .inr ⟨r, hrin, hYr, by omega, by omega⟩
  · intro i h
    rw [hf.blk i (by have := hur.1; have := hur.2.2.1; omega)]
    exact hI.old i h
  · intro i h
    rw [hf.cap i (by have := hur.2.1; have := hur.2.2.2.1; omega)]
    exact hI.oldc i h
  · exact hI.le.trans hf.le
  · intro b hb hd
    refine (hf.fr b (Nat.lt_of_lt_of_le hb hI.size) (fun j hj e => ?_)).trans (hI.fr b hb hd)
    have hjn := (hf.kn j hj).1
    by_cases h1 : j < s.next
    · exact hd j (hWD j hj) h1 (by rw [← hI.old j (.inl h1)]; exact e)
    · rcases hI.new j b (by omega) (by have := hur.1; have := hur.2.2.2.2.1; omega) e with h2 | ⟨j', h2, h3, h4⟩
      · omega
      · exact hd j' h2 h3 h4
  · intro i b h1 h2 h3
    by_cases h4 : i < r.n ∨ r.s1.next ≤ i
    · rw [hf.blk i h4] at h3
      exact hI.new i b h1 h2 h3
    · rcases hf.new i b (by omega) (by omega) h3 with h5 | ⟨j, h5, h6⟩
      · exact .inl (Nat.le_trans hI.size h5)
      · have hjn := (hf.kn j h5).1
        by_cases h7 : j < s.next
        · exact .inr ⟨j, hWD j h5, h7, by rw [← hI.old j (.inl h7)]; exact h6⟩
        · exact hI.new j b (by omega) (by have := hur.1; have := hur.2.2.2.2.1; omega) h6
  · exact hf.os.trans hI.os
  · exact hf.tape.trans hI.tape
  · exact hf.out.trans hI.out
  · exact Nat.le_trans hI.size hf.size
  · intro r' hr' hy j hj
    rcases hLY r' hr' hy with rfl | hx
    · obtain ⟨k1, C, k2⟩ := hf.kn j hj
      exact ⟨k1, hown _ (fun q hq => only_mem.1 hq) j C k2⟩
    · exact hI.rokW r' hr' hx j hj
  · intro r' hr' hy
    rcases hLY r' hr' hy with rfl | hx
    · exact hf.lt
    · exact hI.rokL r' hr' hx
end
end Ab
end Go.Proofs.Ytddiclnkfhldlaa
