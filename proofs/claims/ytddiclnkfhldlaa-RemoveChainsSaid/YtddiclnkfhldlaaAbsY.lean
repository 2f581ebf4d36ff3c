/-
  Regions that draw their order: the trace of the interpreter's run over one, and what it says of any order.
  Conditions: none.
-/
import Derived.Test.YtddiclnkfhldlaaAbsX
namespace Go.Proofs.Ytddiclnkfhldlaa
namespace Ab
set_option linter.unusedVariables false
set_option linter.unusedSimpArgs false
section
variable {P : Program} {V : Nat → Value} {E : Env}
theorem closeA_ok : ∀ (l : List Edge) (acc : List Nat) (k b : Nat), closeA l acc k = some b → (∀ e ∈ l, Region.binds .any e = true → e.on < k) ∧ ∀ j, b.testBit j = true → ∃ e ∈ l, Region.binds .any e = true ∧ ∃ be, acc[e.on]? = some be ∧ (j = e.on ∨ be.testBit j = true)
  | [], acc, k, b, h => by
    simp only [closeA, Option.some.injEq] at h
    subst h
    refine ⟨fun e he => (by cases he), fun j hj => ?_⟩
    simp at hj
  | e :: l, acc, k, b, h => by
    simp only [closeA] at h
    cases hr : closeA l acc k with
    | none => simp [hr] at h
    | some x =>
      obtain ⟨h1, h2⟩ := closeA_ok l acc k x hr
      simp only [hr] at h
      cases hb : Region.binds .any e
      · simp only [hb, cond_false, Option.some.injEq] at h
        subst h
        refine ⟨fun e' he' hb' => ?_, fun j hj => ?_⟩
        · cases he' with
          | head => rw [hb] at hb'; cases hb'
          | tail _ he' => exact h1 e' he' hb'
        · obtain ⟨e', q1, q2⟩ := h2 j hj
          exact ⟨e', List.mem_cons_of_mem _ q1, q2⟩
      · simp only [hb, cond_true] at h
        cases hl : Nat.blt e.on k
        · simp [hl] at h
        · simp only [hl, cond_true] at h
          cases ha : acc[e.on]? with
          | none => simp [ha] at h
          | some be =>
            simp only [ha, Option.some.injEq] at h
            subst h
            have hlt : e.on < k := by
              have := Nat.le_of_ble_eq_true (show Nat.ble (e.on + 1) k = true from hl)
              omega
            refine ⟨fun e' he' hb' => ?_, fun j hj => ?_⟩
            · cases he' with
              | head => exact hlt
              | tail _ he' => exact h1 e' he' hb'
            · rw [Nat.testBit_or, Nat.testBit_or, Nat.testBit_two_pow] at hj
              simp only [Bool.or_eq_true, decide_eq_true_eq] at hj
              rcases hj with (hj | hj) | hj
              · exact ⟨e, by simp, hb, be, ha, .inr hj⟩
              · exact ⟨e, by simp, hb, be, ha, .inl hj.symm⟩
              · obtain ⟨e', q1, q2⟩ := h2 j hj
                exact ⟨e', List.mem_cons_of_mem _ q1, q2⟩
/-- What the table of predecessors says. -/
def BOK (ops : Array Oper) (B : List Nat) : Prop := ∀ k o, ops[k]? = some o → (∀ e ∈ o.after, Region.binds .any e = true → e.on < k) ∧ ∀ j, (B.getD k 0).testBit j = true → ∃ e ∈ o.after, Region.binds .any e = true ∧ (j = e.on ∨ (B.getD e.on 0).testBit j = true)
theorem beforeA_ok : ∀ (l : List Oper) (acc : List Nat) (k : Nat) (B : List Nat), acc.length = k → beforeA l acc k = some B → (∃ more, B = acc ++ more) ∧ ∀ (i : Nat) (o : Oper), l[i]? = some o → (∀ e ∈ o.after, Region.binds .any e = true → e.on < k + i) ∧ ∀ j, (B.getD (k + i) 0).testBit j = true → ∃ e ∈ o.after, Region.binds .any e = true ∧ (j = e.on ∨ (B.getD e.on 0).testBit j = true)
  | [], acc, k, B, hk, h => by
    simp only [beforeA, Option.some.injEq] at h
    subst h
    exact ⟨⟨[], by simp⟩, fun i o h => by simp at h⟩
  | o :: l, acc, k, B, hk, h => by
    simp only [beforeA] at h
    cases hc : closeA o.after.toList acc k with
    | none => simp [hc] at h
    | some b =>
      simp only [hc] at h
      obtain ⟨⟨more, hm⟩, h2⟩ := beforeA_ok l (acc ++ [b]) (k + 1) B (by simp [hk]) h
      obtain ⟨c1, c2⟩ := closeA_ok _ _ _ _ hc
      refine ⟨⟨b :: more, by rw [hm]; simp⟩, fun i o' ho' => ?_⟩
      cases i with
      | zero =>
        simp only [List.getElem?_cons_zero, Option.some.injEq] at ho'
        subst ho'
        refine ⟨fun e he hb => c1 e (by simpa using he) hb, fun j hj => ?_⟩
        have hB : B.getD (k + 0) 0 = b := by
          rw [hm, ← hk]
          simp
        rw [hB] at hj
        obtain ⟨e, q1, q2, be, q3, q4⟩ := c2 j hj
        refine ⟨e, by simpa using q1, q2, ?_⟩
        have hlt : e.on < acc.length := (List.getElem?_eq_some_iff.1 q3).1
        have : B.getD e.on 0 = be := by
          rw [hm, List.append_assoc, List.getD_eq_getElem?_getD, List.getElem?_append_left hlt, q3]
          rfl
        rw [this]
        exact q4
      | succ i =>
        simp only [List.getElem?_cons_succ] at ho'
        have := h2 i o' ho'
        rw [show k + 1 + i = k + (i + 1) by omega] at this
        exact this
theorem bok {ops : Array Oper} {B : List Nat} (h : beforeA ops.toList [] 0 = some B) : BOK ops B := by
  intro k o ho
  have := (beforeA_ok _ [] 0 _ rfl h).2 k o (by simpa using ho)
  rw [Nat.zero_add] at this
  exact this
/-- A step of the run, for the proof. -/
structure PR where
  i : Nat
  o : Oper
  n : Nat
  c : Nat
  s1 : St
  v : AV
  W : List Nat
  ids : List Nat
def viewT (ops : Array Oper) (B : List Nat) (bk k : Nat) (D : DS) : Sl := maskA B bk k ops.toList 0 D.t
def viewS (bk : Nat) (D : DS) : St := { D.s with heap := hideA (hiddenOf bk D.recs) D.s.heap, dirty := [] }
def DS.then (D : DS) (r : PR) : DS :=
  { t := put D.t r.o.dst r.v, s := { heap := layNew D.s.next r.s1.heap (layW r.s1.heap r.W D.s.heap), next := r.s1.next, ncap := r.s1.ncap, dirty := r.W ++ D.s.dirty }, recs := ⟨r.i, r.ids⟩ :: D.recs, bits := D.bits ||| 2 ^ r.i }
/-- The conditions of a step. -/
structure SC (E : Env) (call : Call1) (ops : Array Oper) (B : List Nat) (D : DS) (r : PR) (bk : Nat) : Prop where
  ho : ops[r.i]? = some r.o
  hb : B[r.i]? = some bk
  nb : D.bits.testBit r.i = false
  su : bk &&& D.bits = bk
  ds : dstOk B bk r.i r.o.dst ops.toList 0 = true
  st : stepA E call ops (viewT ops B bk r.i D) (viewS bk D) r.o = some (r.v, r.s1)
  n : r.n = D.s.next
  c : r.c = D.s.ncap
  W : r.W = r.s1.dirty.filter (fun i => Nat.blt i D.s.next)
  ids : r.ids = r.W ++ newIds D.s.next r.s1.heap []
  pp : r.W = [] ∨ purePast ops bk D.recs = true
inductive Trace (E : Env) (call : Call1) (ops : Array Oper) (B : List Nat) (t : Sl) (s : St) : DS → List PR → Prop
  | nil : Trace E call ops B t s ⟨t, s, [], 0⟩ []
  | cons {D : DS} {L : List PR} {r : PR} {bk : Nat} (h : Trace E call ops B t s D L) (k : SC E call ops B D r bk) : Trace E call ops B t s (D.then r) (r :: L)
theorem drawStep_trace {call : Call1} {ops : Array Oper} {B : List Nat} {t : Sl} {s : St} {k : Nat} {D D' : DS} {L : List PR} (h : Trace E call ops B t s D L) (hs : drawStep E call ops B k D = some D') : ∃ L', Trace E call ops B t s D' L' ∧ (∀ j, D.bits.testBit j = true → D'.bits.testBit j = true) ∧ (k < ops.size → k < B.length → D'.bits.testBit k = true) := by
  unfold drawStep at hs
  split at hs
  · rename_i o bk ho hb
    cases hbit : D.bits.testBit k
    · simp only [hbit, cond_false] at hs
      cases h1 : Nat.beq (bk &&& D.bits) bk
      · simp [h1] at hs
      · simp only [h1, Bool.not_true, cond_false] at hs
        cases h2 : dstOk B bk k o.dst ops.toList 0
        · simp [h2] at hs
        · simp only [h2, Bool.not_true, cond_false] at hs
          split at hs
          · cases hs
          · rename_i v s1 hst
            have key : ∀ b : Bool, b = ((s1.dirty.filter (fun i => Nat.blt i D.s.next)).isEmpty || purePast ops bk D.recs) → b = true →
                ∃ L', Trace E call ops B t s (D.then ⟨k, o, D.s.next, D.s.ncap, s1, v, s1.dirty.filter (fun i => Nat.blt i D.s.next), s1.dirty.filter (fun i => Nat.blt i D.s.next) ++ newIds D.s.next s1.heap []⟩) L' := by
              intro b hb1 hb2
              refine ⟨_, .cons h (bk := bk) ⟨ho, hb, hbit, Nat.eq_of_beq_eq_true h1, h2, hst, rfl, rfl, rfl, rfl, ?_⟩⟩
              rw [hb2] at hb1
              have hb1 := hb1.symm
              simp only [Bool.or_eq_true] at hb1
              rcases hb1 with hb1 | hb1
              · exact .inl (List.isEmpty_iff.1 hb1)
              · exact .inr hb1
            cases hc : ((s1.dirty.filter (fun i => Nat.blt i D.s.next)).isEmpty || purePast ops bk D.recs)
            · simp [hc] at hs
            · simp only [hc, cond_true, Option.some.injEq] at hs
              subst hs
              obtain ⟨L', hL'⟩ := key _ rfl hc
              refine ⟨L', hL', fun j hj => ?_, fun _ _ => ?_⟩
              · show (D.bits ||| 2 ^ k).testBit j = true
                rw [Nat.testBit_or, hj]
                rfl
              · show (D.bits ||| 2 ^ k).testBit k = true
                rw [Nat.testBit_or, Nat.testBit_two_pow_self]
                simp
    · simp only [hbit, cond_true, Option.some.injEq] at hs
      subst hs
      exact ⟨L, h, fun j hj => hj, fun _ _ => hbit⟩
  · cases hs
theorem drawList_trace {call : Call1} {ops : Array Oper} {B : List Nat} {t : Sl} {s : St} : ∀ (l : List Nat) {D D' : DS} {L : List PR}, Trace E call ops B t s D L → drawList E call ops B l D = some D' → ∃ L', Trace E call ops B t s D' L' ∧ (∀ j, D.bits.testBit j = true → D'.bits.testBit j = true) ∧ (∀ k ∈ l, k < ops.size → k < B.length → D'.bits.testBit k = true)
  | [], D, D', L, h, hs => by
    simp only [drawList, Option.some.injEq] at hs
    subst hs
    exact ⟨L, h, fun j hj => hj, fun k hk => by cases hk⟩
  | k :: l, D, D', L, h, hs => by
    simp only [drawList] at hs
    split at hs
    · rename_i D1 h1
      obtain ⟨L1, g1, g2, g3⟩ := drawStep_trace h h1
      obtain ⟨L2, k1, k2, k3⟩ := drawList_trace l g1 hs
      refine ⟨L2, k1, fun j hj => k2 j (g2 j hj), fun j hj h1 h2 => ?_⟩
      cases hj with
      | head => exact k2 _ (g3 h1 h2)
      | tail _ hj => exact k3 j hj h1 h2
    · cases hs
theorem beforeA_length : ∀ (l : List Oper) (acc : List Nat) (k : Nat) (B : List Nat), beforeA l acc k = some B → B.length = acc.length + l.length
  | [], acc, k, B, h => by
    simp only [beforeA, Option.some.injEq] at h
    subst h
    rfl
  | o :: l, acc, k, B, h => by
    simp only [beforeA] at h
    split at h
    · rename_i b hb
      have := beforeA_length l _ _ B h
      simp at this ⊢
      omega
    · cases h
/-- What a trace is, in short. -/
structure TF (ops : Array Oper) (B : List Nat) (s : St) (D : DS) (L : List PR) : Prop where
  recs : D.recs = L.map (fun r => ⟨r.i, r.ids⟩)
  bits : ∀ j, D.bits.testBit j = true ↔ ∃ r ∈ L, r.i = j
  up : ∀ r ∈ L, r.s1.next ≤ D.s.next ∧ r.s1.ncap ≤ D.s.ncap ∧ s.next ≤ r.n ∧ s.ncap ≤ r.c ∧ r.n ≤ r.s1.next ∧ r.c ≤ r.s1.ncap
  s : s.next ≤ D.s.next ∧ s.ncap ≤ D.s.ncap
theorem trace_tf {call : Call1} (hup : CallUp call) {ops : Array Oper} {B : List Nat} {t : Sl} {s : St} {D : DS} {L : List PR} (h : Trace E call ops B t s D L) : TF ops B s D L := by
  induction h with
  | nil => exact ⟨rfl, fun j => (by simp), fun r hr => (by cases hr), Nat.le_refl _, Nat.le_refl _⟩
  | @cons D L r bk h k ih =>
    have hu := stepA_up hup k.st
    have hu1 : D.s.next ≤ r.s1.next := hu.1
    have hu2 : D.s.ncap ≤ r.s1.ncap := hu.2
    refine ⟨by simp [DS.then, ih.recs], fun j => ?_, fun r' hr' => ?_, Nat.le_trans ih.s.1 hu1, Nat.le_trans ih.s.2 hu2⟩
    · show (D.bits ||| 2 ^ r.i).testBit j = true ↔ _
      rw [Nat.testBit_or, Nat.testBit_two_pow, Bool.or_eq_true, ih.bits j]
      simp only [List.mem_cons, decide_eq_true_eq]
      constructor
      · rintro (⟨r', h1, h2⟩ | h1)
        · exact ⟨r', .inr h1, h2⟩
        · exact ⟨r, .inl rfl, h1⟩
      · rintro ⟨r', h1 | h1, h2⟩
        · subst h1
          exact .inr h2
        · exact .inl ⟨r', h1, h2⟩
    · cases hr' with
      | head =>
        refine ⟨Nat.le_refl _, Nat.le_refl _, ?_, ?_, ?_, ?_⟩
        · rw [k.n]; exact ih.s.1
        · rw [k.c]; exact ih.s.2
        · rw [k.n]; exact hu1
        · rw [k.c]; exact hu2
      | tail _ hr' =>
        obtain ⟨a1, a2, a3, a4, a5, a6⟩ := ih.up r' hr'
        exact ⟨Nat.le_trans a1 hu1, Nat.le_trans a2 hu2, a3, a4, a5, a6⟩
/-- A step in the middle of a trace. -/
theorem trace_at {call : Call1} (hup : CallUp call) {ops : Array Oper} {B : List Nat} {t : Sl} {s : St} {r : PR} {O : List PR} : ∀ (N : List PR) {D : DS}, Trace E call ops B t s D (N ++ r :: O) → ∃ D0 bk, Trace E call ops B t s D0 O ∧ SC E call ops B D0 r bk ∧
    ∀ r' ∈ N, r'.i ≠ r.i ∧ r.s1.next ≤ r'.n ∧ r.s1.ncap ≤ r'.c ∧ (r'.W = [] ∨ (B.getD r'.i 0).testBit r.i = true ∨ isPure r.o.op = true) ∧ bk.testBit r'.i = false
  | [], D, h => by
    cases h with
    | cons h k => exact ⟨_, _, h, k, fun r' hr' => by cases hr'⟩
  | p :: N, D, h => by
    cases h with
    | @cons D1 _ _ bk1 h k =>
      obtain ⟨D0, bk, g1, g2, g3⟩ := trace_at hup N h
      refine ⟨D0, bk, g1, g2, fun r' hr' => ?_⟩
      cases hr' with
      | head =>
        have tf := trace_tf hup h
        have hr : r ∈ N ++ r :: O := by simp
        have hne : p.i ≠ r.i := by
          intro e
          have := (tf.bits p.i).2 ⟨r, hr, e.symm⟩
          rw [k.nb] at this
          cases this
        have hu := tf.up r hr
        refine ⟨hne, by rw [k.n]; exact hu.1, by rw [k.c]; exact hu.2.1, ?_, ?_⟩
        · rcases k.pp with h1 | h1
          · exact .inl h1
          · right
            rw [tf.recs] at h1
            have hB : B.getD p.i 0 = bk1 := by rw [List.getD_eq_getElem?_getD, k.hb]; rfl
            rw [hB]
            have : ∀ l : List PR, purePast ops bk1 (l.map (fun r => (⟨r.i, r.ids⟩ : Rec))) = true → ∀ q ∈ l, bk1.testBit q.i = true ∨ (match ops[q.i]? with | some o => isPure o.op | none => false) = true := by
              intro l
              induction l with
              | nil => intro _ q hq; cases hq
              | cons x l ih =>
                intro hp q hq
                simp only [List.map_cons, purePast, Bool.and_eq_true, Bool.or_eq_true] at hp
                cases hq with
                | head => exact hp.1
                | tail _ hq => exact ih hp.2 q hq
            rcases this _ h1 r hr with h2 | h2
            · exact .inl h2
            · rw [g2.ho] at h2
              exact .inr h2
        · cases hbt : bk.testBit p.i
          · rfl
          · exfalso
            have h1 : D0.bits.testBit p.i = true := by
              have := congrArg (fun z => z.testBit p.i) g2.su
              simp only [Nat.testBit_and, hbt, Bool.true_and] at this
              exact this
            obtain ⟨q, hq, he⟩ := ((trace_tf hup g1).bits p.i).1 h1
            have := (tf.bits p.i).2 ⟨q, by simp [hq], he⟩
            rw [k.nb] at this
            cases this
      | tail _ hr' => exact g3 r' hr'
end
end Ab
end Go.Proofs.Ytddiclnkfhldlaa
