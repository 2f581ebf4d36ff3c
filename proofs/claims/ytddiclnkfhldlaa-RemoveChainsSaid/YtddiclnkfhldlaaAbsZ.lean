/-
  Regions that draw their order: whatever the order, what the interpreter says of them, they do.
  Conditions: none.
-/
import Derived.Test.YtddiclnkfhldlaaAbsY
namespace Go.Proofs.Ytddiclnkfhldlaa
namespace Ab
set_option linter.unusedVariables false
set_option linter.unusedSimpArgs false
section
variable {P : Program} {V : Nat → Value} {E : Env}
/-- What is known of a block behind some steps, the latest first. -/
def Hist (s : St) : List PR → Nat → Blk → Prop
  | [], i, B => look s.heap i = some B
  | r :: L, i, B => (i ∈ r.ids ∧ look r.s1.heap i = some B) ∨ (i ∉ r.W ∧ Hist s L i B)
def tfold (t : Sl) : List PR → Sl
  | [] => t
  | r :: L => put (tfold t L) r.o.dst r.v
theorem newIds_acc (n : Nat) : ∀ (H : List (Nat × Blk)) (acc : List Nat) (i : Nat), i ∈ newIds n H acc ↔ i ∈ acc ∨ i ∈ newIds n H []
  | [], acc, i => by simp [newIds]
  | x :: r, acc, i => by
    simp only [newIds]
    cases hb : Nat.ble n x.1
    · simp
    · simp only [cond_true]
      rw [newIds_acc n r (x.1 :: acc), newIds_acc n r [x.1]]
      simp only [List.mem_cons, List.not_mem_nil, or_false]
      constructor
      · rintro ((h | h) | h)
        · exact .inr (.inl h)
        · exact .inl h
        · exact .inr (.inr h)
      · rintro (h | h | h)
        · exact .inl (.inr h)
        · exact .inl (.inl h)
        · exact .inr h
theorem newIds_ge (n : Nat) : ∀ (H : List (Nat × Blk)) (i : Nat), i ∈ newIds n H [] → n ≤ i
  | [], i, h => by simp [newIds] at h
  | x :: r, i, h => by
    simp only [newIds] at h
    cases hb : Nat.ble n x.1
    · simp [hb] at h
    · simp only [hb, cond_true] at h
      rw [newIds_acc] at h
      rcases h with h | h
      · simp only [List.mem_cons, List.not_mem_nil, or_false] at h
        rw [h]
        exact Nat.le_of_ble_eq_true hb
      · exact newIds_ge n r i h
theorem layNew_look (n : Nat) (H : List (Nat × Blk)) : ∀ (H' : List (Nat × Blk)) (i : Nat) (B : Blk), look (layNew n H' H) i = some B → (i ∈ newIds n H' [] ∧ look H' i = some B) ∨ look H i = some B
  | [], i, B, h => .inr h
  | x :: r, i, B, h => by
    simp only [layNew] at h
    cases hb : Nat.ble n x.1
    · simp only [hb, cond_false] at h
      exact .inr h
    · simp only [hb, cond_true] at h
      simp only [newIds, hb, cond_true]
      rw [newIds_acc]
      rw [look_cons] at h ⊢
      by_cases hx : x.1 = i
      · rw [if_pos hx] at h ⊢
        exact .inl ⟨.inl (by simp [hx]), h⟩
      · rw [if_neg hx] at h ⊢
        rcases layNew_look n H r i B h with ⟨h1, h2⟩ | h1
        · exact .inl ⟨.inr h1, h2⟩
        · exact .inr h1
theorem layW_look (H' : List (Nat × Blk)) : ∀ (W : List Nat) (H : List (Nat × Blk)) (j : Nat) (B : Blk), look (layW H' W H) j = some B → (j ∈ W ∧ look H' j = some B) ∨ (j ∉ W ∧ look H j = some B)
  | [], H, j, B, h => .inr ⟨by simp, h⟩
  | i :: r, H, j, B, h => by
    simp only [layW] at h
    split at h
    · rename_i B0 h0
      rcases layW_look H' r _ j B h with ⟨h1, h2⟩ | ⟨h1, h2⟩
      · exact .inl ⟨List.mem_cons_of_mem _ h1, h2⟩
      · rw [look_upd] at h2
        by_cases hj : j = i
        · subst hj
          rw [if_pos rfl] at h2
          cases hq : look H j with
          | none => simp [hq] at h2
          | some C =>
            simp only [hq, Option.map_some, Option.some.injEq] at h2
            subst h2
            exact .inl ⟨by simp, h0⟩
        · rw [if_neg hj] at h2
          exact .inr ⟨by simp [hj, h1], h2⟩
    · rename_i h0
      rcases layW_look H' r _ j B h with ⟨h1, h2⟩ | ⟨h1, h2⟩
      · exact .inl ⟨List.mem_cons_of_mem _ h1, h2⟩
      · rw [look_del] at h2
        by_cases hj : j = i
        · simp [hj] at h2
        · rw [if_neg hj] at h2
          exact .inr ⟨by simp [hj, h1], h2⟩
theorem trace_hist {call : Call1} {ops : Array Oper} {B : List Nat} {t : Sl} {s : St} {D : DS} {L : List PR} (h : Trace E call ops B t s D L) : D.t = tfold t L ∧ (∀ i C, look D.s.heap i = some C → Hist s L i C) ∧ (∀ j ∈ D.s.dirty, j ∈ s.dirty ∨ ∃ r ∈ L, j ∈ r.W) ∧ (∀ r ∈ L, ∀ j ∈ r.W, j ∈ D.s.dirty) ∧ (∀ j ∈ s.dirty, j ∈ D.s.dirty) := by
  induction h with
  | nil => exact ⟨rfl, fun i C h => h, fun j h => .inl h, fun r hr => (by cases hr), fun j h => h⟩
  | @cons D L r bk h k ih =>
    obtain ⟨h1, h2, h3, h4, h5⟩ := ih
    refine ⟨by simp [DS.then, tfold, h1], fun i C hC => ?_, fun j hj => ?_, fun r' hr' j hj => ?_, fun j hj => List.mem_append_right _ (h5 j hj)⟩
    · rcases layNew_look _ _ _ i C hC with ⟨g1, g2⟩ | g1
      · exact .inl ⟨by rw [k.ids]; exact List.mem_append_right _ g1, g2⟩
      · rcases layW_look _ _ _ i C g1 with ⟨g2, g3⟩ | ⟨g2, g3⟩
        · exact .inl ⟨by rw [k.ids]; exact List.mem_append_left _ g2, g3⟩
        · exact .inr ⟨g2, h2 i C g3⟩
    · rcases List.mem_append.1 hj with hj | hj
      · exact .inr ⟨r, by simp, hj⟩
      · rcases h3 j hj with h6 | ⟨r', h6, h7⟩
        · exact .inl h6
        · exact .inr ⟨r', by simp [h6], h7⟩
    · cases hr' with
      | head => exact List.mem_append_left _ hj
      | tail _ hr' => exact List.mem_append_right _ (h4 r' hr' j hj)
theorem hasN_iff : ∀ (l : List Nat) (i : Nat), hasN l i = true ↔ i ∈ l
  | [], i => by simp [hasN]
  | x :: r, i => by
    simp only [hasN]
    by_cases h : x = i
    · subst h
      simp
    · simp only [beq_no h, cond_false, hasN_iff r i, List.mem_cons]
      constructor
      · exact .inr
      · rintro (h1 | h1)
        · exact absurd h1.symm h
        · exact h1
theorem hide_look (l : List Nat) : ∀ (H : List (Nat × Blk)) (i : Nat) (B : Blk), look (hideA l H) i = some B → i ∉ l ∧ look H i = some B
  | [], i, B, h => by simp [hideA, look] at h
  | x :: r, i, B, h => by
    simp only [hideA] at h
    cases hb : hasN l x.1
    · simp only [hb, cond_false] at h
      rw [look_cons] at h ⊢
      by_cases hx : x.1 = i
      · rw [if_pos hx] at h ⊢
        refine ⟨fun hm => ?_, h⟩
        rw [hx, (hasN_iff l i).2 hm] at hb
        cases hb
      · rw [if_neg hx] at h ⊢
        exact hide_look l r i B h
    · simp only [hb, cond_true] at h
      obtain ⟨h1, h2⟩ := hide_look l r i B h
      have hm := (hasN_iff l x.1).1 hb
      refine ⟨h1, ?_⟩
      rw [look_cons, if_neg (show ¬ x.1 = i from fun e => h1 (by rw [← e]; exact hm))]
      exact h2
theorem hidden_iff (bk : Nat) : ∀ (L : List PR) (i : Nat), i ∉ hiddenOf bk (L.map (fun r => (⟨r.i, r.ids⟩ : Rec))) → ∀ r ∈ L, bk.testBit r.i = true ∨ i ∉ r.ids
  | [], i, _, r, hr => by cases hr
  | x :: L, i, h, r, hr => by
    simp only [List.map_cons, hiddenOf] at h
    cases hb : bk.testBit x.i
    · simp only [hb, cond_false, List.mem_append, not_or] at h
      cases hr with
      | head => exact .inr h.1
      | tail _ hr => exact hidden_iff bk L i h.2 r hr
    · simp only [hb, cond_true] at h
      cases hr with
      | head => exact .inl hb
      | tail _ hr => exact hidden_iff bk L i h r hr
/-- The steps of a set. -/
def only (X : Nat → Bool) (L : List PR) : List PR := L.filter (fun r => X r.i)
theorem hist_only {s : St} {bk : Nat} {X : Nat → Bool} : ∀ (L : List PR) (i : Nat) (B : Blk), Hist s L i B → (∀ r ∈ L, bk.testBit r.i = true ∨ i ∉ r.ids) → (∀ r ∈ L, bk.testBit r.i = true → X r.i = true) → Hist s (only X L) i B
  | [], i, B, h, _, _ => h
  | r :: L, i, B, h, h1, h2 => by
    unfold only
    rcases h with ⟨g1, g2⟩ | ⟨g1, g2⟩
    · have hx : X r.i = true := by
        rcases h1 r (by simp) with h3 | h3
        · exact h2 r (by simp) h3
        · exact absurd g1 h3
      rw [List.filter_cons_of_pos (by exact hx)]
      exact .inl ⟨g1, g2⟩
    · have ih := hist_only (X := X) L i B g2 (fun r' hr' => h1 r' (by simp [hr'])) (fun r' hr' => h2 r' (by simp [hr']))
      cases hx : X r.i
      · rw [List.filter_cons_of_neg (by simp [hx])]
        exact ih
      · rw [List.filter_cons_of_pos (by exact hx)]
        exact .inr ⟨g1, ih⟩
theorem hist_newer {s : St} : ∀ (N O : List PR) (i : Nat) (B : Blk), Hist s O i B → (∀ r ∈ N, i ∉ r.W) → Hist s (N ++ O) i B
  | [], O, i, B, h, _ => h
  | r :: N, O, i, B, h, h1 => .inr ⟨h1 r (by simp), hist_newer N O i B h (fun r' hr' => h1 r' (by simp [hr']))⟩
/-- Where a fact comes from. -/
theorem hist_split {s : St} : ∀ (N O : List PR) (i : Nat) (B : Blk), Hist s (N ++ O) i B → (∃ r ∈ N, i ∈ r.ids) ∨ ((∀ r ∈ N, i ∉ r.W) ∧ Hist s O i B)
  | [], O, i, B, h => .inr ⟨fun r hr => (by cases hr), h⟩
  | r :: N, O, i, B, h => by
    rcases h with ⟨h1, _⟩ | ⟨h1, h2⟩
    · exact .inl ⟨r, by simp, h1⟩
    · rcases hist_split N O i B h2 with ⟨r', h3, h4⟩ | ⟨h3, h4⟩
      · exact .inl ⟨r', by simp [h3], h4⟩
      · refine .inr ⟨fun r' hr' => ?_, h4⟩
        cases hr' with
        | head => exact h1
        | tail _ hr' => exact h3 r' hr'
/-- A step laid in the middle changes nothing of what the later ones touched. -/
theorem hist_mid {s : St} (r : PR) : ∀ (N O : List PR) (i : Nat) (B : Blk), Hist s (N ++ r :: O) i B → (i ∈ r.ids ∧ look r.s1.heap i = some B ∧ ∀ r' ∈ N, i ∉ r'.W) ∨ (Hist s (N ++ O) i B ∧ (i ∉ r.W ∨ ∃ r' ∈ N, i ∈ r'.ids))
  | [], O, i, B, h => by
    rcases h with ⟨h1, h2⟩ | ⟨h1, h2⟩
    · exact .inl ⟨h1, h2, fun r' hr' => (by cases hr')⟩
    · exact .inr ⟨h2, .inl h1⟩
  | q :: N, O, i, B, h => by
    rcases h with ⟨h1, h2⟩ | ⟨h1, h2⟩
    · exact .inr ⟨.inl ⟨h1, h2⟩, .inr ⟨q, by simp, h1⟩⟩
    · rcases hist_mid r N O i B h2 with ⟨g1, g2, g3⟩ | ⟨g1, g2⟩
      · refine .inl ⟨g1, g2, fun r' hr' => ?_⟩
        cases hr' with
        | head => exact h1
        | tail _ hr' => exact g3 r' hr'
      · refine .inr ⟨.inr ⟨h1, g1⟩, ?_⟩
        rcases g2 with g2 | ⟨r', g2, g3⟩
        · exact .inl g2
        · exact .inr ⟨r', by simp [g2], g3⟩
theorem lget_put (t : Sl) (d : Option Nat) (v : AV) (e : Nat) : lget (put t d v) e = if d = some e ∧ e < t.length then v else lget t e := by
  cases d with
  | none => simp [put]
  | some d =>
    simp only [put, lget_lset, Option.some.injEq]
    by_cases h : e = d
    · subst h
      simp
    · rw [if_neg (by simp [h]), if_neg (by simp [Ne.symm h])]
theorem tfold_length (t : Sl) : ∀ L, (tfold t L).length = t.length
  | [] => rfl
  | r :: L => by rw [tfold, put_length, tfold_length t L]
theorem tfold_mid (t : Sl) (r : PR) (e : Nat) : ∀ (N O : List PR), (∀ r' ∈ N, ∀ d, r'.o.dst = some d → r.o.dst ≠ some d) → lget (tfold t (N ++ r :: O)) e = lget (put (tfold t (N ++ O)) r.o.dst r.v) e
  | [], O, _ => rfl
  | q :: N, O, h => by
    have ih := tfold_mid t r e N O (fun r' hr' => h r' (by simp [hr']))
    show lget (put (tfold t (N ++ r :: O)) q.o.dst q.v) e = lget (put (put (tfold t (N ++ O)) q.o.dst q.v) r.o.dst r.v) e
    rw [lget_put, lget_put, lget_put, ih, lget_put, put_length, tfold_length, tfold_length]
    by_cases h1 : q.o.dst = some e ∧ e < t.length
    · have h2 := h q (by simp) e h1.1
      rw [if_pos h1, if_neg (fun h3 => h2 h3.1), if_pos h1]
    · rw [if_neg h1, if_neg h1]
/-- A slot that no step outside writes. -/
theorem tfold_only (t : Sl) (X : Nat → Bool) (e : Nat) : ∀ (L : List PR), (∀ r ∈ L, X r.i = false → r.o.dst ≠ some e) → lget (tfold t (only X L)) e = lget (tfold t L) e
  | [], _ => rfl
  | r :: L, h => by
    have ih := tfold_only t X e L (fun r' hr' => h r' (by simp [hr']))
    unfold only at ih ⊢
    cases hx : X r.i
    · rw [List.filter_cons_of_neg (by simp [hx]), ih]
      show _ = lget (put (tfold t L) r.o.dst r.v) e
      rw [lget_put, if_neg (fun h1 => h r (by simp) hx h1.1)]
    · rw [List.filter_cons_of_pos (by exact hx)]
      show lget (put (tfold t (L.filter _)) r.o.dst r.v) e = lget (put (tfold t L) r.o.dst r.v) e
      rw [lget_put, lget_put, ih, tfold_length, tfold_length]
theorem tfold_newer (t : Sl) (e : Nat) : ∀ (N O : List PR), (∀ r ∈ N, r.o.dst ≠ some e) → lget (tfold t (N ++ O)) e = lget (tfold t O) e
  | [], O, _ => rfl
  | r :: N, O, h => by
    show lget (put (tfold t (N ++ O)) r.o.dst r.v) e = _
    rw [lget_put, if_neg (fun h1 => h r (by simp) h1.1)]
    exact tfold_newer t e N O (fun r' hr' => h r' (by simp [hr']))
/-- The masked slots. -/
theorem mask_look (B : List Nat) (bk k e : Nat) : ∀ (l : List Oper) (j : Nat) (t : Sl), lget (maskA B bk k l j t) e = .any ∨ (lget (maskA B bk k l j t) e = lget t e ∧ ∀ (m : Nat) (o : Oper), l[m]? = some o → j + m ≠ k → bk.testBit (j + m) = false → (B.getD (j + m) 0).testBit k = false → e < t.length → o.dst ≠ some e)
  | [], j, t => .inr ⟨rfl, fun m o h => by simp at h⟩
  | o :: l, j, t => by
    rw [maskA_cons]
    cases hb : (Nat.beq j k || bk.testBit j || (B.getD j 0).testBit k)
    · simp only [cond_false]
      rcases mask_look B bk k e l (j + 1) (put t o.dst .any) with h | ⟨h1, h2⟩
      · exact .inl h
      · rw [lget_put] at h1
        by_cases hd : o.dst = some e ∧ e < t.length
        · rw [if_pos hd] at h1
          exact .inl h1
        · rw [if_neg hd] at h1
          refine .inr ⟨h1, fun m o' ho' g1 g2 g3 g4 => ?_⟩
          cases m with
          | zero =>
            simp only [List.getElem?_cons_zero, Option.some.injEq] at ho'
            subst ho'
            exact fun h3 => hd ⟨h3, g4⟩
          | succ m =>
            simp only [List.getElem?_cons_succ] at ho'
            rw [show j + (m + 1) = j + 1 + m by omega] at g1 g2 g3
            exact h2 m o' ho' g1 g2 g3 (by rw [put_length]; exact g4)
    · simp only [cond_true]
      rcases mask_look B bk k e l (j + 1) t with h | ⟨h1, h2⟩
      · exact .inl h
      · refine .inr ⟨h1, fun m o' ho' g1 g2 g3 g4 => ?_⟩
        cases m with
        | zero =>
          exfalso
          simp only [Nat.add_zero] at g1 g2 g3
          rw [g2, g3, beq_no g1] at hb
          cases hb
        | succ m =>
          simp only [List.getElem?_cons_succ] at ho'
          rw [show j + (m + 1) = j + 1 + m by omega] at g1 g2 g3
          exact h2 m o' ho' g1 g2 g3 g4
theorem dstOk_ok (B : List Nat) (bk k : Nat) (d : Option Nat) : ∀ (l : List Oper) (j : Nat), dstOk B bk k d l j = true → ∀ (m : Nat) (o : Oper), l[m]? = some o → j + m ≠ k → bk.testBit (j + m) = false → (B.getD (j + m) 0).testBit k = false → ∀ e, o.dst = some e → d ≠ some e
  | [], j, _, m, o, h, _, _, _, _, _ => by simp at h
  | o :: l, j, h, m, o', ho', g1, g2, g3, e, he => by
    simp only [dstOk, Bool.and_eq_true] at h
    cases m with
    | zero =>
      simp only [List.getElem?_cons_zero, Option.some.injEq] at ho'
      subst ho'
      simp only [Nat.add_zero] at g1 g2 g3
      rw [g2, g3, beq_no g1] at h
      intro hd
      rw [hd, he] at h
      simp [sameDst] at h
    | succ m =>
      simp only [List.getElem?_cons_succ] at ho'
      rw [show j + (m + 1) = j + 1 + m by omega] at g1 g2 g3
      exact dstOk_ok B bk k d l (j + 1) h.2 m o' ho' g1 g2 g3 e he
theorem pure_op {call : Call1} {t : Sl} {s s' : St} {o : Oper} {v : AV} (hp : isPure o.op = true) (h : opA E call t s o = some (v, s')) : s' = s ∧ ∀ s2, opA E call t s2 o = some (v, s2) := by
  unfold opA at h ⊢
  cases hop : o.op
  case call c =>
    rw [hop] at hp
    simp only [hop, Bool.cond_eq_ite] at h ⊢
    cases hc : c.callee with
    | value f => simp [isPure, hc] at hp
    | invoke r m => simp [isPure, hc] at hp
    | builtin b =>
      cases b <;> simp [isPure, hc] at hp <;> simp only [hc] at h ⊢ <;> (repeat' split at h) <;> first
        | (cases h; done)
        | (simp only [Option.some.injEq, Prod.mk.injEq] at h
           obtain ⟨rfl, rfl⟩ := h
           exact ⟨rfl, fun s2 => by simp_all⟩)
  case makeFunc fn first captured =>
    simp only [hop] at h ⊢
    cases fn with
    | func f =>
      simp only at h ⊢
      split at h
      · rename_i h1 h2
        simp only [Option.some.injEq, Prod.mk.injEq] at h
        obtain ⟨rfl, rfl⟩ := h
        exact ⟨rfl, fun s2 => rfl⟩
      · cases h
    | method n => cases h
    | methodOf t n => cases h
    | via t p f q => cases h
    | yield l => cases h
  all_goals (rw [hop] at hp)
  all_goals (try exact (Bool.false_ne_true hp).elim)
  all_goals (simp only [hop, Bool.cond_eq_ite] at h ⊢)
  all_goals ((repeat' split at h) <;> first
    | (cases h; done)
    | (simp only [Option.some.injEq, Prod.mk.injEq] at h
       obtain ⟨rfl, rfl⟩ := h
       exact ⟨rfl, fun s2 => by simp_all⟩))
end
end Ab
end Go.Proofs.Ytddiclnkfhldlaa
