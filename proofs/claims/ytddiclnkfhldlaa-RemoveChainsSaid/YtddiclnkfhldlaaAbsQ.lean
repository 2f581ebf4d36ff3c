/-
  Each operation of the interpreter that leaves memory alone, second part.
  Conditions: none.
-/
import Derived.Test.YtddiclnkfhldlaaAbsP
namespace Go.Proofs.Ytddiclnkfhldlaa
namespace Ab
set_option linter.unusedVariables false
set_option linter.unusedSimpArgs false
section
variable {P : Program} {V : Nat → Value} {E : Env}
theorem pureV_ok {m : Sem Value} {v : AV} (h : pureV m = some v) (ρ : Rho) : ∃ c, m = .pure c ∧ VR V ρ v c := by
  unfold pureV at h
  split at h
  · injection h with h
    subst h
    exact ⟨_, rfl, rfl⟩
  · injection h with h
    subst h
    exact ⟨_, rfl, rfl⟩
  · cases h
theorem eqGuard_int (op : BinOp) (t : TypeId) (x y : Operand) (k k' : IntKind) (a b : Int) (w : World) : (eqGuard op t x y (.int k a) (.int k' b)).run P w = .ok () w := by
  cases op <;> simp [eqGuard]
theorem eqGuard_bool (op : BinOp) (t : TypeId) (x y : Operand) (a b : Bool) (w : World) : (eqGuard op t x y (.bool a) (.bool b)).run P w = .ok () w := by
  cases op <;> simp [eqGuard]
theorem eqGuard_slice (op : BinOp) (t : TypeId) (x y : Operand) (a b : Option Addr) (n m n' m' : Nat) (w : World) : (eqGuard op t x y (.slice a n m) (.slice b n' m')).run P w = .ok () w := by
  cases op <;> simp [eqGuard]
theorem notB_ok {op : BinOp} {b : Bool} {v : AV} (h : notB op (.one (.c (.bool b))) = some v) (ρ : Rho) : (op = .eql ∧ VR V ρ v (.bool b)) ∨ (op = .neq ∧ VR V ρ v (.bool !b)) := by
  cases op <;> simp [notB] at h <;> subst h
  · exact .inl ⟨rfl, rfl⟩
  · exact .inr ⟨rfl, rfl⟩
theorem run_equal (w : World) (t : TypeId) (x y : Value) (r : Bool) (h : (Op.equalIn (9999 + 1) t x y).run P w = .ok r w) : (Op.equal t x y).run P w = .ok r w := h
theorem run_eqB (w : World) (t : TypeId) (a b : Bool) (h : P.underlying t = some .bool) : (binOp .eql t (.bool a) (.bool b)).run P w = .ok (.bool (a == b)) w := by
  show ((do pure (Value.bool (← Op.equal t (.bool a) (.bool b))) : Sem Value)).run P w = _
  simp only [Sem.run_bind, run_equal w t _ _ _ (run_equalIn_bool' w 9999 t a b h), Result.andThen_ok, Sem.run_pure]
theorem run_neB (w : World) (t : TypeId) (a b : Bool) (h : P.underlying t = some .bool) : (binOp .neq t (.bool a) (.bool b)).run P w = .ok (.bool (!(a == b))) w := by
  show ((do pure (Value.bool (!(← Op.equal t (.bool a) (.bool b)))) : Sem Value)).run P w = _
  simp only [Sem.run_bind, run_equal w t _ _ _ (run_equalIn_bool' w 9999 t a b h), Result.andThen_ok, Sem.run_pure]
theorem run_inS (w : World) (d t e : Nat) (q : Option Addr) (n m n' m' : Nat) (h : P.underlying t = some (.slice e)) : (Op.equalIn (d + 1) t (.slice q n m) (.slice none n' m')).run P w = .ok q.isNone w := by
  cases q <;> simp [Op.equalIn, run_underlying h]
theorem run_eqS (w : World) (t e : Nat) (q : Option Addr) (n m n' m' : Nat) (h : P.underlying t = some (.slice e)) : (binOp .eql t (.slice q n m) (.slice none n' m')).run P w = .ok (.bool q.isNone) w := by
  show ((do pure (Value.bool (← Op.equal t (.slice q n m) (.slice none n' m'))) : Sem Value)).run P w = _
  simp only [Sem.run_bind, run_equal w t _ _ _ (run_inS w 9999 t e q n m n' m' h), Result.andThen_ok, Sem.run_pure]
theorem run_neS (w : World) (t e : Nat) (q : Option Addr) (n m n' m' : Nat) (h : P.underlying t = some (.slice e)) : (binOp .neq t (.slice q n m) (.slice none n' m')).run P w = .ok (.bool (!q.isNone)) w := by
  show ((do pure (Value.bool (!(← Op.equal t (.slice q n m) (.slice none n' m')))) : Sem Value)).run P w = _
  simp only [Sem.run_bind, run_equal w t _ _ _ (run_inS w 9999 t e q n m n' m' h), Result.andThen_ok, Sem.run_pure]
theorem bin_ok (hE : EnvOK P V E) {op : BinOp} {xt : Nat} {x y v : AV} (h : binA E op xt x y = some v) {ρ : Rho} {u u' : Value} (hx : VR V ρ x u) (hy : VR V ρ y u') (w : World) (X Y : Operand) :
    ∃ c, (do eqGuard op xt X Y u u'; binOp op xt u u' : Sem Value).run P w = .ok c w ∧ VR V ρ v c := by
  unfold binA at h
  split at h
  · rename_i k a k' b
    have e1 : u = .int k a := hx
    have e2 : u' = .int k' b := hy
    subst e1; subst e2
    obtain ⟨c, h1, h2⟩ := pureV_ok (V := V) h ρ
    exact ⟨c, by simp only [Sem.run_bind, eqGuard_int, Result.andThen_ok, h1]; rfl, h2⟩
  · rename_i a b
    have e1 : u = .bool a := hx
    have e2 : u' = .bool b := hy
    subst e1; subst e2
    cases hti : E.ty xt with
    | none => simp [hti] at h
    | some ti =>
      simp only [hti] at h
      obtain ⟨i, z, h1, h2, h3, h4, h5, h6, h7⟩ := zero_ok hE hti ρ
      split at h
      · rename_i hd
        rw [hd] at h7
        rcases notB_ok (V := V) h ρ with ⟨rfl, hv⟩ | ⟨rfl, hv⟩
        · exact ⟨_, by simp only [Sem.run_bind, eqGuard_bool, Result.andThen_ok, run_eqB w xt _ _ h7], hv⟩
        · exact ⟨_, by simp only [Sem.run_bind, eqGuard_bool, Result.andThen_ok, run_neB w xt _ _ h7], hv⟩
      · cases h
  · rename_i p n c n' c'
    obtain ⟨m', g1, g2, rfl⟩ := hy
    have hu : ∃ q m, u = .slice q n m ∧ q.isNone = p.isNone := by
      cases p with
      | none =>
        obtain ⟨m, g1, g2, rfl⟩ := hx
        exact ⟨none, m, rfl, rfl⟩
      | some p =>
        obtain ⟨b, m, g0, g1, g2, rfl⟩ := hx
        exact ⟨_, m, rfl, rfl⟩
    obtain ⟨q, m, rfl, hq⟩ := hu
    cases hti : E.ty xt with
    | none => simp [hti] at h
    | some ti =>
      simp only [hti] at h
      obtain ⟨i, z, h1, h2, h3, h4, h5, h6, h7⟩ := zero_ok hE hti ρ
      split at h
      · rename_i e hd
        rw [hd] at h7
        rw [← hq] at h
        rcases notB_ok (V := V) h ρ with ⟨rfl, hv⟩ | ⟨rfl, hv⟩
        · exact ⟨_, by simp only [Sem.run_bind, eqGuard_slice, Result.andThen_ok, run_eqS w xt e q n m n' m' h7], hv⟩
        · exact ⟨_, by simp only [Sem.run_bind, eqGuard_slice, Result.andThen_ok, run_neS w xt e q n m n' m' h7], hv⟩
      · cases h
  · rename_i n' c'
    obtain ⟨m', g1, g2, rfl⟩ := hy
    obtain ⟨q, m, rfl⟩ := hx
    cases hti : E.ty xt with
    | none => simp [hti] at h
    | some ti =>
      simp only [hti] at h
      obtain ⟨i, z, h1, h2, h3, h4, h5, h6, h7⟩ := zero_ok hE hti ρ
      split at h
      · rename_i e hd
        rw [hd] at h7
        rcases notB_ok (V := V) h ρ with ⟨rfl, hv⟩ | ⟨rfl, hv⟩
        · exact ⟨_, by simp only [Sem.run_bind, eqGuard_slice, Result.andThen_ok, run_eqS w xt e (some q) 0 m n' m' h7]; rfl, hv⟩
        · exact ⟨_, by simp only [Sem.run_bind, eqGuard_slice, Result.andThen_ok, run_neS w xt e (some q) 0 m n' m' h7]; rfl, hv⟩
      · cases h
  · rename_i a b
    obtain ⟨cs, rfl, h1⟩ := hx
    obtain ⟨ds, rfl, h2⟩ := hy
    cases hti : E.ty xt with
    | none => simp [hti] at h
    | some ti =>
      simp only [hti] at h
      cases hd : isAggD ti.desc
      · simp [hd] at h
      · simp only [hd, cond_true] at h
        obtain ⟨i, z, k1, k2, k3, k4, k5, k6, k7, k8, k9⟩ := hE.ty xt ti hti
        cases hq : eqT E 40 xt a b with
        | none => simp [hq] at h
        | some r =>
        simp only [hq] at h
        have hok : ti.eqok = true := by
          simp only [eqT, hti] at hq
          cases hb : ti.eqok
          · simp [hb] at hq
          · rfl
        have key := (eq_all hE ρ w 40).1 xt a b r hq 10000 (by omega) ti hti cs.toList ds.toList h1 h2
        simp only [ofCells, hd, if_true, Array.toArray_toList] at key
        have hgd := run_eqGuard_agg (P := P) w op xt X Y cs ds (k9 hok).2
        rcases notB_ok (V := V) h ρ with ⟨rfl, hv⟩ | ⟨rfl, hv⟩
        · exact ⟨_, by simp only [Sem.run_bind, hgd, Result.andThen_ok, run_eql_struct, key], hv⟩
        · exact ⟨_, by simp only [Sem.run_bind, hgd, Result.andThen_ok, run_neq_struct, key], hv⟩
  · rename_i a b _ _ _ _
    cases hq : E.tab op a b with
    | none => simp [hq] at h
    | some z =>
      simp only [hq, Option.some.injEq] at h
      subst h
      obtain ⟨k, n, k', n', c, rfl, rfl, h3, h4⟩ := hE.tab op a b z hq ρ u u' hx hy
      exact ⟨c, by simp only [Sem.run_bind, eqGuard_int, Result.andThen_ok, h4 xt]; rfl, h3⟩
  · cases h
theorem op_bin (hE : EnvOK P V E) {t : Sl} {s : St} {o : Oper} {op : BinOp} {xt yt : Nat} {x y : Operand} {v : AV} (ho : o.op = .binOp op xt x y yt) (h : binA E op xt (eval t x) (eval t y) = some v) : OpOK P V t s o v s := by
  refine op_pure fun ρ a w ht hr => ?_
  obtain ⟨c, h1, h2⟩ := bin_ok hE h (eval_ok ht x) (eval_ok ht y) w x y
  refine ⟨c, ?_, h2⟩
  simp only [Sem.run_bind] at h1
  simp only [execOp, ho, Sem.run_bind, h1, Result.andThen_ok, Sem.run_pure]
theorem op_un {t : Sl} {s : St} {o : Oper} {op : UnOp} {xt : Nat} {x : Operand} {v : AV} (ho : o.op = .unOp op xt x) (h : unA op (eval t x) = some v) : OpOK P V t s o v s := by
  refine op_pure fun ρ a w ht hr => ?_
  have hx := eval_ok ht x
  unfold unA at h
  split at h
  · rename_i k n he
    rw [he] at hx
    have hx : a.eval x = .int k n := hx
    obtain ⟨c, h1, h2⟩ := pureV_ok (V := V) h ρ
    exact ⟨c, by simp only [execOp, ho, hx, h1, Sem.run_bind, Sem.run_pure', Result.andThen_ok, Sem.run_pure], h2⟩
  · rename_i b he
    rw [he] at hx
    have hx : a.eval x = .bool b := hx
    obtain ⟨c, h1, h2⟩ := pureV_ok (V := V) h ρ
    exact ⟨c, by simp only [execOp, ho, hx, h1, Sem.run_bind, Sem.run_pure', Result.andThen_ok, Sem.run_pure], h2⟩
  · cases h
theorem op_cvt (hE : EnvOK P V E) {t : Sl} {s : St} {o : Oper} {sr ds : Nat} {x : Operand} {v : AV} (ho : o.op = .convert sr ds x) (h : cvA E sr ds (eval t x) = some v) : OpOK P V t s o v s := by
  refine op_pure fun ρ a w ht hr => ?_
  have hx := eval_ok ht x
  unfold cvA at h
  split at h
  · rename_i ti tj k n hti htj he
    rw [he] at hx
    have hx : a.eval x = .int k n := hx
    obtain ⟨i, z, h1, h2, h3, h4, h5, h6, h7⟩ := zero_ok hE hti ρ
    obtain ⟨i', z', h1', h2', h3', h4', h5', h6', h7'⟩ := zero_ok hE htj ρ
    split at h
    · rename_i k' hd
      rw [hd] at h7'
      obtain ⟨c, g1, g2⟩ := pureV_ok (V := V) h ρ
      refine ⟨c, ?_, g2⟩
      simp only [execOp, ho, hx, convert, Sem.run_bind, run_underlying h7, run_underlying h7', Result.andThen_ok]
      cases ti.desc <;> simp [g1]
    · cases h
  · rename_i ti tj j hti htj he
    rw [he] at hx
    have hx : a.eval x = V j := hx
    obtain ⟨i, z, h1, h2, h3, h4, h5, h6, h7⟩ := zero_ok hE hti ρ
    obtain ⟨i', z', h1', h2', h3', h4', h5', h6', h7'⟩ := zero_ok hE htj ρ
    split at h
    · rename_i k' hd
      rw [hd] at h7'
      cases hc : E.cvt k' (.sym j) with
      | none => simp [hc] at h
      | some y =>
        simp only [hc, Option.some.injEq] at h
        subst h
        obtain ⟨k, n, g1, g2⟩ := hE.cvt k' j y hc ρ
        refine ⟨_, ?_, g2⟩
        simp only [execOp, ho, hx, g1, convert, Sem.run_bind, run_underlying h7, run_underlying h7', Result.andThen_ok]
        cases ti.desc <;> simp [Conv.intToInt]
    · cases h
  · cases h
theorem op_nil {t : Sl} {s : St} {o : Oper} {x : Operand} {p : Nat × Nat} (ho : o.op = .nilCheck x) (h : eval t x = .one (.c (.ptr (some p)))) : OpOK P V t s o (.one (.c (.ptr (some p)))) s := by
  refine op_pure fun ρ a w ht hr => ?_
  have hx := eval_ok ht x
  rw [h] at hx
  refine ⟨a.eval x, ?_, hx⟩
  obtain ⟨i, off⟩ := p
  obtain ⟨b, h1, h2⟩ := hx
  simp [execOp, ho, h2]
theorem acs_ok {ρ : Rho} : ∀ {l : List AV} {m : List AC} {cs : List Value}, acs l = some m → F2 (VR V ρ) l cs → F2 (CR V ρ) m cs
  | [], m, [], h, _ => by
    simp only [acs, Option.some.injEq] at h
    subst h
    trivial
  | .one (.c x) :: l, m, c :: cs, h, hc => by
    simp only [acs] at h
    cases hl : acs l with
    | none => simp [hl] at h
    | some k =>
      simp only [hl, Option.some.injEq] at h
      subst h
      exact ⟨hc.1, acs_ok hl hc.2⟩
  | .any :: _, _, _, h, _ => by simp [acs] at h
  | .undef :: _, _, _, h, _ => by simp [acs] at h
  | .tup _ :: _, _, _, h, _ => by simp [acs] at h
  | .fn _ _ :: _, _, _, h, _ => by simp [acs] at h
  | .one (.agg _) :: _, _, _, h, _ => by simp [acs] at h
  | [], _, _ :: _, _, h => h.elim
  | _ :: _, _, [], _, h => h.elim
theorem op_func {t : Sl} {s : St} {o : Oper} {f : Nat} {first captured : Array Operand} {l : List AC} (ho : o.op = .makeFunc (.func f) first captured) (h1 : first.toList = []) (h2 : acs (evals t captured.toList) = some l) : OpOK P V t s o (.fn f l) s := by
  refine op_pure fun ρ a w ht hr => ?_
  have hc := acs_ok h2 (evals_ok ht captured.toList)
  have hf : first = #[] := by
    apply Array.ext'
    simpa using h1
  refine ⟨.func (.func f) #[] (captured.map a.eval), ?_, _, rfl, by simpa using hc⟩
  simp [execOp, ho, Instr.makeFunc, hf]
theorem op_fieldAddr (hE : EnvOK P V E) {t : Sl} {s : St} {o : Oper} {st f : Nat} {x : Operand} {v : AV} (ho : o.op = .fieldAddr st x f) (h : fieldAddrA E st (eval t x) f = some v) : OpOK P V t s o v s := by
  refine op_pure fun ρ a w ht hr => ?_
  have hx := eval_ok ht x
  unfold fieldAddrA at h
  split at h
  · rename_i ti i off hti he
    rw [he] at hx
    obtain ⟨b, hb, hx⟩ := hx
    obtain ⟨ii, z, h1, h2, h3, h4, h5, h6, h7⟩ := zero_ok hE hti ρ
    split at h
    · rename_i fs hd
      rw [hd] at h7
      cases hf : fs[f]? with
      | none => simp [hf] at h
      | some fd =>
        simp only [hf] at h
        cases htf : E.ty fd.type with
        | none => simp [htf] at h
        | some tf =>
          simp only [htf] at h
          obtain ⟨jj, z', j1, j2, _⟩ := zero_ok hE htf ρ
          cases hz : Nat.beq tf.size 0
          · simp only [hz, cond_false, Option.some.injEq] at h
            subst h
            have hz0 : ¬ tf.size = 0 := by
              intro e
              rw [e] at hz
              cases hz
            have hadd : (⟨b, off, none⟩ : Addr).add fd.offset = ⟨b, off + fd.offset, none⟩ := by unfold Addr.add; split <;> simp_all
            refine ⟨.pointer (some ⟨b, off + fd.offset, none⟩), ?_, b, hb, rfl⟩
            simp [execOp, ho, hx, Instr.fieldAt, run_underlying h7, hf, Instr.sureAddr, fieldPlace, sizeOf, typeInfo, j1, j2, hz0, hadd]
          · simp [hz] at h
    · cases h
  · cases h
theorem op_field (hE : EnvOK P V E) {t : Sl} {s : St} {o : Oper} {st f : Nat} {x : Operand} {v : AV} (ho : o.op = .field st x f) (h : fieldA E st (eval t x) f = some v) : OpOK P V t s o v s := by
  refine op_pure fun ρ a w ht hr => ?_
  have hx := eval_ok ht x
  unfold fieldA at h
  split at h
  · rename_i ti l hti he
    rw [he] at hx
    obtain ⟨cs, hx, hc⟩ := hx
    obtain ⟨ii, z, h1, h2, h3, h4, h5, h6, h7⟩ := zero_ok hE hti ρ
    split at h
    · rename_i fs hd
      rw [hd] at h7
      cases hf : fs[f]? with
      | none => simp [hf] at h
      | some fd =>
        simp only [hf] at h
        cases htf : E.ty fd.type with
        | none => simp [htf] at h
        | some tf =>
          simp only [htf] at h
          obtain ⟨c, g1, g2⟩ := part1_ok hE htf hc h w
          refine ⟨c, ?_, g1⟩
          simp [execOp, ho, hx, Instr.field, run_underlying h7, hf, asAgg, g2]
    · cases h
  · cases h
theorem litInt_ok {ρ : Rho} {x : AV} {u : Value} {n : Int} (h : litInt x = some n) (hx : VR V ρ x u) : ∃ k, u = .int k n := by
  unfold litInt at h
  split at h
  · injection h with h
    subst h
    exact ⟨_, hx⟩
  · cases h
theorem op_indexAddr (hE : EnvOK P V E) {t : Sl} {s : St} {o : Oper} {ty : Nat} {x ix : Operand} {v : AV} (ho : o.op = .indexAddr ty x ix) (h : indexAddrA E ty (eval t x) (eval t ix) = some v) : OpOK P V t s o v s := by
  refine op_pure fun ρ a w ht hr => ?_
  have hx := eval_ok ht x
  unfold indexAddrA at h
  split at h
  · rename_i ti n hti hn
    obtain ⟨k, hix⟩ := litInt_ok hn (eval_ok ht ix)
    obtain ⟨ii, z, h1, h2, h3, h4, h5, h6, h7⟩ := zero_ok hE hti ρ
    have hadd : ∀ b off m, (⟨b, off, none⟩ : Addr).add m = ⟨b, off + m, none⟩ := by
      intro b off m
      unfold Addr.add
      split <;> simp_all
    split at h
    · rename_i e i off len cap hd he
      rw [he] at hx
      rw [hd] at h7
      obtain ⟨b, m, hb, _, _, hx⟩ := hx
      cases hte : E.ty e with
      | none => simp [hte] at h
      | some te =>
        simp only [hte] at h
        obtain ⟨jj, z', j1, j2, _⟩ := zero_ok hE hte ρ
        split at h
        · rename_i hin
          injection h with h
          subst h
          refine ⟨.pointer (some ⟨b, off + n.toNat * te.size, none⟩), ?_, b, hb, rfl⟩
          simp [execOp, ho, hx, hix, Instr.indexAt, asIntOf, run_underlying h7, sizeOf, typeInfo, j1, j2, hin, hadd]
        · cases h
    · rename_i len e i off hd he
      rw [he] at hx
      rw [hd] at h7
      obtain ⟨b, hb, hx⟩ := hx
      cases hte : E.ty e with
      | none => simp [hte] at h
      | some te =>
        simp only [hte] at h
        obtain ⟨jj, z', j1, j2, _⟩ := zero_ok hE hte ρ
        split at h
        · rename_i hin
          injection h with h
          subst h
          refine ⟨.pointer (some ⟨b, off + n.toNat * te.size, none⟩), ?_, b, hb, rfl⟩
          simp [execOp, ho, hx, hix, Instr.indexAt, asIntOf, run_underlying h7, sizeOf, typeInfo, j1, j2, hin, hadd, Instr.sureAddr]
        · cases h
    · cases h
  · cases h
theorem op_index (hE : EnvOK P V E) {t : Sl} {s : St} {o : Oper} {ty : Nat} {x ix : Operand} {v : AV} (ho : o.op = .index ty x ix) (h : indexA E ty (eval t x) (eval t ix) = some v) : OpOK P V t s o v s := by
  refine op_pure fun ρ a w ht hr => ?_
  have hx := eval_ok ht x
  unfold indexA at h
  split at h
  · rename_i ti n hti hn
    obtain ⟨k, hix⟩ := litInt_ok hn (eval_ok ht ix)
    obtain ⟨ii, z, h1, h2, h3, h4, h5, h6, h7⟩ := zero_ok hE hti ρ
    split at h
    · rename_i len e l hd he
      rw [he] at hx
      rw [hd] at h7
      obtain ⟨cs, hx, hc⟩ := hx
      cases hte : E.ty e with
      | none => simp [hte] at h
      | some te =>
        simp only [hte] at h
        obtain ⟨jj, z', j1, j2, _⟩ := zero_ok hE hte ρ
        split at h
        · rename_i hin
          obtain ⟨c, g1, g2⟩ := part1_ok hE hte hc h w
          refine ⟨c, ?_, g1⟩
          simp [execOp, ho, hx, hix, Instr.index, asIntOf, run_underlying h7, sizeOf, typeInfo, j1, j2, hin, g2]
        · cases h
    · cases h
  · cases h
theorem op_extract {t : Sl} {s : St} {o : Oper} {x : Operand} {i : Nat} {l : List A1} {v : A1} (ho : o.op = .extract x i) (h : eval t x = .tup l) (hv : l[i]? = some v) : OpOK P V t s o (.one v) s := by
  refine op_pure fun ρ a w ht hr => ?_
  have hx := eval_ok ht x
  rw [h] at hx
  obtain ⟨vs, hx, hc⟩ := hx
  obtain ⟨c, g1, g2⟩ := hc.get i v hv
  refine ⟨c, ?_, g2⟩
  rw [Array.getElem?_toList] at g1
  simp [execOp, ho, hx, Instr.extract, g1]
theorem op_len (hE : EnvOK P V E) {t : Sl} {s : St} {o : Oper} {c : Call} {x : AV} {v : AV} (ho : o.op = .call c) (hc : c.callee = .builtin .len) (hx : evals t c.args.toList = [x]) (h : lenA E c.argTypes x = some v) : OpOK P V t s o v s := by
  refine op_pure fun ρ a w ht hr => ?_
  have he := evals_ok ht c.args.toList
  rw [hx] at he
  obtain ⟨u, hu, hx1⟩ : ∃ u, c.args.map a.eval = #[u] ∧ VR V ρ x u := by
    match hl : c.args.toList.map a.eval, he with
    | [u], he =>
      refine ⟨u, ?_, he.1⟩
      apply Array.ext'
      simpa using hl
  unfold lenA at h
  cases h0 : c.argTypes[0]? with
  | none => simp [h0] at h
  | some ty =>
    simp only [h0] at h
    split at h
    · rename_i ti p n cap hti
      obtain ⟨ii, z, h1, h2, h3, h4, h5, h6, h7⟩ := zero_ok hE hti ρ
      have hu' : ∃ q m, u = .slice q n m := by
        cases p with
        | none =>
          obtain ⟨m, g1, g2, rfl⟩ := hx1
          exact ⟨none, m, rfl⟩
        | some p =>
          obtain ⟨b, m, g0, g1, g2, rfl⟩ := hx1
          exact ⟨_, m, rfl⟩
      obtain ⟨q, m, rfl⟩ := hu'
      split at h
      · rename_i e hd
        rw [hd] at h7
        injection h with h
        subst h
        refine ⟨.int .i64 n, ?_, rfl⟩
        simp [execOp, ho, resolve, hc, hu, invoke, builtin, Builtin.len_, h0, run_underlying h7, goInt]
      · cases h
    · rename_i ti hti
      obtain ⟨ii, z, h1, h2, h3, h4, h5, h6, h7⟩ := zero_ok hE hti ρ
      obtain ⟨q, m, rfl⟩ := hx1
      split at h
      · rename_i e hd
        rw [hd] at h7
        injection h with h
        subst h
        refine ⟨.int .i64 0, ?_, rfl⟩
        simp [execOp, ho, resolve, hc, hu, invoke, builtin, Builtin.len_, h0, run_underlying h7, goInt]
      · cases h
    · cases h
theorem pureArgs_ok {ρ : Rho} {t : Sl} {a : Act} (ht : TR V ρ t a) : ∀ {l : List Operand} {m : List Value}, pureArgs t l = some m → l.map a.eval = m
  | [], m, h => by
    simp only [pureArgs, Option.some.injEq] at h
    subst h
    rfl
  | x :: l, m, h => by
    simp only [pureArgs] at h
    split at h
    · rename_i k n r he hl
      injection h with h
      subst h
      have hx := eval_ok ht x
      rw [he] at hx
      have hx : a.eval x = .int k n := hx
      simp [hx, pureArgs_ok ht hl]
    · cases h
theorem max_ty (a b : Array Nat) (x y : Nat) (l : Array Value) : Builtin.max_ a x l = Builtin.max_ b y l := rfl
theorem min_ty (a b : Array Nat) (x y : Nat) (l : Array Value) : Builtin.min_ a x l = Builtin.min_ b y l := rfl
theorem op_max {t : Sl} {s : St} {o : Oper} {c : Call} {l : List Value} {v : AV} (ho : o.op = .call c) (hc : c.callee = .builtin .max) (hx : pureArgs t c.args.toList = some l) (h : pureV (Builtin.max_ c.argTypes 0 l.toArray) = some v) : OpOK P V t s o v s := by
  refine op_pure fun ρ a w ht hr => ?_
  have he := pureArgs_ok ht hx
  have hu : c.args.map a.eval = l.toArray := by
    apply Array.ext'
    simpa using he
  obtain ⟨u, g1, g2⟩ := pureV_ok (V := V) h ρ
  refine ⟨u, ?_, g2⟩
  have g1' : Builtin.max_ c.argTypes o.type l.toArray = .pure u := (max_ty _ _ _ _ _).trans g1
  simp [execOp, ho, resolve, hc, hu, invoke, builtin, g1']
theorem op_min {t : Sl} {s : St} {o : Oper} {c : Call} {l : List Value} {v : AV} (ho : o.op = .call c) (hc : c.callee = .builtin .min) (hx : pureArgs t c.args.toList = some l) (h : pureV (Builtin.min_ c.argTypes 0 l.toArray) = some v) : OpOK P V t s o v s := by
  refine op_pure fun ρ a w ht hr => ?_
  have he := pureArgs_ok ht hx
  have hu : c.args.map a.eval = l.toArray := by
    apply Array.ext'
    simpa using he
  obtain ⟨u, g1, g2⟩ := pureV_ok (V := V) h ρ
  refine ⟨u, ?_, g2⟩
  have g1' : Builtin.min_ c.argTypes o.type l.toArray = .pure u := (min_ty _ _ _ _ _).trans g1
  simp [execOp, ho, resolve, hc, hu, invoke, builtin, g1']
end
end Ab
end Go.Proofs.Ytddiclnkfhldlaa
