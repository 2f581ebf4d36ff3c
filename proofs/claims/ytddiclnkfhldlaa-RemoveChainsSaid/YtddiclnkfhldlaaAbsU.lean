/-
  Appends, clear, calls.
  Conditions: none.
-/
import Derived.Test.YtddiclnkfhldlaaAbsT
namespace Go.Proofs.Ytddiclnkfhldlaa
namespace Ab
set_option linter.unusedVariables false
set_option linter.unusedSimpArgs false
section
variable {P : Program} {V : Nat → Value} {E : Env}
theorem run_append_row (w : World) (t tx ty e e2 : TypeId) (i : TypeInfo) (ht : P.underlying t = some (.slice e)) (hi : P.info? e = some i) (g off sLen sCap : Nat) (cur : Array Value) (x : Value) (n : Nat) (news : List Value) (hs : Src P i.size tx x n news w)
    (hg : w.heap[g]? = some (.cells cur e2 (0, 0))) (hroom : sLen + n ≤ sCap) (hfit : off + sLen * i.size + news.length ≤ cur.size) :
    (Builtin.append_ #[t, tx] ty #[.slice (some ⟨g, off, none⟩) sLen sCap, x]).run P w = .ok (.slice (some ⟨g, off, none⟩) (sLen + n) sCap) (w.setRow g (cur.toList.take (off + sLen * i.size) ++ news ++ cur.toList.drop (off + sLen * i.size + news.length)).toArray) := by
  have hst := run_storeCells_at P g (off + sLen * i.size) e2 news 0 cur w hg (by simpa using hfit) hs.one
  simp only [Nat.add_zero] at hst
  rcases hs.kind with ⟨e', hk⟩ | hk <;> simp [Builtin.append_, run_underlying ht, run_underlying hk, sizeOf, typeInfo, hi, hs.len, hroom, hs.cells, Addr.add_lit, hst]
theorem run_append_nil0 (w : World) (t tx ty e : TypeId) (i : TypeInfo) (ht : P.underlying t = some (.slice e)) (hi : P.info? e = some i) (sLen sCap : Nat) (x : Value) (news : List Value) (hs : Src P i.size tx x 0 news w) (hroom : sLen ≤ sCap) :
    (Builtin.append_ #[t, tx] ty #[.slice none sLen sCap, x]).run P w = .ok (.slice none (sLen + 0) sCap) w := by
  rcases hs.kind with ⟨e', hk⟩ | hk <;> simp [Builtin.append_, run_underlying ht, run_underlying hk, sizeOf, typeInfo, hi, hs.len, hroom, hs.cells]
/-- What is appended. -/
theorem src_ok (hone : ∀ i, (V i).oneCell' = true) {ρ : Rho} {s : St} {w : World} {size n tx e' : Nat} {y : AV} {news : List AC} {u : Value} (hr : Rep V ρ s w) (hk : P.underlying tx = some (.slice e')) (h : srcA s size y = some (n, news)) (hy : VR V ρ y u) :
    ∃ ds : List Value, F2 (CR V ρ) news ds ∧ Src P size tx u n ds w := by
  unfold srcA at h
  split at h
  · rename_i cap
    injection h with h
    injection h with e1 e2
    subst e1; subst e2
    obtain ⟨m, _, _, rfl⟩ := hy
    exact ⟨[], trivial, Src.ofNil w hk m⟩
  · injection h with h
    injection h with e1 e2
    subst e1; subst e2
    obtain ⟨b, m, rfl⟩ := hy
    exact ⟨[], trivial, Src.ofSlice w hk b 0 m [] (by simp) (fun j u h => by simp at h) (fun u h => by cases h)⟩
  · rename_i i off k cap
    obtain ⟨b, m, hb, _, _, rfl⟩ := hy
    cases hB : look s.heap i with
    | none => simp [hB] at h
    | some B =>
      simp only [hB] at h
      cases hl : sub B.cells off (k * size) with
      | none => simp [hl] at h
      | some l =>
        simp only [hl, Option.some.injEq, Prod.mk.injEq] at h
        obtain ⟨e1, e2⟩ := h
        subst e1; subst e2
        obtain ⟨ds, g1, g2, g3⟩ := load_sub V hr hB hb hl
        exact ⟨ds, g2, Src.ofSlice w hk _ _ _ ds g1 g3 (fun u hu => by
          obtain ⟨q, _, hq⟩ := g2.mem u hu
          exact hq.one V hone)⟩
  · cases h
/-- The cells that a slice has when it must move. -/
theorem old_ok (hone : ∀ i, (V i).oneCell' = true) {ρ : Rho} {s : St} {w : World} {size n len : Nat} {p : Option (Nat × Nat)} {cap : Cap} {olds : List AC} {q : Option Addr} {c : Nat} (hr : Rep V ρ s w) (h : srcA s size (.one (.c (.slice p len cap))) = some (n, olds)) (hy : CR V ρ (.slice p len cap) (.slice q len c)) :
    ∃ ds : List Value, F2 (CR V ρ) olds ds ∧ ds.length = len * size ∧ (Builtin.firstCells size len (.slice q len c)).run P w.drew = .ok ds.toArray w.drew := by
  unfold srcA at h
  split at h
  · rename_i cap' he
    injection he with he
    injection he with he
    injection he with e1 e2 e3
    subst e1; subst e2; subst e3
    injection h with h
    injection h with e1 e2
    subst e1; subst e2
    obtain ⟨m, _, _, hh⟩ := hy
    injection hh with hh _ _
    subst hh
    exact ⟨[], trivial, by simp, run_firstCells_none w.drew size 0 0 c⟩
  · rename_i he
    injection he with he
    injection he with he
    cases he
  · rename_i i off k cap' he
    injection he with he
    injection he with he
    injection he with e1 e2 e3
    subst e1; subst e2; subst e3
    obtain ⟨b, m, hb, _, _, hh⟩ := hy
    injection hh with hh _ _
    subst hh
    cases hB : look s.heap i with
    | none => simp [hB] at h
    | some B =>
      simp only [hB] at h
      cases hl : sub B.cells off (len * size) with
      | none => simp [hl] at h
      | some l =>
        simp only [hl, Option.some.injEq, Prod.mk.injEq] at h
        obtain ⟨e1, e2⟩ := h
        subst e1; subst e2
        obtain ⟨ds, g1, g2, g3⟩ := load_sub V hr hB hb hl
        exact ⟨ds, g2, g1, run_firstCells_some w.drew size len _ len c ds g1 (by simpa using g3)⟩
  · cases h
/-- The world of a row that moved. -/
theorem grow_ok {ρ : Rho} {s : St} {w : World} (e size : Nat) (news olds : List AC) (ns os zs : List Value) (h0 : size ≠ 0) (hr : Rep V ρ s w) (hf : ρ.blk s.next = none) (hg : ρ.cap s.ncap = none) (h1 : F2 (CR V ρ) olds os) (h2 : F2 (CR V ρ) news ns) (m : Nat) (hz : os.length + ns.length + zs.length = m * size) :
    Goes V ρ s w { (s.new e (olds ++ news) (some (s.ncap, size))) with ncap := s.ncap + 1 } (w.drew.alloc (.cells (((os ++ ns).toArray ++ zs.toArray)) e)) ((ρ.setC s.ncap m).setB s.next w.heap.size) :=
  go_newC V e (olds ++ news) _ m size zs h0 hr hf hg (os ++ ns) (by simp) (h1.append h2) (by simp; omega)
theorem op_append (hE : EnvOK P V E) {t : Sl} {s s' : St} {o : Oper} {c : Call} {x y v : AV} (ho : o.op = .call c) (hc : c.callee = .builtin .append) (hx : evals t c.args.toList = [x, y]) (hargs : c.argTypes.size = 2) (h : appendA E s c.argTypes x y = some (v, s')) : OpOK P V t s o v s' := by
  intro ρ a w ht hr hf K Q hK
  have he := evals_ok ht c.args.toList
  rw [hx] at he
  obtain ⟨u, u', hu, hx1, hy1⟩ : ∃ u u', c.args.map a.eval = #[u, u'] ∧ VR V ρ x u ∧ VR V ρ y u' := by
    match hl : c.args.toList.map a.eval, he with
    | [u, u'], he =>
      refine ⟨u, u', ?_, he.1, he.2.1⟩
      apply Array.ext'
      simpa using hl
  unfold appendA at h
  split at h
  · rename_i t0 t1 ht0 ht1
    have hat : c.argTypes = #[t0, t1] := by
      apply Array.ext
      · simp [hargs]
      · intro k h1 h2
        match k, h1, h2 with
        | 0, h1, _ =>
          rw [Array.getElem?_eq_getElem h1] at ht0
          simpa using ht0
        | 1, h1, _ =>
          rw [Array.getElem?_eq_getElem h1] at ht1
          simpa using ht1
    have run1 : ∀ r w', (Builtin.append_ #[t0, t1] o.type #[u, u']).run P w = .ok r w' → (execOp a.eval o).run P w = .ok (.value r) w' := by
      intro r w' hr
      simp [execOp, ho, resolve, hc, hu, invoke, builtin, hat, hr]
    split at h
    · rename_i ti tj p len cap hti htj
      obtain ⟨i, z, h1, h2, h3, h4, h5, h6, h7⟩ := zero_ok hE hti ρ
      obtain ⟨i', z', h1', h2', h3', h4', h5', h6', h7'⟩ := zero_ok hE htj ρ
      obtain ⟨q, m, rfl, hcap, hn, hq⟩ := slice_form (V := V) (ρ := ρ) hx1
      split at h
      · rename_i e e' hd hd'
        rw [hd] at h7
        rw [hd'] at h7'
        cases hte : E.ty e with
        | none => simp [hte] at h
        | some te =>
          simp only [hte] at h
          obtain ⟨j, zz, j1, j2, j3, j4, j5, j6, j7⟩ := zero_ok hE hte ρ
          cases hsr : srcA s te.size y with
          | none => simp [hsr] at h
          | some nn =>
            obtain ⟨n, news⟩ := nn
            simp only [hsr] at h
            obtain ⟨ns, n1, n2⟩ := src_ok hE.one hr h7' hsr hy1
            rw [← j2] at n2
            have hnl : ns.length = n * te.size := by rw [n2.newsLen, j2]
            cases hz0 : Nat.beq te.size 0
            · have hzne : te.size ≠ 0 := by
                intro e0
                rw [e0] at hz0
                cases hz0
              simp only [hz0, cond_false] at h
              have hpos : 0 < te.size := by
                cases hs : te.size with
                | zero => rw [hs] at hz0; cases hz0
                | succ k => omega
              -- growing
              have grow : ∀ olds : List AC, srcA s te.size (.one (.c (.slice p len cap))) = some (len, olds) → m < len + n → len + n ≤ 1000 → te.bytes ≤ 1000000 → ρ.blk s.next = none → ρ.cap s.ncap = none → ∃ w' M,
                  (Builtin.append_ #[t0, t1] o.type #[.slice q len m, u']).run P w = .ok (.slice (some ⟨w.heap.size, 0, none⟩) (len + n) M) w' ∧ len + n ≤ M ∧
                  Goes V ρ s w { (s.new e (olds ++ news) (some (s.ncap, te.size))) with ncap := s.ncap + 1 } w' ((ρ.setC s.ncap M).setB s.next w.heap.size) := by
                intro olds hol hlt hk1 hk2 hfb hfc
                obtain ⟨os, o1, o2, o3⟩ := old_ok (P := P) hE.one hr hol hx1
                rw [← j2] at o3
                have hbyt : (len + n) * j.bytes ≤ 140737488355328 := by
                  rw [j3]
                  have := Nat.mul_le_mul hk1 hk2
                  omega
                have hrun := run_append_grow_src (P := P) w t0 t1 o.type e j zz h7 j1 j4 q len m os o3 u' n ns n2 hlt (by omega) (growslice_fits hlt hbyt)
                have hge := grownCap_ge w (len + n) m e
                refine ⟨_, _, hrun, hge, ?_⟩
                have hzc : (Builtin.zeroCells zz.cells (grownCap w (len + n) m e - (len + n))) = (Builtin.zeroCells zz.cells (grownCap w (len + n) m e - (len + n))).toList.toArray := by simp
                rw [hzc]
                refine grow_ok e te.size news olds ns os _ hzne hr hfb hfc o1 n1 _ ?_
                rw [o2, hnl, Array.length_toList, size_zeroCells, j6, ← Nat.add_mul, ← Nat.add_mul]
                congr 1
                omega
              have olen : ∀ k olds, srcA s te.size (.one (.c (.slice p len cap))) = some (k, olds) → k = len := by
                intro k olds hk
                unfold srcA at hk
                split at hk
                · rename_i he
                  injection he with he
                  injection he with he
                  injection he with e1 e2 e3
                  subst e2
                  injection hk with hk
                  injection hk with hk _
                  exact hk.symm
                · rename_i he
                  injection he with he
                  injection he with he
                  cases he
                · rename_i he
                  injection he with he
                  injection he with he
                  injection he with e1 e2 e3
                  subst e2
                  split at hk
                  · split at hk
                    · injection hk with hk
                      injection hk with hk _
                      exact hk.symm
                    · cases hk
                  · cases hk
                · cases hk
              split at h
              · rename_i c0
                have hm0 : m = c0 := hcap
                subst hm0
                split at h
                · rename_i hroom
                  split at h
                  · cases hnb : Nat.beq n 0
                    · simp [hnb] at h
                    · simp only [hnb, cond_true, Option.some.injEq, Prod.mk.injEq] at h
                      obtain ⟨e1, e2⟩ := h
                      subst e1; subst e2
                      have hn0 := Nat.eq_of_beq_eq_true hnb
                      subst hn0
                      rcases hq with ⟨_, rfl⟩ | ⟨i2, off2, b, hq, _⟩
                      · have hrun := run_append_nil0 (P := P) w t0 t1 o.type e j h7 j1 len m u' ns n2 (by omega)
                        exact wp_val (run1 _ _ hrun) (hK ρ _ w (Goes.refl V hr) (vr_c ⟨m, rfl, by omega, rfl⟩))
                      · cases hq
                  · rename_i i2 off
                    cases hB : look s.heap i2 with
                    | none => simp [hB] at h
                    | some B =>
                      simp only [hB] at h
                      cases hov : over B.cells (off + len * te.size) news with
                      | none => simp [hov] at h
                      | some mm =>
                        simp only [hov, Option.some.injEq, Prod.mk.injEq] at h
                        obtain ⟨e1, e2⟩ := h
                        subst e1; subst e2
                        rcases hq with ⟨hq, _⟩ | ⟨i3, off3, b, hq, hb, rfl⟩
                        · cases hq
                        · injection hq with hq
                          injection hq with q1 q2
                          subst q1; subst q2
                          obtain ⟨b', cs, g1, g2, pre, post, g3, g4, g5⟩ := hr.h _ B hB
                          rw [hb] at g1
                          injection g1 with g1
                          subst g1
                          obtain ⟨k1, k2⟩ := F2.over _ g4 n1 hov
                          have hfit : off + len * j.size + ns.length ≤ cs.size := by
                            rw [← Array.length_toList, g3, List.length_append, j2]
                            omega
                          have hrun := run_append_row (P := P) w t0 t1 o.type e B.ty j h7 j1 b off len m cs u' n ns n2 g2 hroom hfit
                          have hcs : cs.toList.take (off + len * j.size) ++ ns ++ cs.toList.drop (off + len * j.size + ns.length) = (pre.take (off + len * te.size) ++ ns ++ pre.drop (off + len * te.size + ns.length)) ++ post := by
                            rw [g3, j2, List.take_append_of_le_length (by omega), List.drop_append_of_le_length (by omega)]
                            simp
                          rw [hcs] at hrun
                          have hgo := go_store (cs' := ((pre.take (off + len * te.size) ++ ns ++ pre.drop (off + len * te.size + ns.length)) ++ post).toArray) V mm hr hB hb g2 (br_put V g3 g4 g5 n1 hov)
                          exact wp_val (run1 _ _ hrun) (hK ρ _ _ hgo (vr_c ⟨b, m, hb, rfl, hroom, rfl⟩))
                · rename_i hroom
                  split at h
                  · rename_i hk
                    split at h
                    · rename_i kk olds hol
                      have hkl := olen _ _ hol
                      subst hkl
                      injection h with h
                      injection h with e1 e2
                      subst e1; subst e2
                      obtain ⟨w', M, r1, r2, r3⟩ := grow olds hol (by omega) hk.1 hk.2 (hf.b _ (Nat.le_refl _) (by simp [St.new])) (hf.c _ (Nat.le_refl _) (by simp [St.new]))
                      exact wp_val (run1 _ _ r1) (hK _ _ _ r3 (vr_c ⟨w.heap.size, M, by simp [Rho.setB], by simp [CapR, Rho.setB, Rho.setC], r2, rfl⟩))
                    · cases h
                  · cases h
              · rename_i jc
                have hcap : ρ.cap jc = some m := hcap
                split at h
                · rename_i i2
                  rcases hq with ⟨hq, _⟩ | ⟨i3, off3, b, hq, hb, rfl⟩
                  · cases hq
                  · injection hq with hq
                    injection hq with q1 q2
                    subst q1; subst q2
                    cases hB : look s.heap i2 with
                    | none => simp [hB] at h
                    | some B =>
                      simp only [hB] at h
                      obtain ⟨b', cs, g1, g2, pre, post, g3, g4, g5⟩ := hr.h _ B hB
                      rw [hb] at g1
                      injection g1 with g1
                      subst g1
                      have hcm := capMin_ok (cap := .sym jc) (size := te.size) (p := some (i2, 0)) hr hcap hn (by
                        rintro q' e1
                        injection e1 with e1
                        subst e1
                        exact ⟨b, hb⟩)
                      split at h
                      · rename_i hle
                        cases hov : over B.cells (len * te.size) news with
                        | none => simp [hov] at h
                        | some mm =>
                          simp only [hov, Option.some.injEq, Prod.mk.injEq] at h
                          obtain ⟨e1, e2⟩ := h
                          subst e1; subst e2
                          obtain ⟨k1, k2⟩ := F2.over _ g4 n1 hov
                          have hfit : 0 + len * j.size + ns.length ≤ cs.size := by
                            rw [← Array.length_toList, g3, List.length_append, j2]
                            omega
                          have hrun := run_append_row (P := P) w t0 t1 o.type e B.ty j h7 j1 b 0 len m cs u' n ns n2 g2 (by omega) hfit
                          have hcs : cs.toList.take (0 + len * j.size) ++ ns ++ cs.toList.drop (0 + len * j.size + ns.length) = (pre.take (len * te.size) ++ ns ++ pre.drop (len * te.size + ns.length)) ++ post := by
                            rw [g3, j2, Nat.zero_add, List.take_append_of_le_length (by omega), List.drop_append_of_le_length (by omega)]
                            simp
                          rw [hcs] at hrun
                          have hgo := go_store (cs' := ((pre.take (len * te.size) ++ ns ++ pre.drop (len * te.size + ns.length)) ++ post).toArray) V mm hr hB hb g2 (br_put V g3 g4 g5 n1 hov)
                          exact wp_val (run1 _ _ hrun) (hK ρ _ _ hgo (vr_c ⟨b, m, hb, hcap, by omega, rfl⟩))
                      · rename_i hle
                        split at h
                        · rename_i j' sz olds hmo hol
                          split at h
                          · rename_i hk
                            obtain ⟨p1, p2, p3, p4, p5⟩ := hk
                            subst p1; subst p2; subst p3
                            injection h with h
                            injection h with e1 e2
                            subst e1; subst e2
                            unfold MR at g5
                            rw [hmo] at g5
                            simp only [if_neg hzne] at g5
                            obtain ⟨m', r1, r2⟩ := g5
                            rw [hcap] at r1
                            injection r1 with r1
                            subst r1
                            have hfb : ρ.blk s.next = none := hf.b _ (Nat.le_refl _) (Nat.lt_succ_self _)
                            have hfc : ρ.cap s.ncap = none := hf.c _ (Nat.le_refl _) (Nat.lt_succ_self _)
                            by_cases hroom : len + n ≤ m
                            · have hfit : 0 + len * j.size + ns.length ≤ cs.size := by
                                rw [r2, j2, hnl, Nat.zero_add, ← Nat.add_mul]
                                exact Nat.mul_le_mul_right _ hroom
                              have hrun := run_append_row (P := P) w t0 t1 o.type B.ty B.ty j h7 j1 b 0 len m cs u' n ns n2 g2 hroom hfit
                              obtain ⟨o1, o2, o3⟩ := g4.sub hol
                              rw [List.drop_zero] at o1
                              have ho3 : len * te.size ≤ pre.length := by omega
                              have hcs : cs.toList.take (0 + len * j.size) ++ ns ++ cs.toList.drop (0 + len * j.size + ns.length) = (pre.take (len * te.size) ++ ns) ++ cs.toList.drop (len * te.size + ns.length) := by
                                rw [j2, Nat.zero_add]
                                congr 2
                                rw [g3, List.take_append_of_le_length (by omega)]
                              rw [hcs] at hrun
                              have hgo := go_eat V (olds ++ news) (m := m) (sz := te.size) (cs' := ((pre.take (len * te.size) ++ ns) ++ cs.toList.drop (len * te.size + ns.length)).toArray) hzne hr hfb hfc hB hb g2 (pre.take (len * te.size) ++ ns) _ rfl (o1.append n1) (by
                                rw [← r2]
                                simp only [List.size_toArray, List.length_append, List.length_take, List.length_drop, Array.length_toList]
                                have : len * te.size + ns.length ≤ cs.size := by
                                  rw [j2] at hfit
                                  omega
                                omega)
                              exact wp_val (run1 _ _ hrun) (hK _ _ _ hgo (vr_c ⟨b, m, by simp [Rho.setB], by simp [CapR, Rho.setB, Rho.setC], hroom, rfl⟩))
                            · have hfg := go_forget V hr hB
                              have hol' : srcA s te.size (.one (.c (.slice (some (i2, 0)) len (.sym j')))) = some (len, olds) := by
                                simp only [srcA, hB, hol]
                              obtain ⟨os, o1, o2, o3⟩ := old_ok (P := P) hE.one hr hol' hx1
                              rw [← j2] at o3
                              have hbyt : (len + n) * j.bytes ≤ 140737488355328 := by
                                rw [j3]
                                have := Nat.mul_le_mul p4 p5
                                omega
                              have hlt : m < len + n := by omega
                              have hrun := run_append_grow_src (P := P) w t0 t1 o.type B.ty j zz h7 j1 j4 _ len m os o3 u' n ns n2 hlt (by omega) (growslice_fits hlt hbyt)
                              have hge := grownCap_ge w (len + n) m B.ty
                              have hzc : (Builtin.zeroCells zz.cells (grownCap w (len + n) m B.ty - (len + n))) = (Builtin.zeroCells zz.cells (grownCap w (len + n) m B.ty - (len + n))).toList.toArray := by simp
                              rw [hzc] at hrun
                              have hgr := grow_ok (s := { s with heap := del s.heap i2, dirty := i2 :: s.dirty }) B.ty te.size news olds ns os (Builtin.zeroCells zz.cells (grownCap w (len + n) m B.ty - (len + n))).toList hzne hfg.1 hfb hfc o1 n1 (grownCap w (len + n) m B.ty) (by
                                rw [o2, hnl, Array.length_toList, size_zeroCells, j6, ← Nat.add_mul, ← Nat.add_mul]
                                congr 1
                                omega)
                              exact wp_val (run1 _ _ hrun) (hK _ _ _ (hfg.trans V hgr) (vr_c ⟨w.heap.size, _, by simp [Rho.setB], by simp [CapR, Rho.setB, Rho.setC], hge, rfl⟩))
                          · cases h
                        · cases h
                · cases h
            · simp [hz0] at h
      · cases h
    · cases h
  · cases h
end
end Ab
end Go.Proofs.Ytddiclnkfhldlaa
