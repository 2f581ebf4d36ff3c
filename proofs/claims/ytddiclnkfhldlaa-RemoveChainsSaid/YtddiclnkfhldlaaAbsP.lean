/-
  Each operation of the interpreter that leaves memory alone does what the program's does.
  Conditions: none.
-/
import Derived.Test.YtddiclnkfhldlaaAbsO
import Derived.Laws.StructEq
namespace Go.Proofs.Ytddiclnkfhldlaa
namespace Ab
set_option linter.unusedVariables false
set_option linter.unusedSimpArgs false
section
variable {P : Program} {V : Nat → Value} {E : Env}
def eqElems (d : Nat) (e sz : Nat) (xs ys : Array Value) : List Nat → Sem Bool
  | [] => pure true
  | i :: r => do
      let a ← part e xs (i * sz)
      let b ← part e ys (i * sz)
      let q ← Op.equalIn d e a b
      if (!q) = true then pure false else eqElems d e sz xs ys r
theorem run_equalIn_array (w : World) (d t n e : Nat) (i : TypeInfo) (xs ys : Array Value) (ht : P.underlying t = some (.array n e)) (hi : P.info? e = some i) :
    (Op.equalIn (d + 1) t (.agg xs) (.agg ys)).run P w = (eqElems d e i.size xs ys (List.range' 0 n 1)).run P w := by
  simp only [Op.equalIn, Sem.run_bind, run_underlying ht, Result.andThen_ok, sizeOf, typeInfo, run_program, hi, Sem.run_pure, Std.Legacy.Range.forIn_eq_forIn_range', Std.Legacy.Range.size]
  simp only [Nat.sub_zero, Nat.add_sub_cancel, Nat.div_one]
  generalize (List.range' 0 n 1) = fs
  induction fs generalizing w with
  | nil => simp [eqElems]
  | cons f fs ih =>
    simp only [List.forIn_cons, eqElems, Sem.run_bind, Sem.run_ite]
    generalize (part e xs (f * i.size)).run P w = r1
    cases r1 with
    | ok a w1 =>
      simp only [Result.andThen_ok]
      generalize (part e ys (f * i.size)).run P w1 = r2
      cases r2 with
      | ok b w2 =>
        simp only [Result.andThen_ok]
        generalize (Op.equalIn d e a b).run P w2 = r3
        cases r3 with
        | ok r w3 =>
          cases r
          · simp only [Result.andThen_ok, Bool.not_false, if_true, Sem.run_pure]
          · simp only [Result.andThen_ok, Bool.not_true, Bool.false_eq_true, if_false, Sem.run_pure]
            exact ih w3
        | halt x w3 => simp [Result.andThen]
      | halt x w2 => simp [Result.andThen]
    | halt x w1 => simp [Result.andThen]
/-- A part of a struct or an array. -/
theorem part_ok (hE : EnvOK P V E) {t : Nat} {ti : TI} (h : E.ty t = some ti) {ρ : Rho} {l m : List AC} {cs : Array Value} {off n : Nat} (hc : F2 (CR V ρ) l cs.toList) (hn : n = if isAggD ti.desc then ti.size else 1) (hs : sub l off n = some m) (w : World) :
    ∃ ds : List Value, F2 (CR V ρ) m ds ∧ ds.length = n ∧ (part t cs off).run P w = .ok (if isAggD ti.desc then .agg ds.toArray else ds.headD undef) w := by
  obtain ⟨i, z, h1, h2, h3, h4, h5, h6, h7⟩ := zero_ok hE h ρ
  obtain ⟨g1, g2, g3⟩ := hc.sub hs
  refine ⟨_, g1, by rw [← g1.length, g2], ?_⟩
  unfold part
  simp only [Sem.run_bind, run_isAgg' w h7, Result.andThen_ok]
  cases hd : isAggD ti.desc
  · rw [hd] at hn
    simp only [Bool.false_eq_true, if_false] at hn ⊢
    subst hn
    have hlt : off < cs.size := by
      rcases g3 with g3 | g3
      · cases g3
      · rw [Array.length_toList] at g3
        omega
    have e : ((cs.toList.drop off).take 1).headD undef = cs[off] := by
      rw [List.drop_eq_getElem_cons (by simpa using hlt)]
      simp
    rw [e]
    simp [Array.getElem?_eq_getElem hlt]
  · rw [hd] at hn
    simp only [if_true] at hn ⊢
    subst hn
    simp only [sizeOf, typeInfo, Sem.run_bind, run_program, h1, Sem.run_pure, Result.andThen_ok, h2, Sem.run_map]
    congr 2
    apply Array.ext'
    simp [Array.toList_extract, List.extract]
theorem part1_ok (hE : EnvOK P V E) {t : Nat} {ti : TI} (h : E.ty t = some ti) {ρ : Rho} {l : List AC} {cs : Array Value} {off : Nat} {v : AV} (hc : F2 (CR V ρ) l cs.toList) (hs : part1 ti l off = some v) (w : World) :
    ∃ c, VR V ρ v c ∧ (part t cs off).run P w = .ok c w := by
  unfold part1 at hs
  cases hd : isAggD ti.desc
  · simp only [hd, cond_false] at hs
    split at hs
    · rename_i x hx
      injection hs with hs
      subst hs
      obtain ⟨ds, g1, g2, g3⟩ := part_ok hE h hc (by rw [hd]; rfl) hx w
      match ds, g1, g2 with
      | [u], g1, _ => exact ⟨u, g1.1, by rw [g3, hd]; rfl⟩
    · cases hs
  · simp only [hd, cond_true] at hs
    cases hx : sub l off ti.size with
    | none => simp [hx] at hs
    | some m =>
      simp only [hx, Option.some.injEq] at hs
      subst hs
      obtain ⟨ds, g1, g2, g3⟩ := part_ok hE h hc (by rw [hd]; rfl) hx w
      exact ⟨.agg ds.toArray, ⟨_, rfl, by simpa using g1⟩, by rw [g3, hd]; rfl⟩
/-- A value out of its cells. -/
def ofCells (b : Bool) (ds : List Value) : Value := if b then .agg ds.toArray else ds.headD undef
theorem eq_all (hE : EnvOK P V E) (ρ : Rho) (w : World) : ∀ d : Nat,
    (∀ ty xs ys r, eqT E d ty xs ys = some r → ∀ D, d ≤ D → ∀ ti, E.ty ty = some ti → ∀ cs ds, F2 (CR V ρ) xs cs → F2 (CR V ρ) ys ds → (Op.equalIn D ty (ofCells (isAggD ti.desc) cs) (ofCells (isAggD ti.desc) ds)).run P w = .ok r w) ∧
    (∀ fs xs ys r, eqF E d fs xs ys = some r → ∀ D, d ≤ D → ∀ cs ds, F2 (CR V ρ) xs cs → F2 (CR V ρ) ys ds → (Op.eqFields D cs.toArray ds.toArray fs).run P w = .ok r w) ∧
    (∀ e n i xs ys r te, E.ty e = some te → eqN E d e te.size n i xs ys = some r → ∀ D, d ≤ D → ∀ cs ds, F2 (CR V ρ) xs cs → F2 (CR V ρ) ys ds → (eqElems D e te.size cs.toArray ds.toArray (List.range' i n 1)).run P w = .ok r w)
  | 0 => ⟨fun _ _ _ _ h => by simp [eqT] at h, fun _ _ _ _ h => by simp [eqF] at h, fun _ _ _ _ _ _ _ _ h => by simp [eqN] at h⟩
  | d + 1 => by
    obtain ⟨ih1, ih2, ih3⟩ := eq_all hE ρ w d
    refine ⟨?_, ?_, ?_⟩
    · intro ty xs ys r h D hD ti hti cs ds hx hy
      obtain ⟨i, z, h1, h2, h3, h4, h5, h6, h7, h8, h9⟩ := hE.ty ty ti hti
      simp only [eqT, hti] at h
      cases hq : ti.eqok
      · simp [hq] at h
      · obtain ⟨k1, k2⟩ := h9 hq
        simp only [hq, cond_true] at h
        obtain ⟨D', rfl⟩ : ∃ D', D = D' + 1 := ⟨D - 1, by omega⟩
        split at h
        · rename_i k hd
          rw [hd] at h8
          simp only [hd, isAggD, ofCells, Bool.false_eq_true, if_false]
          split at h
          · rename_i k1 a k2 b
            match cs, ds, hx, hy with
            | [u], [v], hx, hy =>
              have e1 : u = .int k1 a := hx.1
              have e2 : v = .int k2 b := hy.1
              subst e1; subst e2
              split at h
              · rename_i hk
                subst hk
                injection h with h
                subst h
                simpa using run_equalIn_int w D' ty k1 k a b h8
              · cases h
          · cases h
        · rename_i hd
          rw [hd] at h8
          simp only [hd, isAggD, ofCells, Bool.false_eq_true, if_false]
          split at h
          · rename_i a b
            match cs, ds, hx, hy with
            | [u], [v], hx, hy =>
              have e1 : u = .bool a := hx.1
              have e2 : v = .bool b := hy.1
              subst e1; subst e2
              injection h with h
              subst h
              simpa using run_equalIn_bool' w D' ty a b h8
          · cases h
        · rename_i fs hd
          rw [hd] at h8
          simp only [hd, isAggD, ofCells, if_true]
          have hf : P.fieldsOf ty = fs := by simp [Program.fieldsOf, h8]
          rw [run_equalIn_struct w D' ty _ _ (by rw [hf]; exact h8) k1, hf]
          exact ih2 _ _ _ _ h D' (by omega) cs ds hx hy
        · rename_i n e hd
          rw [hd] at h8
          simp only [hd, isAggD, ofCells, if_true]
          cases hte : E.ty e with
          | none => simp [hte] at h
          | some te =>
            simp only [hte] at h
            obtain ⟨j, z', j1, j2, _⟩ := hE.ty e te hte
            rw [run_equalIn_array w D' ty n e j _ _ h8 j1, j2]
            exact ih3 e n 0 xs ys r te hte h D' (by omega) cs ds hx hy
        · cases h
    · intro fs xs ys r h D hD cs ds hx hy
      cases fs with
      | nil =>
        simp only [eqF, Option.some.injEq] at h
        subst h
        simp [Op.eqFields]
      | cons f fs =>
        simp only [eqF] at h
        split at h
        · cases h
        · rename_i hname
          cases hti : E.ty f.type with
          | none => simp [hti] at h
          | some tf =>
            simp only [hti] at h
            cases ha : sub xs f.offset tf.size with
            | none => simp [ha] at h
            | some a =>
              cases hb : sub ys f.offset tf.size with
              | none => simp [ha, hb] at h
              | some b =>
                simp only [ha, hb] at h
                cases hr : eqT E d f.type a b with
                | none => simp [hr] at h
                | some r1 =>
                  simp only [hr] at h
                  have hsz : isAggD tf.desc = false → tf.size = 1 := by
                    intro hd
                    cases d with
                    | zero => simp [eqT] at hr
                    | succ d =>
                      have la := (hx.sub ha).2.1
                      simp only [eqT, hti] at hr
                      cases hq : tf.eqok
                      · simp [hq] at hr
                      · simp only [hq, cond_true] at hr
                        split at hr
                        · split at hr
                          · simpa using la.symm
                          · cases hr
                        · split at hr
                          · simpa using la.symm
                          · cases hr
                        · rename_i hd'
                          rw [hd'] at hd
                          cases hd
                        · rename_i hd'
                          rw [hd'] at hd
                          cases hd
                        · cases hr
                  have hn : tf.size = if isAggD tf.desc then tf.size else 1 := by
                    cases hd : isAggD tf.desc
                    · exact hsz hd
                    · rfl
                  obtain ⟨us, p1, p2, p3⟩ := part_ok hE hti (cs := cs.toArray) (by simpa using hx) hn ha w
                  obtain ⟨vs, q1, q2, q3⟩ := part_ok hE hti (cs := ds.toArray) (by simpa using hy) hn hb w
                  have key := ih1 f.type a b r1 hr D (by omega) tf hti us vs p1 q1
                  simp only [ofCells] at key
                  have hname' : (f.name ≠ "_") := hname
                  simp only [Op.eqFields, if_pos hname', Sem.run_bind, p3, q3, Result.andThen_ok, key]
                  cases r1
                  · simp only [Option.some.injEq] at h
                    subst h
                    simp
                  · simp only at h
                    have := ih2 fs xs ys r h D (by omega) cs ds hx hy
                    simpa using this
    · intro e n i xs ys r te hte h D hD cs ds hx hy
      cases n with
      | zero =>
        simp only [eqN, Option.some.injEq] at h
        subst h
        simp [eqElems]
      | succ n =>
        simp only [eqN] at h
        cases ha : sub xs (i * te.size) te.size with
        | none => simp [ha] at h
        | some a =>
          cases hb : sub ys (i * te.size) te.size with
          | none => simp [ha, hb] at h
          | some b =>
            simp only [ha, hb] at h
            cases hr : eqT E d e a b with
            | none => simp [hr] at h
            | some r1 =>
              simp only [hr] at h
              have hsz : isAggD te.desc = false → te.size = 1 := by
                intro hd
                cases d with
                | zero => simp [eqT] at hr
                | succ d =>
                  have la := (hx.sub ha).2.1
                  simp only [eqT, hte] at hr
                  cases hq : te.eqok
                  · simp [hq] at hr
                  · simp only [hq, cond_true] at hr
                    split at hr
                    · split at hr
                      · simpa using la.symm
                      · cases hr
                    · split at hr
                      · simpa using la.symm
                      · cases hr
                    · rename_i hd'
                      rw [hd'] at hd
                      cases hd
                    · rename_i hd'
                      rw [hd'] at hd
                      cases hd
                    · cases hr
              have hn : te.size = if isAggD te.desc then te.size else 1 := by
                cases hd : isAggD te.desc
                · exact hsz hd
                · rfl
              obtain ⟨us, p1, p2, p3⟩ := part_ok hE hte (cs := cs.toArray) (by simpa using hx) hn ha w
              obtain ⟨vs, q1, q2, q3⟩ := part_ok hE hte (cs := ds.toArray) (by simpa using hy) hn hb w
              have key := ih1 e a b r1 hr D (by omega) te hte us vs p1 q1
              simp only [ofCells] at key
              rw [List.range'_succ]
              simp only [eqElems, Sem.run_bind, p3, q3, Result.andThen_ok, key]
              cases r1
              · simp only [Option.some.injEq] at h
                subst h
                simp
              · simp only at h
                have := ih3 e n (i + 1) xs ys r te hte h D (by omega) cs ds hx hy
                simpa using this
end
end Ab
end Go.Proofs.Ytddiclnkfhldlaa
