/-
  Each operation of the interpreter that makes or writes memory.
  Conditions: none.
-/
import Derived.Test.YtddiclnkfhldlaaAbsQ
namespace Go.Proofs.Ytddiclnkfhldlaa
namespace Ab
set_option linter.unusedVariables false
set_option linter.unusedSimpArgs false
section
variable {P : Program} {V : Nat → Value} {E : Env}
theorem foldl_lay (off : Nat) : ∀ (l : List Value) (k : Nat) (cells : Array Value), off + k + l.length ≤ cells.size →
    ((l.zipIdx k).foldl (fun (c : Array Value) x => c.setIfInBounds (off + x.2) x.1) cells).toList = cells.toList.take (off + k) ++ l ++ cells.toList.drop (off + k + l.length)
  | [], k, cells, _ => by simp
  | v :: l, k, cells, h => by
    simp only [List.length_cons] at h
    rw [List.zipIdx_cons, List.foldl_cons, foldl_lay off l (k + 1) _ (by simp; omega)]
    have hlt : off + k < cells.toList.length := by simp; omega
    simp only [Array.toList_setIfInBounds, List.length_cons]
    rw [show off + (k + 1) = (off + k) + 1 by omega, show off + k + 1 + l.length = off + k + (l.length + 1) by omega]
    rw [List.drop_set_of_lt (by omega)]
    have e : (cells.toList.set (off + k) v).take (off + k + 1) = cells.toList.take (off + k) ++ [v] := by
      rw [List.take_add_one, List.getElem?_set_self hlt, List.take_set_of_le (by omega)]
      rfl
    rw [e]
    simp
/-- Parts, as the program's operation takes them and as the interpreter does. -/
def PartsR (V : Nat → Value) (ρ : Rho) (place : Nat → Option (Nat × Nat)) : List (Nat × Nat × List AC) → List (Nat × Value) → Prop :=
  F2 fun p q => place q.1 = some (p.1, p.2.1) ∧ F2 (CR V ρ) p.2.2 q.2.cells.toList
theorem fill_ok {ρ : Rho} {place : Nat → Option (Nat × Nat)} : ∀ {ps : List (Nat × Nat × List AC)} {qs : List (Nat × Value)} {zs m : List AC} {cells : Array Value}, PartsR V ρ place ps qs → F2 (CR V ρ) zs cells.toList → fillA zs ps = some m →
    ∃ cs, Instr.fill place cells qs = some cs ∧ F2 (CR V ρ) m cs.toList ∧ cs.size = cells.size
  | [], [], zs, m, cells, _, hz, hm => by
    simp only [fillA, Option.some.injEq] at hm
    subst hm
    exact ⟨cells, rfl, hz, rfl⟩
  | (off, size, l) :: ps, (i, v) :: qs, zs, m, cells, hp, hz, hm => by
    obtain ⟨⟨h1, h2⟩, h3⟩ := hp
    have h1 : place i = some (off, size) := h1
    have h2 : F2 (CR V ρ) l v.cells.toList := h2
    simp only [fillA] at hm
    cases hb : Nat.beq l.length size
    · simp [hb] at hm
    · simp only [hb, cond_true] at hm
      have hlen := Nat.eq_of_beq_eq_true hb
      cases ho : over zs off l with
      | none => simp [ho] at hm
      | some z2 =>
        simp only [ho] at hm
        obtain ⟨k1, k2⟩ := F2.over off hz h2 ho
        have hvs : v.cells.size = size := by rw [← Array.length_toList, ← h2.length, hlen]
        rw [Array.length_toList, Array.length_toList] at k2
        have hfold : (Array.foldl (fun (c : Array Value) (x : Value × Nat) => c.setIfInBounds (off + x.2) x.1) cells v.cells.zipIdx).toList = cells.toList.take off ++ v.cells.toList ++ cells.toList.drop (off + v.cells.toList.length) := by
          rw [← Array.foldl_toList, Array.toList_zipIdx]
          have hsz : off + v.cells.size ≤ cells.size := k2
          have := foldl_lay off v.cells.toList 0 cells (by simp; omega)
          simpa using this
        obtain ⟨cs, g1, g2, g3⟩ := fill_ok (cells := Array.foldl (fun (c : Array Value) (x : Value × Nat) => c.setIfInBounds (off + x.2) x.1) cells v.cells.zipIdx) h3 (by rw [hfold]; exact k1) hm
        refine ⟨cs, ?_, g2, ?_⟩
        · simp only [Instr.fill, h1]
          rw [if_neg (by simp [hvs]; omega)]
          exact g1
        · rw [g3, ← Array.length_toList, hfold]
          have hsz : off + v.cells.size ≤ cells.size := k2
          simp only [List.length_append, List.length_take, List.length_drop, Array.length_toList]
          omega
  | [], _ :: _, _, _, _, h, _, _ => h.elim
  | _ :: _, [], _, _, _, h, _, _ => h.elim
theorem partsS_ok (hE : EnvOK P V E) {ρ : Rho} {t : Sl} {a : Act} (ht : TR V ρ t a) {fs : Array Field} {places : Array (Nat × Nat)} (hpl : ∀ (i : Nat) (f : Field) (ti : TI), fs[i]? = some f → E.ty f.type = some ti → places[i]? = some (f.offset, ti.size)) :
    ∀ {l : List (Nat × Operand)} {ps : List (Nat × Nat × List AC)}, partsS E t fs l = some ps → PartsR V ρ (places[·]?) ps (l.map fun x => (x.1, a.eval x.2))
  | [], ps, h => by
    simp only [partsS, Option.some.injEq] at h
    subst h
    trivial
  | (i, x) :: l, ps, h => by
    simp only [partsS] at h
    cases hf : fs[i]? with
    | none => simp [hf] at h
    | some f =>
      simp only [hf] at h
      split at h
      · rename_i ti c r h1 h2 h3
        injection h with h
        subst h
        exact ⟨⟨hpl i f ti hf h1, cells_ok (eval_ok ht x) h2 hE.one⟩, partsS_ok hE ht hpl h3⟩
      · cases h
theorem partsE_ok (hE : EnvOK P V E) {ρ : Rho} {t : Sl} {a : Act} (ht : TR V ρ t a) {size : Nat} :
    ∀ {l : List (Nat × Operand)} {ps : List (Nat × Nat × List AC)}, partsE size t l = some ps → PartsR V ρ (fun i => some (i * size, size)) ps (l.map fun x => (x.1, a.eval x.2))
  | [], ps, h => by
    simp only [partsE, Option.some.injEq] at h
    subst h
    trivial
  | (i, x) :: l, ps, h => by
    simp only [partsE] at h
    split at h
    · rename_i c r h2 h3
      injection h with h
      subst h
      exact ⟨⟨rfl, cells_ok (eval_ok ht x) h2 hE.one⟩, partsE_ok hE ht h3⟩
    · cases h
theorem mapM_places (hE : EnvOK P V E) : ∀ (l : List Field), haveAll E l = true → ∃ ps : List (Nat × Nat), l.mapM (fun f => (P.info? f.type).map fun i => (f.offset, i.size)) = some ps ∧
    ∀ (i : Nat) (f : Field) (ti : TI), l[i]? = some f → E.ty f.type = some ti → ps[i]? = some (f.offset, ti.size)
  | [], _ => ⟨[], by simp, fun i f ti h => by simp at h⟩
  | f :: l, h => by
    simp only [haveAll, Bool.and_eq_true] at h
    obtain ⟨ps, g1, g2⟩ := mapM_places hE l h.2
    obtain ⟨ti, hti⟩ := Option.isSome_iff_exists.1 h.1
    obtain ⟨i, z, h1, h2, _⟩ := hE.ty f.type ti hti
    refine ⟨(f.offset, ti.size) :: ps, ?_, ?_⟩
    · rw [List.mapM_cons]
      simp [h1, h2, g1]
    · intro i f' ti' hf hti'
      cases i with
      | zero =>
        simp only [List.getElem?_cons_zero, Option.some.injEq] at hf
        subst hf
        rw [hti] at hti'
        injection hti' with e
        subst e
        rfl
      | succ i =>
        simp only [List.getElem?_cons_succ] at hf ⊢
        exact g2 i f' ti' hf hti'
theorem op_buildS (hE : EnvOK P V E) {t : Sl} {s : St} {o : Oper} {ty : Nat} {parts : Array (Nat × Operand)} {ti : TI} {fs : Array Field} {ps : List (Nat × Nat × List AC)} {l : List AC} (ho : o.op = .build ty parts) (hti : E.ty ty = some ti) (hd : ti.desc = .struct fs)
    (hh : haveAll E fs.toList = true) (hp : partsS E t fs parts.toList = some ps) (hl : fillA ti.zero ps = some l) : OpOK P V t s o (.one (.agg l)) s := by
  refine op_pure fun ρ a w ht hr => ?_
  obtain ⟨i, z, h1, h2, h3, h4, h5, h6, h7⟩ := zero_ok hE hti ρ
  rw [hd] at h7
  obtain ⟨places, g1, g2⟩ := mapM_places hE fs.toList hh
  have hP := partsS_ok hE ht (fs := fs) (places := places.toArray) (fun i f tj hf htj => by
    have := g2 i f tj (by simpa using hf) htj
    simpa using this) hp
  obtain ⟨cs, k1, k2, k3⟩ := fill_ok hP h5 hl
  refine ⟨.agg cs, ?_, cs, rfl, k2⟩
  have hb : P.built ty (parts.map fun (i, x) => (i, a.eval x)).toList = some cs := by
    unfold Program.built
    simp only [h1, h7, h4, g1]
    rw [Array.toList_map]
    exact k1
  simp only [execOp, ho, Sem.run_bind, run_build w ty _ cs hb, Result.andThen_ok, Sem.run_pure]
theorem op_buildE (hE : EnvOK P V E) {t : Sl} {s : St} {o : Oper} {ty n e : Nat} {parts : Array (Nat × Operand)} {ti te : TI} {ps : List (Nat × Nat × List AC)} {l : List AC} (ho : o.op = .build ty parts) (hti : E.ty ty = some ti) (hd : ti.desc = .array n e)
    (hte : E.ty e = some te) (hp : partsE te.size t parts.toList = some ps) (hl : fillA ti.zero ps = some l) : OpOK P V t s o (.one (.agg l)) s := by
  refine op_pure fun ρ a w ht hr => ?_
  obtain ⟨i, z, h1, h2, h3, h4, h5, h6, h7⟩ := zero_ok hE hti ρ
  obtain ⟨j, z', j1, j2, _⟩ := zero_ok hE hte ρ
  rw [hd] at h7
  have hP := partsE_ok hE ht hp
  obtain ⟨cs, k1, k2, k3⟩ := fill_ok hP h5 hl
  refine ⟨.agg cs, ?_, cs, rfl, k2⟩
  have hb : P.built ty (parts.map fun (i, x) => (i, a.eval x)).toList = some cs := by
    unfold Program.built
    simp only [h1, h7, h4, j1, j2]
    rw [Array.toList_map]
    exact k1
  simp only [execOp, ho, Sem.run_bind, run_build w ty _ cs hb, Result.andThen_ok, Sem.run_pure]
theorem rep_length (z : List AC) : ∀ n, (rep z n).length = n * z.length
  | 0 => by simp [rep]
  | n + 1 => by rw [rep, List.length_append, rep_length z n, Nat.succ_mul, Nat.add_comm]
theorem range'_cells (z : Array Value) (hz : 0 < z.size) : ∀ n m, (List.range' (m * z.size) (n * z.size)).map (fun i => z[i % z.size]!) = (List.replicate n z.toList).flatten
  | 0, m => by simp
  | n + 1, m => by
    rw [Nat.succ_mul, Nat.add_comm (n * z.size), ← List.range'_append, List.map_append, List.replicate_succ, List.flatten_cons]
    have e := range'_cells z hz n (m + 1)
    rw [Nat.succ_mul] at e
    rw [Nat.one_mul, e]
    congr 1
    apply List.ext_getElem?
    intro i
    rw [List.getElem?_map]
    by_cases hi : i < z.size
    · rw [List.getElem?_range' hi, Option.map_some, Array.getElem?_toList, Array.getElem?_eq_getElem hi]
      have : (m * z.size + 1 * i) % z.size = i := by rw [Nat.one_mul, Nat.mul_comm, Nat.mul_add_mod, Nat.mod_eq_of_lt hi]
      rw [this, getElem!_pos z i hi]
    · rw [List.getElem?_eq_none (by simp; omega), List.getElem?_eq_none (by simp; omega)]
      rfl
theorem rep_ok {ρ : Rho} {zl : List AC} {z : Array Value} (h : F2 (CR V ρ) zl z.toList) : ∀ n, F2 (CR V ρ) (rep zl n) (List.replicate n z.toList).flatten
  | 0 => trivial
  | n + 1 => by
    rw [List.replicate_succ, List.flatten_cons]
    exact h.append (rep_ok h n)
theorem made_ok {ρ : Rho} {zl : List AC} {z : Array Value} (h : F2 (CR V ρ) zl z.toList) (hz : 0 < z.size) (n : Nat) : F2 (CR V ρ) (rep zl n) ((Array.range (n * z.size)).map (z[· % z.size]!)).toList := by
  have e := range'_cells z hz n 0
  rw [Nat.zero_mul] at e
  rw [Array.toList_map, Array.toList_range, List.range_eq_range']
  have hh : (fun x : Nat => z[x % z.size]!) = (fun i : Nat => z[i % z.size]!) := rfl
  rw [hh, e]
  exact rep_ok h n
theorem op_buildSlice (hE : EnvOK P V E) {t : Sl} {s : St} {o : Oper} {ty e len : Nat} {parts : Array (Nat × Operand)} {ti te : TI} {ps : List (Nat × Nat × List AC)} {l : List AC} (ho : o.op = .buildSlice ty len parts) (hti : E.ty ty = some ti) (hd : ti.desc = .slice e)
    (hte : E.ty e = some te) (h0 : Nat.beq te.size 0 = false) (hle : Nat.ble (len * te.size) 16777216 = true) (hp : partsE te.size t parts.toList = some ps) (hl : fillA (rep te.zero len) ps = some l) :
    OpOK P V t s o (.one (.c (.slice (some (s.next, 0)) len (.lit len)))) (s.new e l none) := by
  intro ρ a w ht hr hf K Q hK
  obtain ⟨i, z, h1, h2, h3, h4, h5, h6, h7⟩ := zero_ok hE hti ρ
  obtain ⟨j, z', j1, j2, j3, j4, j5, j6, j7⟩ := zero_ok hE hte ρ
  rw [hd] at h7
  have hpos : 0 < z'.cells.size := by
    rw [j6]
    cases hs : te.size with
    | zero => rw [hs] at h0; cases h0
    | succ n => omega
  have hP := partsE_ok hE ht hp
  have hz := made_ok j5 hpos len
  obtain ⟨cs, k1, k2, k3⟩ := fill_ok hP hz hl
  have hg := go_new V e l cs hr (hf.b _ (Nat.le_refl _) (by simp [St.new])) k2
  refine wp_val (c := .slice (some ⟨w.heap.size, 0, none⟩) len len) (w' := w.alloc (.cells cs e)) ?_ (hK _ _ _ hg ⟨w.heap.size, len, by simp [Rho.setB], rfl, Nat.le_refl _, rfl⟩)
  have hle' : ¬ len * te.size > 2 ^ 24 := by
    have := Nat.le_of_ble_eq_true hle
    omega
  have hk : Instr.fill (fun i => some (i * te.size, te.size)) ((Array.range (len * te.size)).map (z'.cells[· % z'.cells.size]!)) (List.map (fun x => (x.fst, a.eval x.snd)) parts.toList) = some cs := by
    rw [j6] at k1 ⊢
    exact k1
  by_cases hn : len * te.size = 0
  · have hm0 : ∀ f : Nat → Value, Array.map f (Array.range 0) = #[] := by
      intro f
      apply Array.ext'
      simp
    rw [hn, hm0] at hk
    simp only [execOp, ho, Instr.buildSlice, run_underlying h7, Sem.run_bind, Result.andThen_ok, sizeOf, typeInfo, run_program, j1, Sem.run_pure, j2, if_neg hle', if_pos hn, hn, hm0]
    simp [hm0, hk, newRow]
  · simp only [execOp, ho, Instr.buildSlice, run_underlying h7, Sem.run_bind, Result.andThen_ok, sizeOf, typeInfo, run_program, j1, Sem.run_pure, j2, if_neg hle', if_neg hn, zeroValue, j4]
    simp [hk, newRow]
theorem op_makeSlice (hE : EnvOK P V E) {t : Sl} {s s' : St} {o : Oper} {ty : Nat} {x y : Operand} {v : AV} (ho : o.op = .makeSlice ty x y) (h : makeSliceA E s ty (eval t x) (eval t y) = some (v, s')) : OpOK P V t s o v s' := by
  intro ρ a w ht hr hf K Q hK
  unfold makeSliceA at h
  split at h
  · rename_i ti l c hti hl hc
    obtain ⟨kl, hl⟩ := litInt_ok hl (eval_ok ht x)
    obtain ⟨kc, hc⟩ := litInt_ok hc (eval_ok ht y)
    obtain ⟨i, z, h1, h2, h3, h4, h5, h6, h7⟩ := zero_ok hE hti ρ
    split at h
    · rename_i e hd
      rw [hd] at h7
      cases hte : E.ty e with
      | none => simp [hte] at h
      | some te =>
        simp only [hte] at h
        obtain ⟨j, z', j1, j2, j3, j4, j5, j6, j7⟩ := zero_ok hE hte ρ
        split at h
        · rename_i hin
          obtain ⟨q1, q2, q3, q4, q5⟩ := hin
          injection h with h
          injection h with e1 e2
          subst e1; subst e2
          have hpos : 0 < z'.cells.size := by
            rw [j6]
            cases hs : te.size with
            | zero => rw [hs] at q5; cases q5
            | succ n => omega
          have hm : F2 (CR V ρ) (rep te.zero c.toNat) (madeCells z'.cells (c.toNat * te.size)).toList := by
            have := made_ok j5 hpos c.toNat
            rw [j6] at this
            unfold madeCells
            rw [j6]
            exact this
          have hg := go_new V e _ _ hr (hf.b _ (Nat.le_refl _) (by simp [St.new])) hm
          refine wp_val ?_ (hK _ (.slice (some ⟨w.heap.size, 0, none⟩) l.toNat c.toNat) _ hg ⟨w.heap.size, c.toNat, by simp [Rho.setB], rfl, by omega, rfl⟩)
          have hr2 := run_make (P := P) w ty e j z' h7 j1 j4 kl kc l c q1 q2 (by
            rw [j3]
            have : (te.bytes : Int) ≤ 100000 := by omega
            have := Int.mul_le_mul this q3 (by omega) (by omega)
            omega) (by omega)
          rw [j2] at hr2
          simp only [execOp, ho, hl, hc, Sem.run_bind, hr2, Result.andThen_ok, Sem.run_pure]
        · cases h
    · cases h
  · cases h
end
end Ab
end Go.Proofs.Ytddiclnkfhldlaa
