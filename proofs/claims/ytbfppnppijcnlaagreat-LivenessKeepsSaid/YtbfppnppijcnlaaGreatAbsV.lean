/-
  Each operation of the interpreter does what the program's operation does.
  Conditions: none.
-/
import Derived.Test.YtbfppnppijcnlaaGreatAbsW
import Derived.Laws.Rows
import Derived.Laws.BytesString
import Derived.Laws.Build
import Derived.Great.BuildSlice
import Derived.Laws.StructEq
import Derived.IntWalk
namespace Go.Proofs.YtbfppnppijcnlaaGreat
namespace Ab
set_option linter.unusedVariables false
set_option linter.unusedSimpArgs false
/-- The tables tell the program's. -/
structure EnvOK (P : Program) (V : Nat → Value) (E : Env) : Prop where
  fn : ∀ f g, E.fn f = some g → P.funcs[f]? = some g ∧ ∀ args w, (callFunc f args).run P w = .ok (.enter f args) w
  ty : ∀ t ti, E.ty t = some ti → ∃ i z, P.info? t = some i ∧ i.size = ti.size ∧ i.bytes = ti.bytes ∧ i.zero = some z ∧ z.cells.toList.all isOne = true ∧ ti.zero = z.cells.toList.map cellOf ∧ z.cells.size = ti.size ∧ P.underlying t = some ti.desc ∧
    (ti.eqok = true → P.stoodInHeld t = false ∧ P.eqGuardType P.depth t = false)
  tab : ∀ op a b z, E.tab op a b = some z → ∀ ρ x y, CR V ρ a x → CR V ρ b y → ∃ k n k' n' c, x = .int k n ∧ y = .int k' n' ∧ CR V ρ z c ∧ ∀ xt, binOp op xt x y = .pure c
  cvt : ∀ k i z, E.cvt k (.sym i) = some z → ∀ ρ, ∃ k' n, V i = .int k' n ∧ CR V ρ z (.int k (k.wrap n))
  bnd : ∀ f g, E.fn f = some g → f < 1000000
  one : ∀ i, (V i).oneCell' = true
  mixed : P.follows .mixedOrders = true
section
variable {P : Program} {V : Nat → Value} {E : Env}
theorem cellOf_ok (ρ : Rho) : ∀ v : Value, isOne v = true → CR V ρ (cellOf v) v
  | .bool _, _ => rfl
  | .int _ _, _ => rfl
  | .float _ _, _ => rfl
  | .complex _ _ _, _ => rfl
  | .string _, _ => rfl
  | .pointer none, _ => rfl
  | .pointer (some _), _ => rfl
  | .slice none n c, _ => by
    show CR V ρ (if n ≤ c then AC.slice none n (.lit c) else .any) _
    by_cases h : n ≤ c
    · rw [if_pos h]
      exact ⟨c, rfl, h, rfl⟩
    · rw [if_neg h]
      exact rfl
  | .slice (some _) _ _, _ => rfl
  | .map _, _ => rfl
  | .chan _, _ => rfl
  | .func _ _ _, _ => rfl
  | .nilFunc, _ => rfl
  | .iface _ _, _ => rfl
  | .nilIface, _ => rfl
  | .agg _, h => by cases h
  | .tuple _, h => by cases h
theorem cellsOf_ok (ρ : Rho) : ∀ l : List Value, l.all isOne = true → F2 (CR V ρ) (l.map cellOf) l
  | [], _ => trivial
  | v :: l, h => by
    simp only [List.all_cons, Bool.and_eq_true] at h
    exact ⟨cellOf_ok ρ v h.1, cellsOf_ok ρ l h.2⟩
theorem absV_ok (ρ : Rho) (v : Value) : VR V ρ (absV v) v := by
  unfold absV
  split
  · rename_i cs
    cases hb : cs.toList.all isOne
    · exact trivial
    · exact ⟨cs, rfl, cellsOf_ok ρ _ hb⟩
  · exact trivial
  · rename_i h1 h2
    exact cellOf_ok ρ v (by cases v <;> first | rfl | exact absurd rfl (h1 _) | exact absurd rfl (h2 _))
theorem eval_ok {ρ : Rho} {t : Sl} {a : Act} (ht : TR V ρ t a) (x : Operand) : VR V ρ (eval t x) (a.eval x) := by
  cases x with
  | tmp i => exact ht.v i
  | const v => exact absV_ok ρ v
  | global g => exact trivial
  | func f => exact rfl
theorem evals_ok {ρ : Rho} {t : Sl} {a : Act} (ht : TR V ρ t a) : ∀ l : List Operand, F2 (VR V ρ) (evals t l) (l.map a.eval)
  | [] => trivial
  | x :: l => ⟨eval_ok ht x, evals_ok ht l⟩
theorem wp_val {o : Oper} {a : Act} {w w' : World} {K : Act → World → Prop} {Q : Exit → Act → World → Prop} {c : Value} (h : (execOp a.eval o).run P w = .ok (.value c) w') (hk : K (a.put o.dst c) w') : o.wp P a w K Q := by
  unfold Oper.wp
  rw [h]
  exact hk
theorem wp_skp {o : Oper} {a : Act} {w w' : World} {K : Act → World → Prop} {Q : Exit → Act → World → Prop} (h : (execOp a.eval o).run P w = .ok .skip w') (hk : K (a.put o.dst undef) w') : o.wp P a w K Q := by
  unfold Oper.wp
  rw [h]
  exact hk
theorem cells_ok {ρ : Rho} {x : AV} {v : Value} {l : List AC} (h : VR V ρ x v) (hl : cellsOf x = some l) (hone : ∀ i, (V i).oneCell' = true) : F2 (CR V ρ) l v.cells.toList := by
  unfold cellsOf at hl
  split at hl
  · injection hl with hl
    subst hl
    have h1 : CR V ρ _ v := h
    have h2 := h1.one V hone
    have : v.cells = #[v] := by cases v <;> first | rfl | cases h2
    rw [this]
    exact ⟨h1, trivial⟩
  · injection hl with hl
    subst hl
    obtain ⟨cs, rfl, h2⟩ := h
    exact h2
  · cases hl
/-- What it is for an operation to do what the interpreter says. -/
noncomputable def OpOK (P : Program) (V : Nat → Value) (t : Sl) (s : St) (o : Oper) (v : AV) (s' : St) : Prop :=
  ∀ ρ a w, TR V ρ t a → Rep V ρ s w → Free ρ s s' → ∀ (K : Act → World → Prop) (Q : Exit → Act → World → Prop), (∀ ρ' c w', Goes V ρ s w s' w' ρ' → VR V ρ' v c → K (a.put o.dst c) w') → o.wp P a w K Q
theorem op_pure {t : Sl} {s : St} {o : Oper} {v : AV} (h : ∀ ρ a w, TR V ρ t a → Rep V ρ s w → ∃ c, (execOp a.eval o).run P w = .ok (.value c) w ∧ VR V ρ v c) : OpOK P V t s o v s := by
  intro ρ a w ht hr hf K Q hK
  obtain ⟨c, h1, h2⟩ := h ρ a w ht hr
  exact wp_val h1 (hK ρ c w (Goes.refl V hr) h2)
theorem op_move {t : Sl} {s : St} {o : Oper} {x : Operand} (ho : o.op = .move x ∨ o.op = .assign x) : OpOK P V t s o (eval t x) s := by
  refine op_pure fun ρ a w ht hr => ⟨a.eval x, ?_, eval_ok ht x⟩
  rcases ho with ho | ho <;> simp [execOp, ho]
theorem op_pick {t : Sl} {s : St} {o : Oper} {c x y : Operand} {k : Bool} (ho : o.op = .pick c x y) (hc : eval t c = .one (.c (.bool k))) : OpOK P V t s o (bif k then eval t x else eval t y) s := by
  refine op_pure fun ρ a w ht hr => ?_
  have h1 := eval_ok ht c
  rw [hc] at h1
  have h1 : a.eval c = .bool k := h1
  refine ⟨if k then a.eval x else a.eval y, ?_, ?_⟩
  · simp [execOp, ho, h1, asBool]
  · cases k
    · exact eval_ok ht y
    · exact eval_ok ht x
theorem zero_ok {t : Nat} {ti : TI} (hE : EnvOK P V E) (h : E.ty t = some ti) (ρ : Rho) : ∃ i z, P.info? t = some i ∧ i.size = ti.size ∧ i.bytes = ti.bytes ∧ i.zero = some z ∧ F2 (CR V ρ) ti.zero z.cells.toList ∧ z.cells.size = ti.size ∧ P.underlying t = some ti.desc := by
  obtain ⟨i, z, h1, h2, h3, h4, h5, h6, h7, h8, _⟩ := hE.ty t ti h
  exact ⟨i, z, h1, h2, h3, h4, by rw [h6]; exact cellsOf_ok ρ _ h5, h7, h8⟩
theorem op_alloc (hE : EnvOK P V E) {t : Sl} {s : St} {o : Oper} {ty : Nat} {ti : TI} (ho : o.op = .alloc ty) (h : E.ty ty = some ti) :
    OpOK P V t s o (.one (.c (.ptr (some (s.next, 0))))) (s.new ty ti.zero none) := by
  intro ρ a w ht hr hf K Q hK
  obtain ⟨i, z, h1, h2, h3, h4, h5, h6, h7⟩ := zero_ok hE h ρ
  have hg := go_new V ty ti.zero z.cells hr (hf.b _ (Nat.le_refl _) (by simp [St.new])) h5
  refine wp_val (c := .pointer (some ⟨w.heap.size, 0, none⟩)) (w' := w.alloc (.cells z.cells ty)) ?_ (hK _ _ _ hg ⟨w.heap.size, by simp [Rho.setB], rfl⟩)
  simp [execOp, ho, Instr.alloc, zeroValue, typeInfo, h1, h4, newVar, newRow]
theorem op_box (hE : EnvOK P V E) {t : Sl} {s : St} {o : Oper} {ty : Nat} {x : Operand} {l : List AC} (ho : o.op = .box ty x) (h : cellsOf (eval t x) = some l) :
    OpOK P V t s o (.one (.c (.ptr (some (s.next, 0))))) (s.new ty l none) := by
  intro ρ a w ht hr hf K Q hK
  have hc := cells_ok (eval_ok ht x) h hE.one
  have hg := go_new V ty l (a.eval x).cells hr (hf.b _ (Nat.le_refl _) (by simp [St.new])) hc
  refine wp_val (c := .pointer (some ⟨w.heap.size, 0, none⟩)) (w' := w.alloc (.cells (a.eval x).cells ty)) ?_ (hK _ _ _ hg ⟨w.heap.size, by simp [Rho.setB], rfl⟩)
  simp [execOp, ho, Instr.box, newVar, newRow]
theorem aggD {d : TypeDesc} : (match d with | .struct _ | .array _ _ => true | _ => false) = isAggD d := by cases d <;> rfl
theorem run_isAgg' {t : Nat} {d : TypeDesc} (w : World) (hu : P.underlying t = some d) : (isAgg t).run P w = .ok (isAggD d) w := by
  unfold isAgg
  simp only [Sem.run_bind, run_underlying hu, Result.andThen_ok]
  cases d <;> rfl
theorem load_ok (hE : EnvOK P V E) {s : St} {ty : Nat} {x v : AV} (h : loadA E s ty x = some v) {ρ : Rho} {w : World} {u : Value} (hr : Rep V ρ s w) (hu : VR V ρ x u) :
    ∃ ad c, u = .pointer (some ad) ∧ (loadVar ty ad).run P w = .ok c w ∧ VR V ρ v c := by
  unfold loadA at h
  split at h
  · rename_i ti i off hty
    obtain ⟨b, hb, rfl⟩ := hu
    cases hB : look s.heap i with
    | none => simp [hB] at h
    | some B =>
      simp only [hB] at h
      obtain ⟨ii, z, h1, h2, h3, h4, h5, h6, h7⟩ := zero_ok hE hty ρ
      cases hd : isAggD ti.desc
      · simp only [hd, cond_false] at h
        split at h
        · rename_i y hs
          injection h with h
          subst h
          obtain ⟨ds, g1, g2, g3⟩ := load_sub V hr hB hb hs
          match ds, g1, g2, g3 with
          | [u], _, g2, g3 =>
            have := g3 0 u rfl
            refine ⟨_, u, rfl, ?_, g2.1⟩
            unfold loadVar
            simp only [Sem.run_bind, run_isAgg' w h7, hd, Result.andThen_ok]
            have e0 : (⟨b, off, none⟩ : Addr).add 0 = ⟨b, off, none⟩ := by simp [Addr.add]
            rw [e0] at this
            simp [load, Sem.run, this]
        · cases h
      · simp only [hd, cond_true] at h
        cases hs : sub B.cells off ti.size with
        | none => simp [hs] at h
        | some l =>
          simp only [hs, Option.some.injEq] at h
          subst h
          obtain ⟨ds, g1, g2, g3⟩ := load_sub V hr hB hb hs
          refine ⟨_, .agg ds.toArray, rfl, ?_, ds.toArray, rfl, by simpa using g2⟩
          have hl := run_loadCells_list (P := P) w ⟨b, off, none⟩ ds g3
          unfold loadVar
          simp only [Sem.run_bind, run_isAgg' w h7, hd, Result.andThen_ok]
          simp [sizeOf, typeInfo, h1, h2, ← g1, hl]
  · cases h
theorem op_load (hE : EnvOK P V E) {t : Sl} {s : St} {o : Oper} {ty : Nat} {x : Operand} {v : AV} (ho : o.op = .load ty x) (h : loadA E s ty (eval t x) = some v) : OpOK P V t s o v s := by
  refine op_pure fun ρ a w ht hr => ?_
  obtain ⟨ad, c, h1, h2, h3⟩ := load_ok hE h hr (eval_ok ht x)
  exact ⟨c, by simp [execOp, ho, Instr.loadAt, h1, Instr.sureAddr, h2], h3⟩
theorem op_store (hE : EnvOK P V E) {t : Sl} {s s' : St} {o : Oper} {ty : Nat} {x y : Operand} (ho : o.op = .store ty x y) (h : storeA E s ty (eval t x) (eval t y) = some s') : OpOK P V t s o .undef s' := by
  intro ρ a w ht hr hf K Q hK
  unfold storeA at h
  split at h
  · rename_i ti i off l hty hx hy
    have hx' := eval_ok ht x
    rw [hx] at hx'
    obtain ⟨b, hb, hx'⟩ := hx'
    have hc := cells_ok (eval_ok ht y) hy hE.one
    obtain ⟨ii, z, h1, h2, h3, h4, h5, h6, h7⟩ := zero_ok hE hty ρ
    cases hB : look s.heap i with
    | none => simp [hB] at h
    | some B =>
      simp only [hB] at h
      cases hl : Nat.beq l.length ti.size
      · simp [hl] at h
      · simp only [hl, cond_true] at h
        have hl := Nat.eq_of_beq_eq_true hl
        cases hm : over B.cells off l with
        | none => simp [hm] at h
        | some m =>
          simp only [hm, Option.some.injEq] at h
          subst h
          obtain ⟨b', cs, g1, g2, pre, post, g3, g4, g5⟩ := hr.h i B hB
          rw [hb] at g1
          injection g1 with g1
          subst g1
          obtain ⟨k1, k2⟩ := F2.over off g4 hc hm
          have hz : off + 0 + (a.eval y).cells.toList.length ≤ cs.size := by
            rw [← Array.length_toList, g3, List.length_append]
            omega
          have hone : ∀ u ∈ (a.eval y).cells.toList, u.oneCell' = true := by
            intro u hu
            obtain ⟨q, _, hq⟩ := hc.mem u hu
            exact hq.one V hE.one
          have hst := run_storeCells_at P b off B.ty (a.eval y).cells.toList 0 cs w g2 hz hone
          have hcs : cs.toList.take (off + 0) ++ (a.eval y).cells.toList ++ cs.toList.drop (off + 0 + (a.eval y).cells.toList.length) = (pre.take off ++ (a.eval y).cells.toList ++ pre.drop (off + (a.eval y).cells.toList.length)) ++ post := by
            rw [g3, List.take_append_of_le_length (by omega), List.drop_append_of_le_length (by omega)]
            simp
          rw [hcs] at hst
          have hg := go_store (cs' := ((pre.take off ++ (a.eval y).cells.toList ++ pre.drop (off + (a.eval y).cells.toList.length)) ++ post).toArray) V m hr hB hb g2 (br_put V g3 g4 g5 hc hm)
          refine wp_skp ?_ (hK ρ undef _ hg rfl)
          have hsz : (a.eval y).cells.size = ti.size := by rw [← Array.length_toList, ← hc.length, hl]
          simp [execOp, ho, Instr.storeAt, hx', Instr.sureAddr, storeVar, sizeOf, typeInfo, h1, h2, hsz, hst]
  · cases h
end
end Ab
end Go.Proofs.YtbfppnppijcnlaaGreat
namespace Go.Proofs.YtbfppnppijcnlaaGreat
namespace Ab
set_option linter.unusedVariables false
set_option linter.unusedSimpArgs false
section
variable {P : Program} {V : Nat → Value} {E : Env}
noncomputable def eqElems (d : Nat) (e sz : Nat) (xs ys : Array Value) : List Nat → Sem Bool
  | [] => pure true
  | i :: r => do
      let a ← part e xs (i * sz)
      let b ← part e ys (i * sz)
      let q ← Op.equalIn d e a b
      if (!q) = true then pure false else eqElems d e sz xs ys r
theorem run_equalIn_array (w : World) (d t n e : Nat) (i : TypeInfo) (xs ys : Array Value) (ht : P.underlying t = some (.array n e)) (hi : P.info? e = some i) :
    (Op.equalIn (d + 1) t (.agg xs) (.agg ys)).run P w = (eqElems d e i.size xs ys (List.range' 0 n 1)).run P w := by
  simp only [Op.equalIn, Sem.run_bind, run_underlying ht, Result.andThen_ok, sizeOf, typeInfo, run_program, hi, Sem.run_pure, Std.Legacy.Range.forIn_eq_forIn_range', Std.Legacy.Range.size]
  simp only [Nat.sub_zero, Nat.add_sub_cancel, Nat.div_one]
  generalize (List.range' 0 n 1) = fs
  induction fs generalizing w with
  | nil => simp [eqElems]
  | cons f fs ih =>
    simp only [List.forIn_cons, eqElems, Sem.run_bind, Sem.run_ite]
    generalize (part e xs (f * i.size)).run P w = r1
    cases r1 with
    | ok a w1 =>
      simp only [Result.andThen_ok]
      generalize (part e ys (f * i.size)).run P w1 = r2
      cases r2 with
      | ok b w2 =>
        simp only [Result.andThen_ok]
        generalize (Op.equalIn d e a b).run P w2 = r3
        cases r3 with
        | ok r w3 =>
          cases r
          · simp only [Result.andThen_ok, Bool.not_false, if_true, Sem.run_pure]
          · simp only [Result.andThen_ok, Bool.not_true, Bool.false_eq_true, if_false, Sem.run_pure]
            exact ih w3
        | halt x w3 => simp [Result.andThen]
      | halt x w2 => simp [Result.andThen]
    | halt x w1 => simp [Result.andThen]
/-- A part of a struct or an array. -/
theorem part_ok (hE : EnvOK P V E) {t : Nat} {ti : TI} (h : E.ty t = some ti) {ρ : Rho} {l m : List AC} {cs : Array Value} {off n : Nat} (hc : F2 (CR V ρ) l cs.toList) (hn : n = if isAggD ti.desc then ti.size else 1) (hs : sub l off n = some m) (w : World) :
    ∃ ds : List Value, F2 (CR V ρ) m ds ∧ ds.length = n ∧ (part t cs off).run P w = .ok (if isAggD ti.desc then .agg ds.toArray else ds.headD undef) w := by
  obtain ⟨i, z, h1, h2, h3, h4, h5, h6, h7⟩ := zero_ok hE h ρ
  obtain ⟨g1, g2, g3⟩ := hc.sub hs
  refine ⟨_, g1, by rw [← g1.length, g2], ?_⟩
  unfold part
  simp only [Sem.run_bind, run_isAgg' w h7, Result.andThen_ok]
  cases hd : isAggD ti.desc
  · rw [hd] at hn
    simp only [Bool.false_eq_true, if_false] at hn ⊢
    subst hn
    have hlt : off < cs.size := by
      rcases g3 with g3 | g3
      · cases g3
      · rw [Array.length_toList] at g3
        omega
    have e : ((cs.toList.drop off).take 1).headD undef = cs[off] := by
      rw [List.drop_eq_getElem_cons (by simpa using hlt)]
      simp
    rw [e]
    simp [Array.getElem?_eq_getElem hlt]
  · rw [hd] at hn
    simp only [if_true] at hn ⊢
    subst hn
    simp only [sizeOf, typeInfo, Sem.run_bind, run_program, h1, Sem.run_pure, Result.andThen_ok, h2, Sem.run_map]
    congr 2
    apply Array.ext'
    simp [Array.toList_extract, List.extract]
theorem part1_ok (hE : EnvOK P V E) {t : Nat} {ti : TI} (h : E.ty t = some ti) {ρ : Rho} {l : List AC} {cs : Array Value} {off : Nat} {v : AV} (hc : F2 (CR V ρ) l cs.toList) (hs : part1 ti l off = some v) (w : World) :
    ∃ c, VR V ρ v c ∧ (part t cs off).run P w = .ok c w := by
  unfold part1 at hs
  cases hd : isAggD ti.desc
  · simp only [hd, cond_false] at hs
    split at hs
    · rename_i x hx
      injection hs with hs
      subst hs
      obtain ⟨ds, g1, g2, g3⟩ := part_ok hE h hc (by rw [hd]; rfl) hx w
      match ds, g1, g2 with
      | [u], g1, _ => exact ⟨u, g1.1, by rw [g3, hd]; rfl⟩
    · cases hs
  · simp only [hd, cond_true] at hs
    cases hx : sub l off ti.size with
    | none => simp [hx] at hs
    | some m =>
      simp only [hx, Option.some.injEq] at hs
      subst hs
      obtain ⟨ds, g1, g2, g3⟩ := part_ok hE h hc (by rw [hd]; rfl) hx w
      exact ⟨.agg ds.toArray, ⟨_, rfl, by simpa using g1⟩, by rw [g3, hd]; rfl⟩
/-- A value out of its cells. -/
noncomputable def ofCells (b : Bool) (ds : List Value) : Value := if b then .agg ds.toArray else ds.headD undef
theorem eqI_len {xs ys : List AC} {r : Bool} (h : eqI xs ys = some r) : xs.length = 1 := by
  unfold eqI at h
  split at h
  · rfl
  · rfl
  · rfl
  · cases h
theorem f2_single {α β : Type} {R : α → β → Prop} {x : α} : ∀ {cs : List β}, F2 R [x] cs → ∃ u, cs = [u] ∧ R x u
  | [u], h => ⟨u, rfl, h.1⟩
  | [], h => h.elim
  | _ :: _ :: _, h => h.2.elim
theorem eqI_tag {c j : Nat} {ρ : Rho} {u v : Value} (hx : CR V ρ (.tag c j) u) (hy : CR V ρ (.tag c j) v) : ∃ k a b, u = .int k a ∧ v = .int k b ∧ (a == b) = true := by
  obtain ⟨m, m1, _, m2⟩ := hx
  obtain ⟨m', m3, _, m4⟩ := hy
  have e : m = m' := Option.some.inj (m1.symm.trans m3)
  subst e
  exact ⟨tagK j, dgB m j, dgB m j, m2, m4, beq_self_eq_true _⟩
theorem eqI_nat {c m m' : Nat} {ρ : Rho} {u v : Value} (hx : CR V ρ (.nat c m) u) (hy : CR V ρ (.nat c m') v) : ∃ k a b, u = .int k a ∧ v = .int k b ∧ (a == b) = true := by
  obtain ⟨x, x1, _, x2⟩ := hx
  obtain ⟨y, y1, _, y2⟩ := hy
  have e : x = y := Option.some.inj (x1.symm.trans y1)
  subst e
  exact ⟨.i64, x, x, x2, y2, beq_self_eq_true _⟩
theorem eqI_ok {xs ys : List AC} {r : Bool} (h : eqI xs ys = some r) {ρ : Rho} {cs ds : List Value} (hx : F2 (CR V ρ) xs cs) (hy : F2 (CR V ρ) ys ds) : ∃ k a b, cs = [.int k a] ∧ ds = [.int k b] ∧ r = (a == b) := by
  unfold eqI at h
  split at h
  · rename_i k a k' b
    obtain ⟨u, rfl, hu⟩ := f2_single hx
    obtain ⟨v, rfl, hv⟩ := f2_single hy
    have e1 : u = .int k a := hu
    have e2 : v = .int k' b := hv
    split at h
    · rename_i hk
      subst hk
      injection h with h
      exact ⟨k, a, b, by rw [e1], by rw [e2], h.symm⟩
    · cases h
  · rename_i c j c' j'
    obtain ⟨u, rfl, hu⟩ := f2_single hx
    obtain ⟨v, rfl, hv⟩ := f2_single hy
    split at h
    · rename_i hcc
      obtain ⟨rfl, rfl⟩ := hcc
      injection h with h
      obtain ⟨k, a, b, e1, e2, e3⟩ := eqI_tag hu hv
      exact ⟨k, a, b, by rw [e1], by rw [e2], by rw [e3, ← h]⟩
    · cases h
  · rename_i c m c' m'
    obtain ⟨u, rfl, hu⟩ := f2_single hx
    obtain ⟨v, rfl, hv⟩ := f2_single hy
    split at h
    · rename_i hcc
      subst hcc
      injection h with h
      obtain ⟨k, a, b, e1, e2, e3⟩ := eqI_nat hu hv
      exact ⟨k, a, b, by rw [e1], by rw [e2], by rw [e3, ← h]⟩
    · cases h
  · cases h
theorem eq_all (hE : EnvOK P V E) (ρ : Rho) (w : World) : ∀ d : Nat,
    (∀ ty xs ys r, eqT E d ty xs ys = some r → ∀ D, d ≤ D → ∀ ti, E.ty ty = some ti → ∀ cs ds, F2 (CR V ρ) xs cs → F2 (CR V ρ) ys ds → (Op.equalIn D ty (ofCells (isAggD ti.desc) cs) (ofCells (isAggD ti.desc) ds)).run P w = .ok r w) ∧
    (∀ fs xs ys r, eqF E d fs xs ys = some r → ∀ D, d ≤ D → ∀ cs ds, F2 (CR V ρ) xs cs → F2 (CR V ρ) ys ds → (Op.eqFields D cs.toArray ds.toArray fs).run P w = .ok r w) ∧
    (∀ e n i xs ys r te, E.ty e = some te → eqN E d e te.size n i xs ys = some r → ∀ D, d ≤ D → ∀ cs ds, F2 (CR V ρ) xs cs → F2 (CR V ρ) ys ds → (eqElems D e te.size cs.toArray ds.toArray (List.range' i n 1)).run P w = .ok r w)
  | 0 => ⟨fun _ _ _ _ h => by simp [eqT] at h, fun _ _ _ _ h => by simp [eqF] at h, fun _ _ _ _ _ _ _ _ h => by simp [eqN] at h⟩
  | d + 1 => by
    obtain ⟨ih1, ih2, ih3⟩ := eq_all hE ρ w d
    refine ⟨?_, ?_, ?_⟩
    · intro ty xs ys r h D hD ti hti cs ds hx hy
      obtain ⟨i, z, h1, h2, h3, h4, h5, h6, h7, h8, h9⟩ := hE.ty ty ti hti
      simp only [eqT, hti] at h
      cases hq : ti.eqok
      · simp [hq] at h
      · obtain ⟨k1, k2⟩ := h9 hq
        simp only [hq, cond_true] at h
        obtain ⟨D', rfl⟩ : ∃ D', D = D' + 1 := ⟨D - 1, by omega⟩
        split at h
        · rename_i k hd
          rw [hd] at h8
          simp only [hd, isAggD, ofCells, Bool.false_eq_true, if_false]
          obtain ⟨k0, a, b, rfl, rfl, rfl⟩ := eqI_ok h hx hy
          simpa using run_equalIn_int w D' ty k0 k a b h8
        · rename_i hd
          rw [hd] at h8
          simp only [hd, isAggD, ofCells, Bool.false_eq_true, if_false]
          split at h
          · rename_i a b
            match cs, ds, hx, hy with
            | [u], [v], hx, hy =>
              have e1 : u = .bool a := hx.1
              have e2 : v = .bool b := hy.1
              subst e1; subst e2
              injection h with h
              subst h
              simpa using run_equalIn_bool' w D' ty a b h8
          · cases h
        · rename_i fs hd
          rw [hd] at h8
          simp only [hd, isAggD, ofCells, if_true]
          have hf : P.fieldsOf ty = fs := by simp [Program.fieldsOf, h8]
          rw [run_equalIn_struct w D' ty _ _ (by rw [hf]; exact h8) k1, hf]
          exact ih2 _ _ _ _ h D' (by omega) cs ds hx hy
        · rename_i n e hd
          rw [hd] at h8
          simp only [hd, isAggD, ofCells, if_true]
          cases hte : E.ty e with
          | none => simp [hte] at h
          | some te =>
            simp only [hte] at h
            obtain ⟨j, z', j1, j2, _⟩ := hE.ty e te hte
            rw [run_equalIn_array w D' ty n e j _ _ h8 j1, j2]
            exact ih3 e n 0 xs ys r te hte h D' (by omega) cs ds hx hy
        · cases h
    · intro fs xs ys r h D hD cs ds hx hy
      cases fs with
      | nil =>
        simp only [eqF, Option.some.injEq] at h
        subst h
        simp [Op.eqFields]
      | cons f fs =>
        simp only [eqF] at h
        split at h
        · cases h
        · rename_i hname
          cases hti : E.ty f.type with
          | none => simp [hti] at h
          | some tf =>
            simp only [hti] at h
            cases ha : sub xs f.offset tf.size with
            | none => simp [ha] at h
            | some a =>
              cases hb : sub ys f.offset tf.size with
              | none => simp [ha, hb] at h
              | some b =>
                simp only [ha, hb] at h
                cases hr : eqT E d f.type a b with
                | none => simp [hr] at h
                | some r1 =>
                  simp only [hr] at h
                  have hsz : isAggD tf.desc = false → tf.size = 1 := by
                    intro hd
                    cases d with
                    | zero => simp [eqT] at hr
                    | succ d =>
                      have la := (hx.sub ha).2.1
                      simp only [eqT, hti] at hr
                      cases hq : tf.eqok
                      · simp [hq] at hr
                      · simp only [hq, cond_true] at hr
                        split at hr
                        · have := eqI_len hr
                          omega
                        · split at hr
                          · simpa using la.symm
                          · cases hr
                        · rename_i hd'
                          rw [hd'] at hd
                          cases hd
                        · rename_i hd'
                          rw [hd'] at hd
                          cases hd
                        · cases hr
                  have hn : tf.size = if isAggD tf.desc then tf.size else 1 := by
                    cases hd : isAggD tf.desc
                    · exact hsz hd
                    · rfl
                  obtain ⟨us, p1, p2, p3⟩ := part_ok hE hti (cs := cs.toArray) (by simpa using hx) hn ha w
                  obtain ⟨vs, q1, q2, q3⟩ := part_ok hE hti (cs := ds.toArray) (by simpa using hy) hn hb w
                  have key := ih1 f.type a b r1 hr D (by omega) tf hti us vs p1 q1
                  simp only [ofCells] at key
                  have hname' : (f.name ≠ "_") := hname
                  simp only [Op.eqFields, if_pos hname', Sem.run_bind, p3, q3, Result.andThen_ok, key]
                  cases r1
                  · simp only [Option.some.injEq] at h
                    subst h
                    simp
                  · simp only at h
                    have := ih2 fs xs ys r h D (by omega) cs ds hx hy
                    simpa using this
    · intro e n i xs ys r te hte h D hD cs ds hx hy
      cases n with
      | zero =>
        simp only [eqN, Option.some.injEq] at h
        subst h
        simp [eqElems]
      | succ n =>
        simp only [eqN] at h
        cases ha : sub xs (i * te.size) te.size with
        | none => simp [ha] at h
        | some a =>
          cases hb : sub ys (i * te.size) te.size with
          | none => simp [ha, hb] at h
          | some b =>
            simp only [ha, hb] at h
            cases hr : eqT E d e a b with
            | none => simp [hr] at h
            | some r1 =>
              simp only [hr] at h
              have hsz : isAggD te.desc = false → te.size = 1 := by
                intro hd
                cases d with
                | zero => simp [eqT] at hr
                | succ d =>
                  have la := (hx.sub ha).2.1
                  simp only [eqT, hte] at hr
                  cases hq : te.eqok
                  · simp [hq] at hr
                  · simp only [hq, cond_true] at hr
                    split at hr
                    · have := eqI_len hr
                      omega
                    · split at hr
                      · simpa using la.symm
                      · cases hr
                    · rename_i hd'
                      rw [hd'] at hd
                      cases hd
                    · rename_i hd'
                      rw [hd'] at hd
                      cases hd
                    · cases hr
              have hn : te.size = if isAggD te.desc then te.size else 1 := by
                cases hd : isAggD te.desc
                · exact hsz hd
                · rfl
              obtain ⟨us, p1, p2, p3⟩ := part_ok hE hte (cs := cs.toArray) (by simpa using hx) hn ha w
              obtain ⟨vs, q1, q2, q3⟩ := part_ok hE hte (cs := ds.toArray) (by simpa using hy) hn hb w
              have key := ih1 e a b r1 hr D (by omega) te hte us vs p1 q1
              simp only [ofCells] at key
              rw [List.range'_succ]
              simp only [eqElems, Sem.run_bind, p3, q3, Result.andThen_ok, key]
              cases r1
              · simp only [Option.some.injEq] at h
                subst h
                simp
              · simp only at h
                have := ih3 e n (i + 1) xs ys r te hte h D (by omega) cs ds hx hy
                simpa using this
end
end Ab
end Go.Proofs.YtbfppnppijcnlaaGreat
namespace Go.Proofs.YtbfppnppijcnlaaGreat
namespace Ab
set_option linter.unusedVariables false
set_option linter.unusedSimpArgs false
section
variable {P : Program} {V : Nat → Value} {E : Env}
theorem pureV_ok {m : Sem Value} {v : AV} (h : pureV m = some v) (ρ : Rho) : ∃ c, m = .pure c ∧ VR V ρ v c := by
  unfold pureV at h
  split at h
  · injection h with h
    subst h
    exact ⟨_, rfl, rfl⟩
  · injection h with h
    subst h
    exact ⟨_, rfl, rfl⟩
  · cases h
theorem eqGuard_int (op : BinOp) (t : TypeId) (x y : Operand) (k k' : IntKind) (a b : Int) (w : World) : (eqGuard op t x y (.int k a) (.int k' b)).run P w = .ok () w := by
  cases op <;> simp [eqGuard]
theorem eqGuard_bool (op : BinOp) (t : TypeId) (x y : Operand) (a b : Bool) (w : World) : (eqGuard op t x y (.bool a) (.bool b)).run P w = .ok () w := by
  cases op <;> simp [eqGuard]
theorem eqGuard_slice (op : BinOp) (t : TypeId) (x y : Operand) (a b : Option Addr) (n m n' m' : Nat) (w : World) : (eqGuard op t x y (.slice a n m) (.slice b n' m')).run P w = .ok () w := by
  cases op <;> simp [eqGuard]
theorem notB_ok {op : BinOp} {b : Bool} {v : AV} (h : notB op (.one (.c (.bool b))) = some v) (ρ : Rho) : (op = .eql ∧ VR V ρ v (.bool b)) ∨ (op = .neq ∧ VR V ρ v (.bool !b)) := by
  cases op <;> simp [notB] at h <;> subst h
  · exact .inl ⟨rfl, rfl⟩
  · exact .inr ⟨rfl, rfl⟩
theorem run_equal (w : World) (t : TypeId) (x y : Value) (r : Bool) (h : (Op.equalIn (9999 + 1) t x y).run P w = .ok r w) : (Op.equal t x y).run P w = .ok r w := h
theorem run_eqB (w : World) (t : TypeId) (a b : Bool) (h : P.underlying t = some .bool) : (binOp .eql t (.bool a) (.bool b)).run P w = .ok (.bool (a == b)) w := by
  show ((do pure (Value.bool (← Op.equal t (.bool a) (.bool b))) : Sem Value)).run P w = _
  simp only [Sem.run_bind, run_equal w t _ _ _ (run_equalIn_bool' w 9999 t a b h), Result.andThen_ok, Sem.run_pure]
theorem run_neB (w : World) (t : TypeId) (a b : Bool) (h : P.underlying t = some .bool) : (binOp .neq t (.bool a) (.bool b)).run P w = .ok (.bool (!(a == b))) w := by
  show ((do pure (Value.bool (!(← Op.equal t (.bool a) (.bool b)))) : Sem Value)).run P w = _
  simp only [Sem.run_bind, run_equal w t _ _ _ (run_equalIn_bool' w 9999 t a b h), Result.andThen_ok, Sem.run_pure]
theorem run_inS (w : World) (d t e : Nat) (q : Option Addr) (n m n' m' : Nat) (h : P.underlying t = some (.slice e)) : (Op.equalIn (d + 1) t (.slice q n m) (.slice none n' m')).run P w = .ok q.isNone w := by
  cases q <;> simp [Op.equalIn, run_underlying h]
theorem run_eqS (w : World) (t e : Nat) (q : Option Addr) (n m n' m' : Nat) (h : P.underlying t = some (.slice e)) : (binOp .eql t (.slice q n m) (.slice none n' m')).run P w = .ok (.bool q.isNone) w := by
  show ((do pure (Value.bool (← Op.equal t (.slice q n m) (.slice none n' m'))) : Sem Value)).run P w = _
  simp only [Sem.run_bind, run_equal w t _ _ _ (run_inS w 9999 t e q n m n' m' h), Result.andThen_ok, Sem.run_pure]
theorem run_neS (w : World) (t e : Nat) (q : Option Addr) (n m n' m' : Nat) (h : P.underlying t = some (.slice e)) : (binOp .neq t (.slice q n m) (.slice none n' m')).run P w = .ok (.bool (!q.isNone)) w := by
  show ((do pure (Value.bool (!(← Op.equal t (.slice q n m) (.slice none n' m')))) : Sem Value)).run P w = _
  simp only [Sem.run_bind, run_equal w t _ _ _ (run_inS w 9999 t e q n m n' m' h), Result.andThen_ok, Sem.run_pure]
theorem eqGuard_str (op : BinOp) (t : TypeId) (x y : Operand) (a b : ByteArray) (w : World) : (eqGuard op t x y (.string a) (.string b)).run P w = .ok () w := by
  cases op <;> simp [eqGuard]
theorem numK_ok {ρ : Rho} {x : AC} {k : IntKind} {u : Value} (h : numK x = some k) (hx : CR V ρ x u) : ∃ n, u = .int k n := by
  cases x with
  | int k' n =>
    injection h with h
    subst h
    exact ⟨n, hx⟩
  | num k' =>
    injection h with h
    subst h
    exact hx
  | rng m =>
    injection h with h
    subst h
    obtain ⟨n, _, h⟩ := hx
    exact ⟨n, h⟩
  | ivl k' lo hi =>
    injection h with h
    subst h
    obtain ⟨n, _, _, h⟩ := hx
    exact ⟨n, h⟩
  | tag c i =>
    injection h with h
    subst h
    obtain ⟨m, _, _, h⟩ := hx
    exact ⟨dgB m i, h⟩
  | nat c m =>
    injection h with h
    subst h
    obtain ⟨x, _, _, h⟩ := hx
    exact ⟨x, h⟩
  | _ => cases h
theorem weakO_ok {op : BinOp} {k : IntKind} {z : AC} (h : weakO op k = some z) (ρ : Rho) (a b : Int) : ∃ c, CR V ρ z c ∧ ∀ xt, binOp op xt (.int k a) (.int k b) = .pure c := by
  have hkk : ¬ (k ≠ k) := fun h => h rfl
  cases op
  case shl => cases h
  case shr => cases h
  case quo => cases h
  case rem => cases h
  case add =>
    injection h with h
    subst h
    exact ⟨.int k (k.wrap (a + b)), ⟨_, rfl⟩, fun xt => by simp only [binOp, if_neg hkk]; rfl⟩
  case sub =>
    injection h with h
    subst h
    exact ⟨.int k (k.wrap (a - b)), ⟨_, rfl⟩, fun xt => by simp only [binOp, if_neg hkk]; rfl⟩
  case mul =>
    injection h with h
    subst h
    exact ⟨.int k (k.wrap (a * b)), ⟨_, rfl⟩, fun xt => by simp only [binOp, if_neg hkk]; rfl⟩
  case and =>
    injection h with h
    subst h
    exact ⟨.int k (k.wrap ((BitVec.ofInt k.bits a &&& BitVec.ofInt k.bits b).toNat : Nat)), ⟨_, rfl⟩, fun xt => by simp only [binOp, if_neg hkk]; rfl⟩
  case or =>
    injection h with h
    subst h
    exact ⟨.int k (k.wrap ((BitVec.ofInt k.bits a ||| BitVec.ofInt k.bits b).toNat : Nat)), ⟨_, rfl⟩, fun xt => by simp only [binOp, if_neg hkk]; rfl⟩
  case xor =>
    injection h with h
    subst h
    exact ⟨.int k (k.wrap ((BitVec.ofInt k.bits a ^^^ BitVec.ofInt k.bits b).toNat : Nat)), ⟨_, rfl⟩, fun xt => by simp only [binOp, if_neg hkk]; rfl⟩
  case andNot =>
    injection h with h
    subst h
    exact ⟨.int k (k.wrap ((BitVec.ofInt k.bits a &&& ~~~(BitVec.ofInt k.bits b)).toNat : Nat)), ⟨_, rfl⟩, fun xt => by simp only [binOp, if_neg hkk]; rfl⟩
  case eql =>
    injection h with h
    subst h
    exact ⟨.bool (a == b), ⟨_, rfl⟩, fun xt => by simp only [binOp, if_neg hkk]; rfl⟩
  case neq =>
    injection h with h
    subst h
    exact ⟨.bool (a != b), ⟨_, rfl⟩, fun xt => by simp only [binOp, if_neg hkk]; rfl⟩
  case lss =>
    injection h with h
    subst h
    exact ⟨.bool (decide (a < b)), ⟨_, rfl⟩, fun xt => by simp only [binOp, if_neg hkk]; rfl⟩
  case leq =>
    injection h with h
    subst h
    exact ⟨.bool (decide (a ≤ b)), ⟨_, rfl⟩, fun xt => by simp only [binOp, if_neg hkk]; rfl⟩
  case gtr =>
    injection h with h
    subst h
    exact ⟨.bool (decide (a > b)), ⟨_, rfl⟩, fun xt => by simp only [binOp, if_neg hkk]; rfl⟩
  case geq =>
    injection h with h
    subst h
    exact ⟨.bool (decide (a ≥ b)), ⟨_, rfl⟩, fun xt => by simp only [binOp, if_neg hkk]; rfl⟩
theorem cmpR_ok {op : BinOp} {m : Nat} {c : Int} {z : AC} (h : cmpR op m c = some z) (ρ : Rho) (n : Nat) (hn : n < m) : ∃ r, CR V ρ z r ∧ ∀ xt, binOp op xt (.int .i64 n) (.int .i64 c) = .pure r := by
  have hkk : ¬ (IntKind.i64 ≠ .i64) := fun h => h rfl
  have key : ∀ b : Bool, z = .bool b → (∀ xt, binOp op xt (.int .i64 n) (.int .i64 c) = .pure (.bool b)) → ∃ r, CR V ρ z r ∧ ∀ xt, binOp op xt (.int .i64 n) (.int .i64 c) = .pure r := by
    intro b hz hb
    subst hz
    exact ⟨_, rfl, hb⟩
  unfold cmpR at h
  cases op
  case eql =>
    simp only at h
    split at h
    · injection h with h
      refine key false h.symm fun xt => ?_
      have e : ((n : Int) == c) = false := by simp; omega
      have h0 : binOp .eql xt (.int .i64 n) (.int .i64 c) = .pure (.bool ((n : Int) == c)) := by simp only [binOp, if_neg hkk]; rfl
      rw [h0, e]
    · cases h
  case neq =>
    simp only at h
    split at h
    · injection h with h
      refine key true h.symm fun xt => ?_
      have e : ((n : Int) != c) = true := by simp; omega
      have h0 : binOp .neq xt (.int .i64 n) (.int .i64 c) = .pure (.bool ((n : Int) != c)) := by simp only [binOp, if_neg hkk]; rfl
      rw [h0, e]
    · cases h
  case lss =>
    have h0 : ∀ xt, binOp .lss xt (.int .i64 n) (.int .i64 c) = .pure (.bool (decide ((n : Int) < c))) := fun xt => by simp only [binOp, if_neg hkk]; rfl
    simp only at h
    split at h
    · injection h with h
      exact key true h.symm fun xt => by rw [h0, decide_eq_true (by omega)]
    · split at h
      · injection h with h
        exact key false h.symm fun xt => by rw [h0, decide_eq_false (by omega)]
      · cases h
  case geq =>
    have h0 : ∀ xt, binOp .geq xt (.int .i64 n) (.int .i64 c) = .pure (.bool (decide ((n : Int) ≥ c))) := fun xt => by simp only [binOp, if_neg hkk]; rfl
    simp only at h
    split at h
    · injection h with h
      exact key false h.symm fun xt => by rw [h0, decide_eq_false (by omega)]
    · split at h
      · injection h with h
        exact key true h.symm fun xt => by rw [h0, decide_eq_true (by omega)]
      · cases h
  case gtr =>
    have h0 : ∀ xt, binOp .gtr xt (.int .i64 n) (.int .i64 c) = .pure (.bool (decide ((n : Int) > c))) := fun xt => by simp only [binOp, if_neg hkk]; rfl
    simp only at h
    split at h
    · injection h with h
      exact key false h.symm fun xt => by rw [h0, decide_eq_false (by omega)]
    · split at h
      · injection h with h
        exact key true h.symm fun xt => by rw [h0, decide_eq_true (by omega)]
      · cases h
  case leq =>
    have h0 : ∀ xt, binOp .leq xt (.int .i64 n) (.int .i64 c) = .pure (.bool (decide ((n : Int) ≤ c))) := fun xt => by simp only [binOp, if_neg hkk]; rfl
    simp only at h
    split at h
    · injection h with h
      exact key true h.symm fun xt => by rw [h0, decide_eq_true (by omega)]
    · split at h
      · injection h with h
        exact key false h.symm fun xt => by rw [h0, decide_eq_false (by omega)]
      · cases h
  all_goals cases h
theorem weakR_ok {op : BinOp} {x y z : AC} (h : weakR op x y = some z) {ρ : Rho} {u u' : Value} (hx : CR V ρ x u) (hy : CR V ρ y u') : ∃ k n k' n' c, u = .int k n ∧ u' = .int k' n' ∧ CR V ρ z c ∧ ∀ xt, binOp op xt u u' = .pure c := by
  unfold weakR at h
  split at h
  · rename_i m c
    obtain ⟨n, hn, rfl⟩ := hx
    have hy : u' = .int .i64 c := hy
    subst hy
    obtain ⟨r, r1, r2⟩ := cmpR_ok (V := V) h ρ n hn
    exact ⟨_, _, _, _, r, rfl, rfl, r1, r2⟩
  · rename_i c0 m c
    obtain ⟨n, _, hn, rfl⟩ := hx
    have hy : u' = .int .i64 c := hy
    subst hy
    obtain ⟨r, r1, r2⟩ := cmpR_ok (V := V) h ρ n hn
    exact ⟨_, _, _, _, r, rfl, rfl, r1, r2⟩
  · rename_i a m b m'
    cases hb : Nat.beq a b
    · rw [hb] at h
      cases h
    · rw [hb] at h
      simp only [cond_true] at h
      have e := Nat.eq_of_beq_eq_true hb
      subst e
      obtain ⟨x, x1, _, rfl⟩ := hx
      obtain ⟨y, y1, _, rfl⟩ := hy
      rw [x1] at y1
      injection y1 with y1
      subst y1
      have hkk : ¬ (IntKind.i64 ≠ .i64) := fun h => h rfl
      have key : ∀ r : Bool, z = .bool r → (∀ xt, binOp op xt (.int .i64 (x : Int)) (.int .i64 (x : Int)) = .pure (.bool r)) → ∃ k n k' n' c, Value.int .i64 (x : Int) = .int k n ∧ Value.int .i64 (x : Int) = .int k' n' ∧ CR V ρ z c ∧ ∀ xt, binOp op xt (.int .i64 (x : Int)) (.int .i64 (x : Int)) = .pure c := fun r hz hb => by
        subst hz
        exact ⟨_, _, _, _, .bool r, rfl, rfl, rfl, hb⟩
      unfold eqR at h
      split at h
      · injection h with h
        exact key true h.symm fun xt => by
          have h0 : binOp .eql xt (.int .i64 (x : Int)) (.int .i64 (x : Int)) = .pure (.bool ((x : Int) == x)) := by simp only [binOp, if_neg hkk]; rfl
          rw [h0]; simp
      · injection h with h
        exact key false h.symm fun xt => by
          have h0 : binOp .neq xt (.int .i64 (x : Int)) (.int .i64 (x : Int)) = .pure (.bool ((x : Int) != x)) := by simp only [binOp, if_neg hkk]; rfl
          rw [h0]; simp
      · injection h with h
        exact key false h.symm fun xt => by
          have h0 : binOp .lss xt (.int .i64 (x : Int)) (.int .i64 (x : Int)) = .pure (.bool (decide ((x : Int) < x))) := by simp only [binOp, if_neg hkk]; rfl
          rw [h0]; simp
      · injection h with h
        exact key false h.symm fun xt => by
          have h0 : binOp .gtr xt (.int .i64 (x : Int)) (.int .i64 (x : Int)) = .pure (.bool (decide ((x : Int) > x))) := by simp only [binOp, if_neg hkk]; rfl
          rw [h0]; simp
      · injection h with h
        exact key true h.symm fun xt => by
          have h0 : binOp .leq xt (.int .i64 (x : Int)) (.int .i64 (x : Int)) = .pure (.bool (decide ((x : Int) ≤ x))) := by simp only [binOp, if_neg hkk]; rfl
          rw [h0]; simp
      · injection h with h
        exact key true h.symm fun xt => by
          have h0 : binOp .geq xt (.int .i64 (x : Int)) (.int .i64 (x : Int)) = .pure (.bool (decide ((x : Int) ≥ x))) := by simp only [binOp, if_neg hkk]; rfl
          rw [h0]; simp
      · cases h
  · cases h
theorem toIvl_ok {x : AC} {a b : Int} (h : toIvl x = some (a, b)) {ρ : Rho} {u : Value} (hx : CR V ρ x u) : ∃ n : Int, a ≤ n ∧ n ≤ b ∧ u = .int .i64 n := by
  unfold toIvl at h
  split at h
  · simp only [Option.some.injEq, Prod.mk.injEq] at h
    obtain ⟨rfl, rfl⟩ := h
    exact ⟨_, Int.le_refl _, Int.le_refl _, hx⟩
  · simp only [Option.some.injEq, Prod.mk.injEq] at h
    obtain ⟨rfl, rfl⟩ := h
    obtain ⟨n, h1, h2⟩ := hx
    exact ⟨n, by omega, by omega, h2⟩
  · simp only [Option.some.injEq, Prod.mk.injEq] at h
    obtain ⟨rfl, rfl⟩ := h
    obtain ⟨n, _, h1, h2⟩ := hx
    exact ⟨n, by omega, by omega, h2⟩
  · simp only [Option.some.injEq, Prod.mk.injEq] at h
    obtain ⟨rfl, rfl⟩ := h
    exact hx
  · cases h
theorem ivlB_ok {op : BinOp} {x y z : AC} (h : ivlB op x y = some z) {ρ : Rho} {u u' : Value} (hx : CR V ρ x u) (hy : CR V ρ y u') : ∃ k n k' n' c, u = .int k n ∧ u' = .int k' n' ∧ CR V ρ z c ∧ ∀ xt, binOp op xt u u' = .pure c := by
  have hkk : ¬ (IntKind.i64 ≠ .i64) := fun h => h rfl
  unfold ivlB at h
  split at h
  · rename_i a b c d h1 h2
    obtain ⟨m, m1, m2, rfl⟩ := toIvl_ok h1 hx
    obtain ⟨n, n1, n2, rfl⟩ := toIvl_ok h2 hy
    split at h
    · split at h
      · rename_i hb
        injection h with h
        subst h
        exact ⟨_, _, _, _, .int .i64 (IntKind.i64.wrap (m + n)), rfl, rfl, ⟨m + n, by omega, by omega, by rw [IntWalk.i64_in _ (by omega)]⟩, fun xt => by simp only [binOp, if_neg hkk]; rfl⟩
      · cases h
    · split at h
      · rename_i hb
        injection h with h
        subst h
        exact ⟨_, _, _, _, .int .i64 (IntKind.i64.wrap (m - n)), rfl, rfl, ⟨m - n, by omega, by omega, by rw [IntWalk.i64_in _ (by omega)]⟩, fun xt => by simp only [binOp, if_neg hkk]; rfl⟩
      · cases h
    · split at h
      · rename_i hb
        injection h with h
        subst h
        have e1 : a * c ≤ m * n := Int.mul_le_mul m1 n1 hb.2.1 (by omega)
        have e2 : m * n ≤ b * d := Int.mul_le_mul m2 n2 (by omega) (by omega)
        have e3 : 0 ≤ a * c := Int.mul_nonneg hb.1 hb.2.1
        exact ⟨_, _, _, _, .int .i64 (IntKind.i64.wrap (m * n)), rfl, rfl, ⟨m * n, e1, e2, by rw [IntWalk.i64_in _ (by omega)]⟩, fun xt => by simp only [binOp, if_neg hkk]; rfl⟩
      · cases h
    · cases h
  · cases h
theorem weakRI_ok {op : BinOp} {x y z : AC} (h : weakRI op x y = some z) {ρ : Rho} {u u' : Value} (hx : CR V ρ x u) (hy : CR V ρ y u') : ∃ k n k' n' c, u = .int k n ∧ u' = .int k' n' ∧ CR V ρ z c ∧ ∀ xt, binOp op xt u u' = .pure c := by
  unfold weakRI at h
  split at h
  · rename_i z' hR
    injection h with h
    subst h
    exact weakR_ok hR hx hy
  · exact ivlB_ok h hx hy
theorem weak_ok {op : BinOp} {x y z : AC} (h : weakB op x y = some z) {ρ : Rho} {u u' : Value} (hx : CR V ρ x u) (hy : CR V ρ y u') : ∃ k n k' n' c, u = .int k n ∧ u' = .int k' n' ∧ CR V ρ z c ∧ ∀ xt, binOp op xt u u' = .pure c := by
  unfold weakB at h
  cases hR : weakRI op x y with
  | some z' =>
    rw [hR] at h
    injection h with h
    subst h
    exact weakRI_ok hR hx hy
  | none =>
  rw [hR] at h
  simp only at h
  cases hs : isShift op
  · rw [hs] at h
    simp only [cond_false] at h
    split at h
    · rename_i k k' hk hk'
      split at h
      · rename_i e
        subst e
        obtain ⟨a, rfl⟩ := numK_ok hk hx
        obtain ⟨b, rfl⟩ := numK_ok hk' hy
        obtain ⟨c, c1, c2⟩ := weakO_ok (V := V) h ρ a b
        exact ⟨k, a, k, b, c, rfl, rfl, c1, c2⟩
      · cases h
    · cases h
  · rw [hs] at h
    simp only [cond_true] at h
    split at h
    · rename_i k k' n hk
      split at h
      · rename_i h0
        injection h with h
        subst h
        obtain ⟨a, rfl⟩ := numK_ok hk hx
        have hy : u' = .int k' n := hy
        subst hy
        have hn : ¬ (n < 0) := by omega
        cases op
        case shl => exact ⟨k, a, k', n, .int k (k.wrap (a * 2 ^ (min n.toNat k.bits))), rfl, rfl, ⟨_, rfl⟩, fun xt => by simp only [binOp, Op.shift, if_neg hn]; rfl⟩
        case shr => exact ⟨k, a, k', n, .int k (a.fdiv (2 ^ (min n.toNat k.bits))), rfl, rfl, ⟨_, rfl⟩, fun xt => by simp only [binOp, Op.shift, if_neg hn]; rfl⟩
        all_goals cases hs
      · cases h
    · cases h
theorem bin_ok (hE : EnvOK P V E) {op : BinOp} {xt : Nat} {x y v : AV} (h : binA E op xt x y = some v) {ρ : Rho} {u u' : Value} (hx : VR V ρ x u) (hy : VR V ρ y u') (w : World) (X Y : Operand) :
    ∃ c, (do eqGuard op xt X Y u u'; binOp op xt u u' : Sem Value).run P w = .ok c w ∧ VR V ρ v c := by
  unfold binA at h
  split at h
  · rename_i k a k' b
    have e1 : u = .int k a := hx
    have e2 : u' = .int k' b := hy
    subst e1; subst e2
    obtain ⟨c, h1, h2⟩ := pureV_ok (V := V) h ρ
    exact ⟨c, by simp only [Sem.run_bind, eqGuard_int, Result.andThen_ok, h1]; rfl, h2⟩
  · rename_i a b
    have e1 : u = .bool a := hx
    have e2 : u' = .bool b := hy
    subst e1; subst e2
    cases hti : E.ty xt with
    | none => simp [hti] at h
    | some ti =>
      simp only [hti] at h
      obtain ⟨i, z, h1, h2, h3, h4, h5, h6, h7⟩ := zero_ok hE hti ρ
      split at h
      · rename_i hd
        rw [hd] at h7
        rcases notB_ok (V := V) h ρ with ⟨rfl, hv⟩ | ⟨rfl, hv⟩
        · exact ⟨_, by simp only [Sem.run_bind, eqGuard_bool, Result.andThen_ok, run_eqB w xt _ _ h7], hv⟩
        · exact ⟨_, by simp only [Sem.run_bind, eqGuard_bool, Result.andThen_ok, run_neB w xt _ _ h7], hv⟩
      · cases h
  · rename_i p n c n' c'
    obtain ⟨m', g1, g2, rfl⟩ := hy
    have hu : ∃ q m, u = .slice q n m ∧ q.isNone = p.isNone := by
      cases p with
      | none =>
        obtain ⟨m, g1, g2, rfl⟩ := hx
        exact ⟨none, m, rfl, rfl⟩
      | some p =>
        obtain ⟨b, m, g0, g1, g2, rfl⟩ := hx
        exact ⟨_, m, rfl, rfl⟩
    obtain ⟨q, m, rfl, hq⟩ := hu
    cases hti : E.ty xt with
    | none => simp [hti] at h
    | some ti =>
      simp only [hti] at h
      obtain ⟨i, z, h1, h2, h3, h4, h5, h6, h7⟩ := zero_ok hE hti ρ
      split at h
      · rename_i e hd
        rw [hd] at h7
        rw [← hq] at h
        rcases notB_ok (V := V) h ρ with ⟨rfl, hv⟩ | ⟨rfl, hv⟩
        · exact ⟨_, by simp only [Sem.run_bind, eqGuard_slice, Result.andThen_ok, run_eqS w xt e q n m n' m' h7], hv⟩
        · exact ⟨_, by simp only [Sem.run_bind, eqGuard_slice, Result.andThen_ok, run_neS w xt e q n m n' m' h7], hv⟩
      · cases h
  · rename_i n' c'
    obtain ⟨m', g1, g2, rfl⟩ := hy
    obtain ⟨q, m, rfl⟩ := hx
    cases hti : E.ty xt with
    | none => simp [hti] at h
    | some ti =>
      simp only [hti] at h
      obtain ⟨i, z, h1, h2, h3, h4, h5, h6, h7⟩ := zero_ok hE hti ρ
      split at h
      · rename_i e hd
        rw [hd] at h7
        rcases notB_ok (V := V) h ρ with ⟨rfl, hv⟩ | ⟨rfl, hv⟩
        · exact ⟨_, by simp only [Sem.run_bind, eqGuard_slice, Result.andThen_ok, run_eqS w xt e (some q) 0 m n' m' h7]; rfl, hv⟩
        · exact ⟨_, by simp only [Sem.run_bind, eqGuard_slice, Result.andThen_ok, run_neS w xt e (some q) 0 m n' m' h7]; rfl, hv⟩
      · cases h
  · rename_i a b
    obtain ⟨cs, rfl, h1⟩ := hx
    obtain ⟨ds, rfl, h2⟩ := hy
    cases hti : E.ty xt with
    | none => simp [hti] at h
    | some ti =>
      simp only [hti] at h
      cases hd : isAggD ti.desc
      · simp [hd] at h
      · simp only [hd, cond_true] at h
        obtain ⟨i, z, k1, k2, k3, k4, k5, k6, k7, k8, k9⟩ := hE.ty xt ti hti
        cases hq : eqT E 40 xt a b with
        | none => simp [hq] at h
        | some r =>
        simp only [hq] at h
        have hok : ti.eqok = true := by
          simp only [eqT, hti] at hq
          cases hb : ti.eqok
          · simp [hb] at hq
          · rfl
        have key := (eq_all hE ρ w 40).1 xt a b r hq 10000 (by omega) ti hti cs.toList ds.toList h1 h2
        simp only [ofCells, hd, if_true, Array.toArray_toList] at key
        have hgd := run_eqGuard_agg (P := P) w op xt X Y cs ds (k9 hok).2
        rcases notB_ok (V := V) h ρ with ⟨rfl, hv⟩ | ⟨rfl, hv⟩
        · exact ⟨_, by simp only [Sem.run_bind, hgd, Result.andThen_ok, run_eql_struct, key], hv⟩
        · exact ⟨_, by simp only [Sem.run_bind, hgd, Result.andThen_ok, run_neq_struct, key], hv⟩
  · rename_i a b
    have e1 : u = .string a := hx
    have e2 : u' = .string b := hy
    subst e1; subst e2
    obtain ⟨c, h1, h2⟩ := pureV_ok (V := V) h ρ
    exact ⟨c, by simp only [Sem.run_bind, eqGuard_str, Result.andThen_ok, h1]; rfl, h2⟩
  · rename_i a b _ _ _ _ _
    cases hq : E.tab op a b with
    | none =>
      simp only [hq] at h
      cases hw : weakB op a b with
      | none => simp [hw] at h
      | some z =>
        simp only [hw, Option.some.injEq] at h
        subst h
        obtain ⟨k, n, k', n', c, rfl, rfl, h3, h4⟩ := weak_ok hw hx hy
        exact ⟨c, by simp only [Sem.run_bind, eqGuard_int, Result.andThen_ok, h4 xt]; rfl, h3⟩
    | some z =>
      simp only [hq, Option.some.injEq] at h
      subst h
      obtain ⟨k, n, k', n', c, rfl, rfl, h3, h4⟩ := hE.tab op a b z hq ρ u u' hx hy
      exact ⟨c, by simp only [Sem.run_bind, eqGuard_int, Result.andThen_ok, h4 xt]; rfl, h3⟩
  · cases h
theorem op_bin (hE : EnvOK P V E) {t : Sl} {s : St} {o : Oper} {op : BinOp} {xt yt : Nat} {x y : Operand} {v : AV} (ho : o.op = .binOp op xt x y yt) (h : binA E op xt (eval t x) (eval t y) = some v) : OpOK P V t s o v s := by
  refine op_pure fun ρ a w ht hr => ?_
  obtain ⟨c, h1, h2⟩ := bin_ok hE h (eval_ok ht x) (eval_ok ht y) w x y
  refine ⟨c, ?_, h2⟩
  simp only [Sem.run_bind] at h1
  simp only [execOp, ho, Sem.run_bind, h1, Result.andThen_ok, Sem.run_pure]
theorem op_un {t : Sl} {s : St} {o : Oper} {op : UnOp} {xt : Nat} {x : Operand} {v : AV} (ho : o.op = .unOp op xt x) (h : unA op (eval t x) = some v) : OpOK P V t s o v s := by
  refine op_pure fun ρ a w ht hr => ?_
  have hx := eval_ok ht x
  unfold unA at h
  split at h
  · rename_i k n he
    rw [he] at hx
    have hx : a.eval x = .int k n := hx
    obtain ⟨c, h1, h2⟩ := pureV_ok (V := V) h ρ
    exact ⟨c, by simp only [execOp, ho, hx, h1, Sem.run_bind, Sem.run_pure', Result.andThen_ok, Sem.run_pure], h2⟩
  · rename_i b he
    rw [he] at hx
    have hx : a.eval x = .bool b := hx
    obtain ⟨c, h1, h2⟩ := pureV_ok (V := V) h ρ
    exact ⟨c, by simp only [execOp, ho, hx, h1, Sem.run_bind, Sem.run_pure', Result.andThen_ok, Sem.run_pure], h2⟩
  · rename_i he
    rw [he] at hx
    obtain ⟨b, hb⟩ := hx
    have hx : a.eval x = .bool b := hb
    split at h
    · injection h with h
      subst h
      have h1 : Op.unary .not (.bool b) = .pure (.bool !b) := rfl
      exact ⟨.bool !b, by simp only [execOp, ho, hx, h1, Sem.run_bind, Sem.run_pure', Result.andThen_ok, Sem.run_pure], ⟨_, rfl⟩⟩
    · cases h
  · cases h
theorem op_cvt (hE : EnvOK P V E) {t : Sl} {s : St} {o : Oper} {sr ds : Nat} {x : Operand} {v : AV} (ho : o.op = .convert sr ds x) (h : cvA E sr ds (eval t x) = some v) : OpOK P V t s o v s := by
  refine op_pure fun ρ a w ht hr => ?_
  have hx := eval_ok ht x
  unfold cvA at h
  split at h
  · rename_i ti tj k n hti htj he
    rw [he] at hx
    have hx : a.eval x = .int k n := hx
    obtain ⟨i, z, h1, h2, h3, h4, h5, h6, h7⟩ := zero_ok hE hti ρ
    obtain ⟨i', z', h1', h2', h3', h4', h5', h6', h7'⟩ := zero_ok hE htj ρ
    split at h
    · rename_i k' hd
      rw [hd] at h7'
      obtain ⟨c, g1, g2⟩ := pureV_ok (V := V) h ρ
      refine ⟨c, ?_, g2⟩
      simp only [execOp, ho, hx, convert, Sem.run_bind, run_underlying h7, run_underlying h7', Result.andThen_ok]
      cases ti.desc <;> simp [g1]
    · cases h
  · rename_i ti tj j hti htj he
    rw [he] at hx
    have hx : a.eval x = V j := hx
    obtain ⟨i, z, h1, h2, h3, h4, h5, h6, h7⟩ := zero_ok hE hti ρ
    obtain ⟨i', z', h1', h2', h3', h4', h5', h6', h7'⟩ := zero_ok hE htj ρ
    split at h
    · rename_i k' hd
      rw [hd] at h7'
      cases hc : E.cvt k' (.sym j) with
      | none => simp [hc] at h
      | some y =>
        simp only [hc, Option.some.injEq] at h
        subst h
        obtain ⟨k, n, g1, g2⟩ := hE.cvt k' j y hc ρ
        refine ⟨_, ?_, g2⟩
        simp only [execOp, ho, hx, g1, convert, Sem.run_bind, run_underlying h7, run_underlying h7', Result.andThen_ok]
        cases ti.desc <;> simp [Conv.intToInt]
    · cases h
  · rename_i ti tj kk hti htj he
    rw [he] at hx
    obtain ⟨n, hn⟩ := hx
    have hx : a.eval x = .int kk n := hn
    obtain ⟨i, z, h1, h2, h3, h4, h5, h6, h7⟩ := zero_ok hE hti ρ
    obtain ⟨i', z', h1', h2', h3', h4', h5', h6', h7'⟩ := zero_ok hE htj ρ
    split at h
    · rename_i k' hd
      rw [hd] at h7'
      injection h with h
      subst h
      refine ⟨_, ?_, ⟨k'.wrap n, rfl⟩⟩
      simp only [execOp, ho, hx, convert, Sem.run_bind, run_underlying h7, run_underlying h7', Result.andThen_ok]
      cases ti.desc <;> simp [Conv.intToInt]
    · cases h
  · rename_i ti tj kk lo hi hti htj he
    rw [he] at hx
    obtain ⟨n, n1, n2, hn⟩ := hx
    have hx : a.eval x = .int kk n := hn
    obtain ⟨i, z, h1, h2, h3, h4, h5, h6, h7⟩ := zero_ok hE hti ρ
    obtain ⟨i', z', h1', h2', h3', h4', h5', h6', h7'⟩ := zero_ok hE htj ρ
    split at h
    · rename_i hd
      rw [hd] at h7'
      split at h
      · rename_i hb
        injection h with h
        subst h
        refine ⟨.int .u64 (IntKind.u64.wrap n), ?_, ⟨n, n1, n2, by rw [IntWalk.u64_in _ (by omega)]⟩⟩
        simp only [execOp, ho, hx, convert, Sem.run_bind, run_underlying h7, run_underlying h7', Result.andThen_ok]
        cases ti.desc <;> simp [Conv.intToInt]
      · cases h
    · cases h
  · cases h
theorem op_nil {t : Sl} {s : St} {o : Oper} {x : Operand} {p : Nat × Nat} (ho : o.op = .nilCheck x) (h : eval t x = .one (.c (.ptr (some p)))) : OpOK P V t s o (.one (.c (.ptr (some p)))) s := by
  refine op_pure fun ρ a w ht hr => ?_
  have hx := eval_ok ht x
  rw [h] at hx
  refine ⟨a.eval x, ?_, hx⟩
  obtain ⟨i, off⟩ := p
  obtain ⟨b, h1, h2⟩ := hx
  simp [execOp, ho, h2]
theorem acs_ok {ρ : Rho} : ∀ {l : List AV} {m : List AC} {cs : List Value}, acs l = some m → F2 (VR V ρ) l cs → F2 (CR V ρ) m cs
  | [], m, [], h, _ => by
    simp only [acs, Option.some.injEq] at h
    subst h
    trivial
  | .one (.c x) :: l, m, c :: cs, h, hc => by
    simp only [acs] at h
    cases hl : acs l with
    | none => simp [hl] at h
    | some k =>
      simp only [hl, Option.some.injEq] at h
      subst h
      exact ⟨hc.1, acs_ok hl hc.2⟩
  | .any :: _, _, _, h, _ => by simp [acs] at h
  | .undef :: _, _, _, h, _ => by simp [acs] at h
  | .tup _ :: _, _, _, h, _ => by simp [acs] at h
  | .fn _ _ :: _, _, _, h, _ => by simp [acs] at h
  | .one (.agg _) :: _, _, _, h, _ => by simp [acs] at h
  | [], _, _ :: _, _, h => h.elim
  | _ :: _, _, [], _, h => h.elim
theorem op_func {t : Sl} {s : St} {o : Oper} {f : Nat} {first captured : Array Operand} {l : List AC} (ho : o.op = .makeFunc (.func f) first captured) (h1 : first.toList = []) (h2 : acs (evals t captured.toList) = some l) : OpOK P V t s o (.fn f l) s := by
  refine op_pure fun ρ a w ht hr => ?_
  have hc := acs_ok h2 (evals_ok ht captured.toList)
  have hf : first = #[] := by
    apply Array.ext'
    simpa using h1
  refine ⟨.func (.func f) #[] (captured.map a.eval), ?_, _, rfl, by simpa using hc⟩
  simp [execOp, ho, Instr.makeFunc, hf]
theorem op_fieldAddr (hE : EnvOK P V E) {t : Sl} {s : St} {o : Oper} {st f : Nat} {x : Operand} {v : AV} (ho : o.op = .fieldAddr st x f) (h : fieldAddrA E st (eval t x) f = some v) : OpOK P V t s o v s := by
  refine op_pure fun ρ a w ht hr => ?_
  have hx := eval_ok ht x
  unfold fieldAddrA at h
  split at h
  · rename_i ti i off hti he
    rw [he] at hx
    obtain ⟨b, hb, hx⟩ := hx
    obtain ⟨ii, z, h1, h2, h3, h4, h5, h6, h7⟩ := zero_ok hE hti ρ
    split at h
    · rename_i fs hd
      rw [hd] at h7
      cases hf : fs[f]? with
      | none => simp [hf] at h
      | some fd =>
        simp only [hf] at h
        cases htf : E.ty fd.type with
        | none => simp [htf] at h
        | some tf =>
          simp only [htf] at h
          obtain ⟨jj, z', j1, j2, _⟩ := zero_ok hE htf ρ
          cases hz : Nat.beq tf.size 0
          · simp only [hz, cond_false, Option.some.injEq] at h
            subst h
            have hz0 : ¬ tf.size = 0 := by
              intro e
              rw [e] at hz
              cases hz
            have hadd : (⟨b, off, none⟩ : Addr).add fd.offset = ⟨b, off + fd.offset, none⟩ := by unfold Addr.add; split <;> simp_all
            refine ⟨.pointer (some ⟨b, off + fd.offset, none⟩), ?_, b, hb, rfl⟩
            simp [execOp, ho, hx, Instr.fieldAt, run_underlying h7, hf, Instr.sureAddr, fieldPlace, sizeOf, typeInfo, j1, j2, hz0, hadd]
          · simp [hz] at h
    · cases h
  · cases h
theorem op_field (hE : EnvOK P V E) {t : Sl} {s : St} {o : Oper} {st f : Nat} {x : Operand} {v : AV} (ho : o.op = .field st x f) (h : fieldA E st (eval t x) f = some v) : OpOK P V t s o v s := by
  refine op_pure fun ρ a w ht hr => ?_
  have hx := eval_ok ht x
  unfold fieldA at h
  split at h
  · rename_i ti l hti he
    rw [he] at hx
    obtain ⟨cs, hx, hc⟩ := hx
    obtain ⟨ii, z, h1, h2, h3, h4, h5, h6, h7⟩ := zero_ok hE hti ρ
    split at h
    · rename_i fs hd
      rw [hd] at h7
      cases hf : fs[f]? with
      | none => simp [hf] at h
      | some fd =>
        simp only [hf] at h
        cases htf : E.ty fd.type with
        | none => simp [htf] at h
        | some tf =>
          simp only [htf] at h
          obtain ⟨c, g1, g2⟩ := part1_ok hE htf hc h w
          refine ⟨c, ?_, g1⟩
          simp [execOp, ho, hx, Instr.field, run_underlying h7, hf, asAgg, g2]
    · cases h
  · cases h
theorem litInt_ok {ρ : Rho} {x : AV} {u : Value} {n : Int} (h : litInt x = some n) (hx : VR V ρ x u) : ∃ k, u = .int k n := by
  unfold litInt at h
  split at h
  · injection h with h
    subst h
    exact ⟨_, hx⟩
  · cases h
theorem op_indexAddr (hE : EnvOK P V E) {t : Sl} {s : St} {o : Oper} {ty : Nat} {x ix : Operand} {v : AV} (ho : o.op = .indexAddr ty x ix) (h : indexAddrA E ty (eval t x) (eval t ix) = some v) : OpOK P V t s o v s := by
  refine op_pure fun ρ a w ht hr => ?_
  have hx := eval_ok ht x
  unfold indexAddrA at h
  split at h
  · rename_i ti n hti hn
    obtain ⟨k, hix⟩ := litInt_ok hn (eval_ok ht ix)
    obtain ⟨ii, z, h1, h2, h3, h4, h5, h6, h7⟩ := zero_ok hE hti ρ
    have hadd : ∀ b off m, (⟨b, off, none⟩ : Addr).add m = ⟨b, off + m, none⟩ := by
      intro b off m
      unfold Addr.add
      split <;> simp_all
    split at h
    · rename_i e i off len cap hd he
      rw [he] at hx
      rw [hd] at h7
      obtain ⟨b, m, hb, _, _, hx⟩ := hx
      cases hte : E.ty e with
      | none => simp [hte] at h
      | some te =>
        simp only [hte] at h
        obtain ⟨jj, z', j1, j2, _⟩ := zero_ok hE hte ρ
        split at h
        · rename_i hin
          injection h with h
          subst h
          refine ⟨.pointer (some ⟨b, off + n.toNat * te.size, none⟩), ?_, b, hb, rfl⟩
          simp [execOp, ho, hx, hix, Instr.indexAt, asIntOf, run_underlying h7, sizeOf, typeInfo, j1, j2, hin, hadd]
        · cases h
    · rename_i len e i off hd he
      rw [he] at hx
      rw [hd] at h7
      obtain ⟨b, hb, hx⟩ := hx
      cases hte : E.ty e with
      | none => simp [hte] at h
      | some te =>
        simp only [hte] at h
        obtain ⟨jj, z', j1, j2, _⟩ := zero_ok hE hte ρ
        split at h
        · rename_i hin
          injection h with h
          subst h
          refine ⟨.pointer (some ⟨b, off + n.toNat * te.size, none⟩), ?_, b, hb, rfl⟩
          simp [execOp, ho, hx, hix, Instr.indexAt, asIntOf, run_underlying h7, sizeOf, typeInfo, j1, j2, hin, hadd, Instr.sureAddr]
        · cases h
    · cases h
  · cases h
theorem op_index (hE : EnvOK P V E) {t : Sl} {s : St} {o : Oper} {ty : Nat} {x ix : Operand} {v : AV} (ho : o.op = .index ty x ix) (h : indexA E ty (eval t x) (eval t ix) = some v) : OpOK P V t s o v s := by
  refine op_pure fun ρ a w ht hr => ?_
  have hx := eval_ok ht x
  unfold indexA at h
  split at h
  · rename_i ti n hti hn
    obtain ⟨k, hix⟩ := litInt_ok hn (eval_ok ht ix)
    obtain ⟨ii, z, h1, h2, h3, h4, h5, h6, h7⟩ := zero_ok hE hti ρ
    split at h
    · rename_i len e l hd he
      rw [he] at hx
      rw [hd] at h7
      obtain ⟨cs, hx, hc⟩ := hx
      cases hte : E.ty e with
      | none => simp [hte] at h
      | some te =>
        simp only [hte] at h
        obtain ⟨jj, z', j1, j2, _⟩ := zero_ok hE hte ρ
        split at h
        · rename_i hin
          obtain ⟨c, g1, g2⟩ := part1_ok hE hte hc h w
          refine ⟨c, ?_, g1⟩
          simp [execOp, ho, hx, hix, Instr.index, asIntOf, run_underlying h7, sizeOf, typeInfo, j1, j2, hin, g2]
        · cases h
    · rename_i y hd he
      rw [he] at hx
      rw [hd] at h7
      have hx : a.eval x = .string y := hx
      split at h
      · rename_i b hb
        injection h with h
        subst h
        refine ⟨.int .u8 b.toNat, ?_, rfl⟩
        simp [execOp, ho, hx, hix, Instr.index, asIntOf, run_underlying h7, hb]
      · cases h
    · cases h
  · cases h
theorem op_extract {t : Sl} {s : St} {o : Oper} {x : Operand} {i : Nat} {l : List A1} {v : A1} (ho : o.op = .extract x i) (h : eval t x = .tup l) (hv : l[i]? = some v) : OpOK P V t s o (.one v) s := by
  refine op_pure fun ρ a w ht hr => ?_
  have hx := eval_ok ht x
  rw [h] at hx
  obtain ⟨vs, hx, hc⟩ := hx
  obtain ⟨c, g1, g2⟩ := hc.get i v hv
  refine ⟨c, ?_, g2⟩
  rw [Array.getElem?_toList] at g1
  simp [execOp, ho, hx, Instr.extract, g1]
theorem op_len (hE : EnvOK P V E) {t : Sl} {s : St} {o : Oper} {c : Call} {x : AV} {v : AV} (ho : o.op = .call c) (hc : c.callee = .builtin .len) (hx : evals t c.args.toList = [x]) (h : lenA E c.argTypes x = some v) : OpOK P V t s o v s := by
  refine op_pure fun ρ a w ht hr => ?_
  have he := evals_ok ht c.args.toList
  rw [hx] at he
  obtain ⟨u, hu, hx1⟩ : ∃ u, c.args.map a.eval = #[u] ∧ VR V ρ x u := by
    match hl : c.args.toList.map a.eval, he with
    | [u], he =>
      refine ⟨u, ?_, he.1⟩
      apply Array.ext'
      simpa using hl
  unfold lenA at h
  cases h0 : c.argTypes[0]? with
  | none => simp [h0] at h
  | some ty =>
    simp only [h0] at h
    split at h
    · rename_i ti p n cap hti
      obtain ⟨ii, z, h1, h2, h3, h4, h5, h6, h7⟩ := zero_ok hE hti ρ
      have hu' : ∃ q m, u = .slice q n m := by
        cases p with
        | none =>
          obtain ⟨m, g1, g2, rfl⟩ := hx1
          exact ⟨none, m, rfl⟩
        | some p =>
          obtain ⟨b, m, g0, g1, g2, rfl⟩ := hx1
          exact ⟨_, m, rfl⟩
      obtain ⟨q, m, rfl⟩ := hu'
      split at h
      · rename_i e hd
        rw [hd] at h7
        injection h with h
        subst h
        refine ⟨.int .i64 n, ?_, rfl⟩
        simp [execOp, ho, resolve, hc, hu, invoke, builtin, Builtin.len_, h0, run_underlying h7, goInt]
      · cases h
    · rename_i ti hti
      obtain ⟨ii, z, h1, h2, h3, h4, h5, h6, h7⟩ := zero_ok hE hti ρ
      obtain ⟨q, m, rfl⟩ := hx1
      split at h
      · rename_i e hd
        rw [hd] at h7
        injection h with h
        subst h
        refine ⟨.int .i64 0, ?_, rfl⟩
        simp [execOp, ho, resolve, hc, hu, invoke, builtin, Builtin.len_, h0, run_underlying h7, goInt]
      · cases h
    · rename_i ti y hti
      obtain ⟨ii, z, h1, h2, h3, h4, h5, h6, h7⟩ := zero_ok hE hti ρ
      have hx1 : u = .string y := hx1
      subst hx1
      split at h
      · rename_i hd
        rw [hd] at h7
        injection h with h
        subst h
        refine ⟨.int .i64 y.size, ?_, rfl⟩
        simp [execOp, ho, resolve, hc, hu, invoke, builtin, Builtin.len_, h0, run_underlying h7, goInt]
      · cases h
    · cases h
theorem pureArgs_ok {ρ : Rho} {t : Sl} {a : Act} (ht : TR V ρ t a) : ∀ {l : List Operand} {m : List Value}, pureArgs t l = some m → l.map a.eval = m
  | [], m, h => by
    simp only [pureArgs, Option.some.injEq] at h
    subst h
    rfl
  | x :: l, m, h => by
    simp only [pureArgs] at h
    split at h
    · rename_i k n r he hl
      injection h with h
      subst h
      have hx := eval_ok ht x
      rw [he] at hx
      have hx : a.eval x = .int k n := hx
      simp [hx, pureArgs_ok ht hl]
    · cases h
theorem max_ty (a b : Array Nat) (x y : Nat) (l : Array Value) : Builtin.max_ a x l = Builtin.max_ b y l := rfl
theorem min_ty (a b : Array Nat) (x y : Nat) (l : Array Value) : Builtin.min_ a x l = Builtin.min_ b y l := rfl
theorem op_max {t : Sl} {s : St} {o : Oper} {c : Call} {l : List Value} {v : AV} (ho : o.op = .call c) (hc : c.callee = .builtin .max) (hx : pureArgs t c.args.toList = some l) (h : pureV (Builtin.max_ c.argTypes 0 l.toArray) = some v) : OpOK P V t s o v s := by
  refine op_pure fun ρ a w ht hr => ?_
  have he := pureArgs_ok ht hx
  have hu : c.args.map a.eval = l.toArray := by
    apply Array.ext'
    simpa using he
  obtain ⟨u, g1, g2⟩ := pureV_ok (V := V) h ρ
  refine ⟨u, ?_, g2⟩
  have g1' : Builtin.max_ c.argTypes o.type l.toArray = .pure u := (max_ty _ _ _ _ _).trans g1
  simp [execOp, ho, resolve, hc, hu, invoke, builtin, g1']
theorem op_min {t : Sl} {s : St} {o : Oper} {c : Call} {l : List Value} {v : AV} (ho : o.op = .call c) (hc : c.callee = .builtin .min) (hx : pureArgs t c.args.toList = some l) (h : pureV (Builtin.min_ c.argTypes 0 l.toArray) = some v) : OpOK P V t s o v s := by
  refine op_pure fun ρ a w ht hr => ?_
  have he := pureArgs_ok ht hx
  have hu : c.args.map a.eval = l.toArray := by
    apply Array.ext'
    simpa using he
  obtain ⟨u, g1, g2⟩ := pureV_ok (V := V) h ρ
  refine ⟨u, ?_, g2⟩
  have g1' : Builtin.min_ c.argTypes o.type l.toArray = .pure u := (min_ty _ _ _ _ _).trans g1
  simp [execOp, ho, resolve, hc, hu, invoke, builtin, g1']
end
end Ab
end Go.Proofs.YtbfppnppijcnlaaGreat
namespace Go.Proofs.YtbfppnppijcnlaaGreat
namespace Ab
set_option linter.unusedVariables false
set_option linter.unusedSimpArgs false
section
variable {P : Program} {V : Nat → Value} {E : Env}
theorem foldl_lay (off : Nat) : ∀ (l : List Value) (k : Nat) (cells : Array Value), off + k + l.length ≤ cells.size →
    ((l.zipIdx k).foldl (fun (c : Array Value) x => c.setIfInBounds (off + x.2) x.1) cells).toList = cells.toList.take (off + k) ++ l ++ cells.toList.drop (off + k + l.length)
  | [], k, cells, _ => by simp
  | v :: l, k, cells, h => by
    simp only [List.length_cons] at h
    rw [List.zipIdx_cons, List.foldl_cons, foldl_lay off l (k + 1) _ (by simp; omega)]
    have hlt : off + k < cells.toList.length := by simp; omega
    simp only [Array.toList_setIfInBounds, List.length_cons]
    rw [show off + (k + 1) = (off + k) + 1 by omega, show off + k + 1 + l.length = off + k + (l.length + 1) by omega]
    rw [List.drop_set_of_lt (by omega)]
    have e : (cells.toList.set (off + k) v).take (off + k + 1) = cells.toList.take (off + k) ++ [v] := by
      rw [List.take_add_one, List.getElem?_set_self hlt, List.take_set_of_le (by omega)]
      rfl
    rw [e]
    simp
/-- Parts, as the program's operation takes them and as the interpreter does. -/
noncomputable def PartsR (V : Nat → Value) (ρ : Rho) (place : Nat → Option (Nat × Nat)) : List (Nat × Nat × List AC) → List (Nat × Value) → Prop :=
  F2 fun p q => place q.1 = some (p.1, p.2.1) ∧ F2 (CR V ρ) p.2.2 q.2.cells.toList
theorem fill_ok {ρ : Rho} {place : Nat → Option (Nat × Nat)} : ∀ {ps : List (Nat × Nat × List AC)} {qs : List (Nat × Value)} {zs m : List AC} {cells : Array Value}, PartsR V ρ place ps qs → F2 (CR V ρ) zs cells.toList → fillA zs ps = some m →
    ∃ cs, Instr.fill place cells qs = some cs ∧ F2 (CR V ρ) m cs.toList ∧ cs.size = cells.size
  | [], [], zs, m, cells, _, hz, hm => by
    simp only [fillA, Option.some.injEq] at hm
    subst hm
    exact ⟨cells, rfl, hz, rfl⟩
  | (off, size, l) :: ps, (i, v) :: qs, zs, m, cells, hp, hz, hm => by
    obtain ⟨⟨h1, h2⟩, h3⟩ := hp
    have h1 : place i = some (off, size) := h1
    have h2 : F2 (CR V ρ) l v.cells.toList := h2
    simp only [fillA] at hm
    cases hb : Nat.beq l.length size
    · simp [hb] at hm
    · simp only [hb, cond_true] at hm
      have hlen := Nat.eq_of_beq_eq_true hb
      cases ho : over zs off l with
      | none => simp [ho] at hm
      | some z2 =>
        simp only [ho] at hm
        obtain ⟨k1, k2⟩ := F2.over off hz h2 ho
        have hvs : v.cells.size = size := by rw [← Array.length_toList, ← h2.length, hlen]
        rw [Array.length_toList, Array.length_toList] at k2
        have hfold : (Array.foldl (fun (c : Array Value) (x : Value × Nat) => c.setIfInBounds (off + x.2) x.1) cells v.cells.zipIdx).toList = cells.toList.take off ++ v.cells.toList ++ cells.toList.drop (off + v.cells.toList.length) := by
          rw [← Array.foldl_toList, Array.toList_zipIdx]
          have hsz : off + v.cells.size ≤ cells.size := k2
          have := foldl_lay off v.cells.toList 0 cells (by simp; omega)
          simpa using this
        obtain ⟨cs, g1, g2, g3⟩ := fill_ok (cells := Array.foldl (fun (c : Array Value) (x : Value × Nat) => c.setIfInBounds (off + x.2) x.1) cells v.cells.zipIdx) h3 (by rw [hfold]; exact k1) hm
        refine ⟨cs, ?_, g2, ?_⟩
        · simp only [Instr.fill, h1]
          rw [if_neg (by simp [hvs]; omega)]
          exact g1
        · rw [g3, ← Array.length_toList, hfold]
          have hsz : off + v.cells.size ≤ cells.size := k2
          simp only [List.length_append, List.length_take, List.length_drop, Array.length_toList]
          omega
  | [], _ :: _, _, _, _, h, _, _ => h.elim
  | _ :: _, [], _, _, _, h, _, _ => h.elim
theorem partsS_ok (hE : EnvOK P V E) {ρ : Rho} {t : Sl} {a : Act} (ht : TR V ρ t a) {fs : Array Field} {places : Array (Nat × Nat)} (hpl : ∀ (i : Nat) (f : Field) (ti : TI), fs[i]? = some f → E.ty f.type = some ti → places[i]? = some (f.offset, ti.size)) :
    ∀ {l : List (Nat × Operand)} {ps : List (Nat × Nat × List AC)}, partsS E t fs l = some ps → PartsR V ρ (places[·]?) ps (l.map fun x => (x.1, a.eval x.2))
  | [], ps, h => by
    simp only [partsS, Option.some.injEq] at h
    subst h
    trivial
  | (i, x) :: l, ps, h => by
    simp only [partsS] at h
    cases hf : fs[i]? with
    | none => simp [hf] at h
    | some f =>
      simp only [hf] at h
      split at h
      · rename_i ti c r h1 h2 h3
        injection h with h
        subst h
        exact ⟨⟨hpl i f ti hf h1, cells_ok (eval_ok ht x) h2 hE.one⟩, partsS_ok hE ht hpl h3⟩
      · cases h
theorem partsE_ok (hE : EnvOK P V E) {ρ : Rho} {t : Sl} {a : Act} (ht : TR V ρ t a) {size : Nat} :
    ∀ {l : List (Nat × Operand)} {ps : List (Nat × Nat × List AC)}, partsE size t l = some ps → PartsR V ρ (fun i => some (i * size, size)) ps (l.map fun x => (x.1, a.eval x.2))
  | [], ps, h => by
    simp only [partsE, Option.some.injEq] at h
    subst h
    trivial
  | (i, x) :: l, ps, h => by
    simp only [partsE] at h
    split at h
    · rename_i c r h2 h3
      injection h with h
      subst h
      exact ⟨⟨rfl, cells_ok (eval_ok ht x) h2 hE.one⟩, partsE_ok hE ht h3⟩
    · cases h
theorem mapM_places (hE : EnvOK P V E) : ∀ (l : List Field), haveAll E l = true → ∃ ps : List (Nat × Nat), l.mapM (fun f => (P.info? f.type).map fun i => (f.offset, i.size)) = some ps ∧
    ∀ (i : Nat) (f : Field) (ti : TI), l[i]? = some f → E.ty f.type = some ti → ps[i]? = some (f.offset, ti.size)
  | [], _ => ⟨[], by simp, fun i f ti h => by simp at h⟩
  | f :: l, h => by
    simp only [haveAll, Bool.and_eq_true] at h
    obtain ⟨ps, g1, g2⟩ := mapM_places hE l h.2
    obtain ⟨ti, hti⟩ := Option.isSome_iff_exists.1 h.1
    obtain ⟨i, z, h1, h2, _⟩ := hE.ty f.type ti hti
    refine ⟨(f.offset, ti.size) :: ps, ?_, ?_⟩
    · rw [List.mapM_cons]
      simp [h1, h2, g1]
    · intro i f' ti' hf hti'
      cases i with
      | zero =>
        simp only [List.getElem?_cons_zero, Option.some.injEq] at hf
        subst hf
        rw [hti] at hti'
        injection hti' with e
        subst e
        rfl
      | succ i =>
        simp only [List.getElem?_cons_succ] at hf ⊢
        exact g2 i f' ti' hf hti'
theorem op_buildS (hE : EnvOK P V E) {t : Sl} {s : St} {o : Oper} {ty : Nat} {parts : Array (Nat × Operand)} {ti : TI} {fs : Array Field} {ps : List (Nat × Nat × List AC)} {l : List AC} (ho : o.op = .build ty parts) (hti : E.ty ty = some ti) (hd : ti.desc = .struct fs)
    (hh : haveAll E fs.toList = true) (hp : partsS E t fs parts.toList = some ps) (hl : fillA ti.zero ps = some l) : OpOK P V t s o (.one (.agg l)) s := by
  refine op_pure fun ρ a w ht hr => ?_
  obtain ⟨i, z, h1, h2, h3, h4, h5, h6, h7⟩ := zero_ok hE hti ρ
  rw [hd] at h7
  obtain ⟨places, g1, g2⟩ := mapM_places hE fs.toList hh
  have hP := partsS_ok hE ht (fs := fs) (places := places.toArray) (fun i f tj hf htj => by
    have := g2 i f tj (by simpa using hf) htj
    simpa using this) hp
  obtain ⟨cs, k1, k2, k3⟩ := fill_ok hP h5 hl
  refine ⟨.agg cs, ?_, cs, rfl, k2⟩
  have hb : P.built ty (parts.map fun (i, x) => (i, a.eval x)).toList = some cs := by
    unfold Program.built
    simp only [h1, h7, h4, g1]
    rw [Array.toList_map]
    exact k1
  simp only [execOp, ho, Sem.run_bind, run_build w ty _ cs hb, Result.andThen_ok, Sem.run_pure]
theorem op_buildE (hE : EnvOK P V E) {t : Sl} {s : St} {o : Oper} {ty n e : Nat} {parts : Array (Nat × Operand)} {ti te : TI} {ps : List (Nat × Nat × List AC)} {l : List AC} (ho : o.op = .build ty parts) (hti : E.ty ty = some ti) (hd : ti.desc = .array n e)
    (hte : E.ty e = some te) (hp : partsE te.size t parts.toList = some ps) (hl : fillA ti.zero ps = some l) : OpOK P V t s o (.one (.agg l)) s := by
  refine op_pure fun ρ a w ht hr => ?_
  obtain ⟨i, z, h1, h2, h3, h4, h5, h6, h7⟩ := zero_ok hE hti ρ
  obtain ⟨j, z', j1, j2, _⟩ := zero_ok hE hte ρ
  rw [hd] at h7
  have hP := partsE_ok hE ht hp
  obtain ⟨cs, k1, k2, k3⟩ := fill_ok hP h5 hl
  refine ⟨.agg cs, ?_, cs, rfl, k2⟩
  have hb : P.built ty (parts.map fun (i, x) => (i, a.eval x)).toList = some cs := by
    unfold Program.built
    simp only [h1, h7, h4, j1, j2]
    rw [Array.toList_map]
    exact k1
  simp only [execOp, ho, Sem.run_bind, run_build w ty _ cs hb, Result.andThen_ok, Sem.run_pure]
theorem rep_length (z : List AC) : ∀ n, (rep z n).length = n * z.length
  | 0 => by simp [rep]
  | n + 1 => by rw [rep, List.length_append, rep_length z n, Nat.succ_mul, Nat.add_comm]
theorem range'_cells (z : Array Value) (hz : 0 < z.size) : ∀ n m, (List.range' (m * z.size) (n * z.size)).map (fun i => z[i % z.size]!) = (List.replicate n z.toList).flatten
  | 0, m => by simp
  | n + 1, m => by
    rw [Nat.succ_mul, Nat.add_comm (n * z.size), ← List.range'_append, List.map_append, List.replicate_succ, List.flatten_cons]
    have e := range'_cells z hz n (m + 1)
    rw [Nat.succ_mul] at e
    rw [Nat.one_mul, e]
    congr 1
    apply List.ext_getElem?
    intro i
    rw [List.getElem?_map]
    by_cases hi : i < z.size
    · rw [List.getElem?_range' hi, Option.map_some, Array.getElem?_toList, Array.getElem?_eq_getElem hi]
      have : (m * z.size + 1 * i) % z.size = i := by rw [Nat.one_mul, Nat.mul_comm, Nat.mul_add_mod, Nat.mod_eq_of_lt hi]
      rw [this, getElem!_pos z i hi]
    · rw [List.getElem?_eq_none (by simp; omega), List.getElem?_eq_none (by simp; omega)]
      rfl
theorem rep_ok {ρ : Rho} {zl : List AC} {z : Array Value} (h : F2 (CR V ρ) zl z.toList) : ∀ n, F2 (CR V ρ) (rep zl n) (List.replicate n z.toList).flatten
  | 0 => trivial
  | n + 1 => by
    rw [List.replicate_succ, List.flatten_cons]
    exact h.append (rep_ok h n)
theorem made_ok {ρ : Rho} {zl : List AC} {z : Array Value} (h : F2 (CR V ρ) zl z.toList) (hz : 0 < z.size) (n : Nat) : F2 (CR V ρ) (rep zl n) ((Array.range (n * z.size)).map (z[· % z.size]!)).toList := by
  have e := range'_cells z hz n 0
  rw [Nat.zero_mul] at e
  rw [Array.toList_map, Array.toList_range, List.range_eq_range']
  have hh : (fun x : Nat => z[x % z.size]!) = (fun i : Nat => z[i % z.size]!) := rfl
  rw [hh, e]
  exact rep_ok h n
theorem op_buildSlice (hE : EnvOK P V E) {t : Sl} {s : St} {o : Oper} {ty e len : Nat} {parts : Array (Nat × Operand)} {ti te : TI} {ps : List (Nat × Nat × List AC)} {l : List AC} (ho : o.op = .buildSlice ty len parts) (hti : E.ty ty = some ti) (hd : ti.desc = .slice e)
    (hte : E.ty e = some te) (h0 : Nat.beq te.size 0 = false) (hle : Nat.ble (len * te.size) 16777216 = true) (hp : partsE te.size t parts.toList = some ps) (hl : fillA (rep te.zero len) ps = some l) :
    OpOK P V t s o (.one (.c (.slice (some (s.next, 0)) len (.lit len)))) (s.new e l none) := by
  intro ρ a w ht hr hf K Q hK
  obtain ⟨i, z, h1, h2, h3, h4, h5, h6, h7⟩ := zero_ok hE hti ρ
  obtain ⟨j, z', j1, j2, j3, j4, j5, j6, j7⟩ := zero_ok hE hte ρ
  rw [hd] at h7
  have hpos : 0 < z'.cells.size := by
    rw [j6]
    cases hs : te.size with
    | zero => rw [hs] at h0; cases h0
    | succ n => omega
  have hP := partsE_ok hE ht hp
  have hz := made_ok j5 hpos len
  obtain ⟨cs, k1, k2, k3⟩ := fill_ok hP hz hl
  have hg := go_new V e l cs hr (hf.b _ (Nat.le_refl _) (by simp [St.new])) k2
  refine wp_val (c := .slice (some ⟨w.heap.size, 0, none⟩) len len) (w' := w.alloc (.cells cs e)) ?_ (hK _ _ _ hg ⟨w.heap.size, len, by simp [Rho.setB], rfl, Nat.le_refl _, rfl⟩)
  have hle' : ¬ len * te.size > 2 ^ 24 := by
    have := Nat.le_of_ble_eq_true hle
    omega
  have hk : Instr.fill (fun i => some (i * te.size, te.size)) ((Array.range (len * te.size)).map (z'.cells[· % z'.cells.size]!)) (List.map (fun x => (x.fst, a.eval x.snd)) parts.toList) = some cs := by
    rw [j6] at k1 ⊢
    exact k1
  by_cases hn : len * te.size = 0
  · have hm0 : ∀ f : Nat → Value, Array.map f (Array.range 0) = #[] := by
      intro f
      apply Array.ext'
      simp
    rw [hn, hm0] at hk
    simp only [execOp, ho, Instr.buildSlice, run_underlying h7, Sem.run_bind, Result.andThen_ok, sizeOf, typeInfo, run_program, j1, Sem.run_pure, j2, if_neg hle', if_pos hn, hn, hm0]
    simp [hm0, hk, newRow]
  · simp only [execOp, ho, Instr.buildSlice, run_underlying h7, Sem.run_bind, Result.andThen_ok, sizeOf, typeInfo, run_program, j1, Sem.run_pure, j2, if_neg hle', if_neg hn, zeroValue, j4]
    simp [hk, newRow]
theorem op_makeSlice (hE : EnvOK P V E) {t : Sl} {s s' : St} {o : Oper} {ty : Nat} {x y : Operand} {v : AV} (ho : o.op = .makeSlice ty x y) (h : makeSliceA E s ty (eval t x) (eval t y) = some (v, s')) : OpOK P V t s o v s' := by
  intro ρ a w ht hr hf K Q hK
  unfold makeSliceA at h
  split at h
  · rename_i ti l c hti hl hc
    obtain ⟨kl, hl⟩ := litInt_ok hl (eval_ok ht x)
    obtain ⟨kc, hc⟩ := litInt_ok hc (eval_ok ht y)
    obtain ⟨i, z, h1, h2, h3, h4, h5, h6, h7⟩ := zero_ok hE hti ρ
    split at h
    · rename_i e hd
      rw [hd] at h7
      cases hte : E.ty e with
      | none => simp [hte] at h
      | some te =>
        simp only [hte] at h
        obtain ⟨j, z', j1, j2, j3, j4, j5, j6, j7⟩ := zero_ok hE hte ρ
        split at h
        · rename_i hin
          obtain ⟨q1, q2, q3, q4, q5⟩ := hin
          injection h with h
          injection h with e1 e2
          subst e1; subst e2
          have hpos : 0 < z'.cells.size := by
            rw [j6]
            cases hs : te.size with
            | zero => rw [hs] at q5; cases q5
            | succ n => omega
          have hm : F2 (CR V ρ) (rep te.zero c.toNat) (madeCells z'.cells (c.toNat * te.size)).toList := by
            have := made_ok j5 hpos c.toNat
            rw [j6] at this
            unfold madeCells
            rw [j6]
            exact this
          have hg := go_new V e _ _ hr (hf.b _ (Nat.le_refl _) (by simp [St.new])) hm
          refine wp_val ?_ (hK _ (.slice (some ⟨w.heap.size, 0, none⟩) l.toNat c.toNat) _ hg ⟨w.heap.size, c.toNat, by simp [Rho.setB], rfl, by omega, rfl⟩)
          have hr2 := run_make (P := P) w ty e j z' h7 j1 j4 kl kc l c q1 q2 (by
            rw [j3]
            have : (te.bytes : Int) ≤ 100000 := by omega
            have := Int.mul_le_mul this q3 (by omega) (by omega)
            omega) (by omega)
          rw [j2] at hr2
          simp only [execOp, ho, hl, hc, Sem.run_bind, hr2, Result.andThen_ok, Sem.run_pure]
        · cases h
    · cases h
  · cases h
end
end Ab
end Go.Proofs.YtbfppnppijcnlaaGreat
namespace Go.Proofs.YtbfppnppijcnlaaGreat
namespace Ab
set_option linter.unusedVariables false
set_option linter.unusedSimpArgs false
section
variable {P : Program} {V : Nat → Value} {E : Env}
theorem vr_c {ρ : Rho} {x : AC} {v : Value} (h : CR V ρ x v) : VR V ρ (.one (.c x)) v := h
theorem capMin_ok {ρ : Rho} {s : St} {w : World} {size : Nat} {p : Option (Nat × Nat)} {len m : Nat} {cap : Cap} (hr : Rep V ρ s w) (hc : CapR ρ cap m) (hn : len ≤ m) (hb : ∀ q, p = some q → ∃ b, ρ.blk q.1 = some b) : capMin s size p len cap ≤ m := by
  unfold capMin
  split
  · rename_i c
    have : m = c := hc
    omega
  · rename_i j
    have hc : ρ.cap j = some m := hc
    split
    · rename_i i
      cases hB : look s.heap i with
      | none => exact hn
      | some B =>
        simp only
        cases hm : B.more with
        | none => exact hn
        | some q =>
          obtain ⟨j', sz⟩ := q
          simp only
          cases hq : (Nat.beq j' j && Nat.beq sz size && !(Nat.beq size 0))
          · exact hn
          · simp only [cond_true]
            simp only [Bool.and_eq_true, Bool.not_eq_true'] at hq
            obtain ⟨⟨q1, q2⟩, q3⟩ := hq
            have q1 := Nat.eq_of_beq_eq_true q1
            have q2 := Nat.eq_of_beq_eq_true q2
            subst q1; subst q2
            obtain ⟨b, cs, g1, g2, pre, post, g3, g4, g5⟩ := hr.h i B hB
            unfold MR at g5
            rw [hm] at g5
            have hsz : ¬ sz = 0 := by
              intro e
              subst e
              cases q3
            simp only [if_neg hsz] at g5
            obtain ⟨m', k1, k2⟩ := g5
            rw [hc] at k1
            injection k1 with k1
            subst k1
            have hpos : 0 < sz := by
              cases sz with
              | zero => cases q3
              | succ n => omega
            have hl : B.cells.length ≤ m * sz := by
              rw [g4.length, ← k2, ← Array.length_toList, g3, List.length_append]
              omega
            have := Nat.div_le_of_le_mul (by rw [Nat.mul_comm]; exact hl : B.cells.length ≤ sz * m)
            exact Nat.max_le.2 ⟨hn, this⟩
    · exact hn
theorem run_bound (w : World) (k : IntKind) (i : Int) (y : Nat) (c : BoundsCode) (h0 : 0 ≤ i) (h1 : i ≤ y) : (Instr.sliceBound (.int k i) y c).run P w = .ok i.toNat w := by
  simp [Instr.sliceBound, asIntOf, h0, h1]
theorem run_bounds2 (w : World) (len cap : Nat) (lo hi : Option Value) (l h : Int) (hlo : (lo = none ∧ l = 0) ∨ ∃ k, lo = some (.int k l)) (hhi : (hi = none ∧ h = len) ∨ ∃ k, hi = some (.int k h)) (h0 : 0 ≤ l) (h1 : l ≤ h) (h2 : h ≤ cap) :
    (Instr.sliceBounds true len cap lo hi none).run P w = .ok (l.toNat, h.toNat, cap) w := by
  have e : l ≤ (h.toNat : Int) := by omega
  rcases hlo with ⟨rfl, rfl⟩ | ⟨k, rfl⟩ <;> rcases hhi with ⟨rfl, rfl⟩ | ⟨k', rfl⟩
  · simp [Instr.sliceBounds]
  · simp [Instr.sliceBounds, run_bound w k' h cap _ (by omega) h2]
  · simp [Instr.sliceBounds, run_bound w k l len _ h0 h1]
  · simp [Instr.sliceBounds, run_bound w k' h cap _ (by omega) h2, run_bound w k l h.toNat _ h0 e]
theorem run_bounds3 (w : World) (len cap : Nat) (lo hi mx : Option Value) (l h m : Int) (hlo : (lo = none ∧ l = 0) ∨ ∃ k, lo = some (.int k l)) (hhi : ∃ k, hi = some (.int k h)) (hmx : ∃ k, mx = some (.int k m)) (h0 : 0 ≤ l) (h1 : l ≤ h) (h2 : h ≤ m) (h3 : m ≤ cap) :
    (Instr.sliceBounds true len cap lo hi mx).run P w = .ok (l.toNat, h.toNat, m.toNat) w := by
  have e : l ≤ (h.toNat : Int) := by omega
  have e2 : h ≤ (m.toNat : Int) := by omega
  obtain ⟨k', rfl⟩ := hhi
  obtain ⟨k2, rfl⟩ := hmx
  rcases hlo with ⟨rfl, rfl⟩ | ⟨k, rfl⟩
  · simp [Instr.sliceBounds, run_bound w k2 m cap _ (by omega) h3, run_bound w k' h m.toNat _ (by omega) e2]
  · simp [Instr.sliceBounds, run_bound w k2 m cap _ (by omega) h3, run_bound w k' h m.toNat _ (by omega) e2, run_bound w k l h.toNat _ h0 e]
theorem run_sliceOf (w : World) (ty e : Nat) (i : TypeInfo) (a : Option Addr) (len cap : Nat) (lo hi mx : Option Value) (l h m : Nat) (hu : P.underlying ty = some (.slice e)) (hi' : P.info? e = some i) (hb : (Instr.sliceBounds true len cap lo hi mx).run P w = .ok (l, h, m) w) :
    (Instr.sliceAt ty (.slice a len cap) lo hi mx).run P w = .ok (.slice (if m = l then a else a.map (·.add (l * i.size))) (h - l) (m - l)) w := by
  simp [Instr.sliceAt, run_underlying hu, Instr.slice, hb, sizeOf, typeInfo, hi']
theorem optLo {ρ : Rho} {t : Sl} {a : Act} (ht : TR V ρ t a) {lo : Option Operand} {l d : Int} (h : (match lo.map (eval t) with | none => some d | some v => litInt v) = some l) : (lo.map a.eval = none ∧ l = d) ∨ ∃ k, lo.map a.eval = some (.int k l) := by
  cases lo with
  | none =>
    simp only [Option.map_none, Option.some.injEq] at h
    exact .inl ⟨rfl, h.symm⟩
  | some x =>
    simp only [Option.map_some] at h
    obtain ⟨k, hk⟩ := litInt_ok h (eval_ok ht x)
    exact .inr ⟨k, by simp [hk]⟩
theorem add_lit' (b off n : Nat) : (⟨b, off, none⟩ : Addr).add n = ⟨b, off + n, none⟩ := by
  unfold Addr.add
  split <;> simp_all
/-- What a slice is, whatever its address. -/
theorem slice_form {ρ : Rho} {p : Option (Nat × Nat)} {len : Nat} {cap : Cap} {u : Value} (h : CR V ρ (.slice p len cap) u) :
    ∃ q m, u = .slice q len m ∧ CapR ρ cap m ∧ len ≤ m ∧ ((p = none ∧ q = none) ∨ ∃ i off b, p = some (i, off) ∧ ρ.blk i = some b ∧ q = some ⟨b, off, none⟩) := by
  cases p with
  | none =>
    obtain ⟨m, g1, g2, rfl⟩ := h
    exact ⟨none, m, rfl, g1, g2, .inl ⟨rfl, rfl⟩⟩
  | some p =>
    obtain ⟨b, m, g0, g1, g2, rfl⟩ := h
    exact ⟨_, m, rfl, g1, g2, .inr ⟨p.1, p.2, b, rfl, g0, rfl⟩⟩
theorem op_slice (hE : EnvOK P V E) {t : Sl} {s s' : St} {o : Oper} {ty : Nat} {x : Operand} {lo hi mx : Option Operand} {v : AV} (ho : o.op = .slice ty x lo hi mx) (h : sliceA E s ty (eval t x) (lo.map (eval t)) (hi.map (eval t)) (mx.map (eval t)) = some (v, s')) : OpOK P V t s o v s' := by
  intro ρ a w ht hr hf K Q hK
  have hx := eval_ok ht x
  have run1 : ∀ c, (Instr.sliceAt ty (a.eval x) (lo.map a.eval) (hi.map a.eval) (mx.map a.eval)).run P w = .ok c w → (execOp a.eval o).run P w = .ok (.value c) w := by
    intro c hc
    simp only [execOp, ho, Sem.run_bind, hc, Result.andThen_ok, Sem.run_pure]
  unfold sliceA at h
  split at h
  · rename_i m0 hm0
    split at h
    · rename_i ti p len cap m l hh hti he hm hl hhi
      rw [he] at hx
      obtain ⟨q, c, hu, hc, hn, hq⟩ := slice_form hx
      obtain ⟨i, z, h1, h2, h3, h4, h5, h6, h7⟩ := zero_ok hE hti ρ
      split at h
      · rename_i e hd
        rw [hd] at h7
        cases hte : E.ty e with
        | none => simp [hte] at h
        | some te =>
          simp only [hte] at h
          obtain ⟨j, z', j1, j2, _⟩ := zero_ok hE hte ρ
          split at h
          · rename_i hin
            obtain ⟨b0, b1, b2, b3⟩ := hin
            injection h with h
            injection h with e1 e2
            subst e1; subst e2
            have hcm := capMin_ok (size := te.size) hr hc hn (p := p) (by
              rintro q' rfl
              rcases hq with ⟨hq, _⟩ | ⟨i', off, b, hq, hb, _⟩
              · cases hq
              · injection hq with hq
                subst hq
                exact ⟨b, hb⟩)
            have hlo := optLo ht hl
            have hhi' : ∃ k, hi.map a.eval = some (.int k hh) := by
              cases hi with
              | none => simp at hhi
              | some y =>
                simp only [Option.map_some] at hhi
                obtain ⟨k, hk⟩ := litInt_ok hhi (eval_ok ht y)
                exact ⟨k, by simp [hk]⟩
            have hmx' : ∃ k, mx.map a.eval = some (.int k m) := by
              cases mx with
              | none => simp at hm0
              | some y =>
                simp only [Option.map_some, Option.some.injEq] at hm0
                subst hm0
                obtain ⟨k, hk⟩ := litInt_ok hm (eval_ok ht y)
                exact ⟨k, by simp [hk]⟩
            have hbd := run_bounds3 (P := P) w len c _ _ _ l hh m hlo hhi' hmx' b0 b1 b2 (by omega)
            have hrun := run_sliceOf w ty e j q len c _ _ _ _ _ _ h7 j1 hbd
            rw [← hu] at hrun
            refine wp_val (run1 _ hrun) (hK ρ _ w (Goes.refl V hr) ?_)
            rw [j2]
            have hml : (m.toNat = l.toNat) ↔ (l = m) := by omega
            rcases hq with ⟨rfl, rfl⟩ | ⟨i', off, b, rfl, hb, rfl⟩
            · refine vr_c ?_
              have e1 : (if l = m then (none : Option (Nat × Nat)) else none) = none := by split <;> rfl
              have e2 : (if m.toNat = l.toNat then (none : Option Addr) else Option.map (fun x : Addr => x.add (l.toNat * te.size)) none) = none := by split <;> rfl
              rw [e1, e2]
              exact ⟨m.toNat - l.toNat, rfl, by omega, rfl⟩
            · refine vr_c ?_
              by_cases hlm : l = m
              · rw [if_pos hlm, if_pos (hml.2 hlm)]
                exact ⟨b, m.toNat - l.toNat, hb, rfl, by omega, rfl⟩
              · rw [if_neg hlm, if_neg (fun e => hlm (hml.1 e))]
                refine ⟨b, m.toNat - l.toNat, hb, rfl, by omega, ?_⟩
                simp [add_lit']
          · cases h
      · cases h
    · cases h
  · rename_i hm0
    have hmx : mx.map a.eval = none := by
      cases mx with
      | none => rfl
      | some y => simp at hm0
    split at h
    · rename_i ti p len cap hti he
      rw [he] at hx
      obtain ⟨q, c, hu, hc, hn, hq⟩ := slice_form hx
      obtain ⟨i, z, h1, h2, h3, h4, h5, h6, h7⟩ := zero_ok hE hti ρ
      split at h
      · rename_i e hd
        rw [hd] at h7
        cases hte : E.ty e with
        | none => simp [hte] at h
        | some te =>
          simp only [hte] at h
          obtain ⟨j, z', j1, j2, _⟩ := zero_ok hE hte ρ
          have hcm := capMin_ok (size := te.size) hr hc hn (p := p) (by
            rintro q' rfl
            rcases hq with ⟨hq, _⟩ | ⟨i', off, b, hq, hb, _⟩
            · cases hq
            · injection hq with hq
              subst hq
              exact ⟨b, hb⟩)
          split at h
          · rename_i l hh hl hhi
            have hlo := optLo ht hl
            have hhi' := optLo ht hhi
            split at h
            · rename_i hin
              obtain ⟨b0, b1⟩ := hin
              split at h
              · rename_i c0
                have hc0 : c = c0 := hc
                subst hc0
                split at h
                · rename_i b2
                  injection h with h
                  injection h with e1 e2
                  subst e1; subst e2
                  have hbd := run_bounds2 (P := P) w len c _ _ l hh hlo hhi' b0 b1 b2
                  rw [← hmx] at hbd
                  have hrun := run_sliceOf w ty e j q len c _ _ _ _ _ _ h7 j1 hbd
                  rw [← hu] at hrun
                  refine wp_val (run1 _ hrun) (hK ρ _ w (Goes.refl V hr) ?_)
                  rw [j2]
                  have hml : (c = l.toNat) ↔ (l = c) := by omega
                  rcases hq with ⟨rfl, rfl⟩ | ⟨i', off, b, rfl, hb, rfl⟩
                  · refine vr_c ?_
                    have e1 : (if l = (c : Int) then (none : Option (Nat × Nat)) else none) = none := by split <;> rfl
                    have e2 : (if c = l.toNat then (none : Option Addr) else Option.map (fun x : Addr => x.add (l.toNat * te.size)) none) = none := by split <;> rfl
                    rw [e1, e2]
                    exact ⟨c - l.toNat, rfl, by omega, rfl⟩
                  · refine vr_c ?_
                    by_cases hlm : l = c
                    · rw [if_pos hlm, if_pos (hml.2 hlm)]
                      exact ⟨b, c - l.toNat, hb, rfl, by omega, rfl⟩
                    · rw [if_neg hlm, if_neg (fun e => hlm (hml.1 e))]
                      refine ⟨b, c - l.toNat, hb, rfl, by omega, ?_⟩
                      simp [add_lit']
                · cases h
              · rename_i jc
                split at h
                · rename_i b2
                  have b3 : hh ≤ (c : Int) := by omega
                  have hbd := run_bounds2 (P := P) w len c _ _ l hh hlo hhi' b0 b1 b3
                  rw [← hmx] at hbd
                  have hrun := run_sliceOf w ty e j q len c _ _ _ _ _ _ h7 j1 hbd
                  rw [← hu] at hrun
                  split at h
                  · rename_i hl0
                    injection h with h
                    injection h with e1 e2
                    subst e1; subst e2
                    refine wp_val (run1 _ hrun) (hK ρ _ w (Goes.refl V hr) ?_)
                    subst hl0
                    rcases hq with ⟨rfl, rfl⟩ | ⟨i', off, b, rfl, hb, rfl⟩
                    · refine vr_c ?_
                      refine ⟨c, hc, by omega, ?_⟩
                      simp
                    · refine vr_c ?_
                      refine ⟨b, c, hb, hc, by omega, ?_⟩
                      simp [add_lit']
                  · rename_i hl0
                    split at h
                    · rename_i hlt
                      split at h
                      · rename_i i' off
                        injection h with h
                        injection h with e1 e2
                        subst e1; subst e2
                        rcases hq with ⟨hq, _⟩ | ⟨i2, off2, b, hq, hb, rfl⟩
                        · cases hq
                        · injection hq with hq
                          injection hq with q1 q2
                          subst q1; subst q2
                          have hfc : ρ.cap s.ncap = none := hf.c _ (Nat.le_refl _) (by simp)
                          have hgo : Goes V ρ s w { s with ncap := s.ncap + 1 } w (ρ.setC s.ncap (c - l.toNat)) := by
                            have hle : Le ρ (ρ.setC s.ncap (c - l.toNat)) := setC_le hfc
                            refine ⟨⟨fun i B hB => ?_, hr.inj, hr.bnd, hr.lt⟩, ⟨fun _ _ => rfl, fun k hk => ?_, Nat.le_refl _, Nat.le_succ _, fun _ h => h, fun _ _ _ => rfl, fun i b h1 h2 => absurd h2 (by simp; omega), fun j h => .inl h, fun _ _ h => h, rfl, rfl, rfl, Nat.le_refl _⟩, hle⟩
                            · obtain ⟨b1, cs, g1, g2, g3⟩ := hr.h i B hB
                              exact ⟨b1, cs, g1, g2, g3.mono V hle⟩
                            · show (if k = s.ncap then _ else _) = _
                              rw [if_neg (nx hk)]
                          refine wp_val (run1 _ hrun) (hK _ _ w hgo ?_)
                          refine vr_c ?_
                          have hne : ¬ c = l.toNat := by omega
                          rw [j2, if_neg hne]
                          refine ⟨b, c - l.toNat, hb, by simp [CapR, Rho.setC], by omega, ?_⟩
                          simp [add_lit']
                      · cases h
                    · rename_i hge
                      split at h
                      · rename_i pp
                        injection h with h
                        injection h with e1 e2
                        subst e1; subst e2
                        rcases hq with ⟨hq, _⟩ | ⟨i2, off2, b, hq, hb, rfl⟩
                        · cases hq
                        · refine wp_val (run1 _ hrun) (hK ρ _ w (Goes.refl V hr) ?_)
                          have hz : hh.toNat - l.toNat = 0 := by omega
                          rw [hz]
                          by_cases hcl : c = l.toNat
                          · rw [if_pos hcl]
                            exact ⟨_, _, rfl⟩
                          · rw [if_neg hcl]
                            exact ⟨_, _, rfl⟩
                      · cases h
                · cases h
            · cases h
          · cases h
      · cases h
    · cases h
end
end Ab
end Go.Proofs.YtbfppnppijcnlaaGreat
namespace Go.Proofs.YtbfppnppijcnlaaGreat
namespace Ab
set_option linter.unusedVariables false
set_option linter.unusedSimpArgs false
section
variable {P : Program} {V : Nat → Value} {E : Env}
theorem run_append_row (w : World) (t tx ty e e2 : TypeId) (i : TypeInfo) (ht : P.underlying t = some (.slice e)) (hi : P.info? e = some i) (g off sLen sCap : Nat) (cur : Array Value) (x : Value) (n : Nat) (news : List Value) (hs : Src P i.size tx x n news w)
    (hg : w.heap[g]? = some (.cells cur e2 (0, 0))) (hroom : sLen + n ≤ sCap) (hfit : off + sLen * i.size + news.length ≤ cur.size) :
    (Builtin.append_ #[t, tx] ty #[.slice (some ⟨g, off, none⟩) sLen sCap, x]).run P w = .ok (.slice (some ⟨g, off, none⟩) (sLen + n) sCap) (w.setRow g (cur.toList.take (off + sLen * i.size) ++ news ++ cur.toList.drop (off + sLen * i.size + news.length)).toArray) := by
  have hst := run_storeCells_at P g (off + sLen * i.size) e2 news 0 cur w hg (by simpa using hfit) hs.one
  simp only [Nat.add_zero] at hst
  rcases hs.kind with ⟨e', hk⟩ | hk <;> simp [Builtin.append_, run_underlying ht, run_underlying hk, sizeOf, typeInfo, hi, hs.len, hroom, hs.cells, Addr.add_lit, hst]
theorem run_append_nil0 (w : World) (t tx ty e : TypeId) (i : TypeInfo) (ht : P.underlying t = some (.slice e)) (hi : P.info? e = some i) (sLen sCap : Nat) (x : Value) (news : List Value) (hs : Src P i.size tx x 0 news w) (hroom : sLen ≤ sCap) :
    (Builtin.append_ #[t, tx] ty #[.slice none sLen sCap, x]).run P w = .ok (.slice none (sLen + 0) sCap) w := by
  rcases hs.kind with ⟨e', hk⟩ | hk <;> simp [Builtin.append_, run_underlying ht, run_underlying hk, sizeOf, typeInfo, hi, hs.len, hroom, hs.cells]
/-- What is appended. -/
theorem src_ok (hone : ∀ i, (V i).oneCell' = true) {ρ : Rho} {s : St} {w : World} {size n tx e' : Nat} {y : AV} {news : List AC} {u : Value} (hr : Rep V ρ s w) (hk : P.underlying tx = some (.slice e')) (h : srcA s size y = some (n, news)) (hy : VR V ρ y u) :
    ∃ ds : List Value, F2 (CR V ρ) news ds ∧ Src P size tx u n ds w := by
  unfold srcA at h
  split at h
  · rename_i cap
    injection h with h
    injection h with e1 e2
    subst e1; subst e2
    obtain ⟨m, _, _, rfl⟩ := hy
    exact ⟨[], trivial, Src.ofNil w hk m⟩
  · injection h with h
    injection h with e1 e2
    subst e1; subst e2
    obtain ⟨b, m, rfl⟩ := hy
    exact ⟨[], trivial, Src.ofSlice w hk b 0 m [] (by simp) (fun j u h => by simp at h) (fun u h => by cases h)⟩
  · rename_i i off k cap
    obtain ⟨b, m, hb, _, _, rfl⟩ := hy
    cases hB : look s.heap i with
    | none => simp [hB] at h
    | some B =>
      simp only [hB] at h
      cases hl : sub B.cells off (k * size) with
      | none => simp [hl] at h
      | some l =>
        simp only [hl, Option.some.injEq, Prod.mk.injEq] at h
        obtain ⟨e1, e2⟩ := h
        subst e1; subst e2
        obtain ⟨ds, g1, g2, g3⟩ := load_sub V hr hB hb hl
        exact ⟨ds, g2, Src.ofSlice w hk _ _ _ ds g1 g3 (fun u hu => by
          obtain ⟨q, _, hq⟩ := g2.mem u hu
          exact hq.one V hone)⟩
  · cases h
/-- The cells that a slice has when it must move. -/
theorem old_ok (hone : ∀ i, (V i).oneCell' = true) {ρ : Rho} {s : St} {w : World} {size n len : Nat} {p : Option (Nat × Nat)} {cap : Cap} {olds : List AC} {q : Option Addr} {c : Nat} (hr : Rep V ρ s w) (h : srcA s size (.one (.c (.slice p len cap))) = some (n, olds)) (hy : CR V ρ (.slice p len cap) (.slice q len c)) :
    ∃ ds : List Value, F2 (CR V ρ) olds ds ∧ ds.length = len * size ∧ (Builtin.firstCells size len (.slice q len c)).run P w.drew = .ok ds.toArray w.drew := by
  unfold srcA at h
  split at h
  · rename_i cap' he
    injection he with he
    injection he with he
    injection he with e1 e2 e3
    subst e1; subst e2; subst e3
    injection h with h
    injection h with e1 e2
    subst e1; subst e2
    obtain ⟨m, _, _, hh⟩ := hy
    injection hh with hh _ _
    subst hh
    exact ⟨[], trivial, by simp, run_firstCells_none w.drew size 0 0 c⟩
  · rename_i he
    injection he with he
    injection he with he
    cases he
  · rename_i i off k cap' he
    injection he with he
    injection he with he
    injection he with e1 e2 e3
    subst e1; subst e2; subst e3
    obtain ⟨b, m, hb, _, _, hh⟩ := hy
    injection hh with hh _ _
    subst hh
    cases hB : look s.heap i with
    | none => simp [hB] at h
    | some B =>
      simp only [hB] at h
      cases hl : sub B.cells off (len * size) with
      | none => simp [hl] at h
      | some l =>
        simp only [hl, Option.some.injEq, Prod.mk.injEq] at h
        obtain ⟨e1, e2⟩ := h
        subst e1; subst e2
        obtain ⟨ds, g1, g2, g3⟩ := load_sub V hr hB hb hl
        exact ⟨ds, g2, g1, run_firstCells_some w.drew size len _ len c ds g1 (by simpa using g3)⟩
  · cases h
/-- The world of a row that moved. -/
theorem grow_ok {ρ : Rho} {s : St} {w : World} (e size : Nat) (news olds : List AC) (ns os zs : List Value) (h0 : size ≠ 0) (hr : Rep V ρ s w) (hf : ρ.blk s.next = none) (hg : ρ.cap s.ncap = none) (h1 : F2 (CR V ρ) olds os) (h2 : F2 (CR V ρ) news ns) (m : Nat) (hz : os.length + ns.length + zs.length = m * size) :
    Goes V ρ s w { (s.new e (olds ++ news) (some (s.ncap, size))) with ncap := s.ncap + 1 } (w.drew.alloc (.cells (((os ++ ns).toArray ++ zs.toArray)) e)) ((ρ.setC s.ncap m).setB s.next w.heap.size) :=
  go_newC V e (olds ++ news) _ m size zs h0 hr hf hg (os ++ ns) (by simp) (h1.append h2) (by simp; omega)
theorem op_append (hE : EnvOK P V E) {t : Sl} {s s' : St} {o : Oper} {c : Call} {x y v : AV} (ho : o.op = .call c) (hc : c.callee = .builtin .append) (hx : evals t c.args.toList = [x, y]) (hargs : c.argTypes.size = 2) (h : appendA E s c.argTypes x y = some (v, s')) : OpOK P V t s o v s' := by
  intro ρ a w ht hr hf K Q hK
  have he := evals_ok ht c.args.toList
  rw [hx] at he
  obtain ⟨u, u', hu, hx1, hy1⟩ : ∃ u u', c.args.map a.eval = #[u, u'] ∧ VR V ρ x u ∧ VR V ρ y u' := by
    match hl : c.args.toList.map a.eval, he with
    | [u, u'], he =>
      refine ⟨u, u', ?_, he.1, he.2.1⟩
      apply Array.ext'
      simpa using hl
  unfold appendA at h
  split at h
  · rename_i t0 t1 ht0 ht1
    have hat : c.argTypes = #[t0, t1] := by
      apply Array.ext
      · simp [hargs]
      · intro k h1 h2
        match k, h1, h2 with
        | 0, h1, _ =>
          rw [Array.getElem?_eq_getElem h1] at ht0
          simpa using ht0
        | 1, h1, _ =>
          rw [Array.getElem?_eq_getElem h1] at ht1
          simpa using ht1
    have run1 : ∀ r w', (Builtin.append_ #[t0, t1] o.type #[u, u']).run P w = .ok r w' → (execOp a.eval o).run P w = .ok (.value r) w' := by
      intro r w' hr
      simp [execOp, ho, resolve, hc, hu, invoke, builtin, hat, hr]
    split at h
    · rename_i ti tj p len cap hti htj
      obtain ⟨i, z, h1, h2, h3, h4, h5, h6, h7⟩ := zero_ok hE hti ρ
      obtain ⟨i', z', h1', h2', h3', h4', h5', h6', h7'⟩ := zero_ok hE htj ρ
      obtain ⟨q, m, rfl, hcap, hn, hq⟩ := slice_form (V := V) (ρ := ρ) hx1
      split at h
      · rename_i e e' hd hd'
        rw [hd] at h7
        rw [hd'] at h7'
        cases hte : E.ty e with
        | none => simp [hte] at h
        | some te =>
          simp only [hte] at h
          obtain ⟨j, zz, j1, j2, j3, j4, j5, j6, j7⟩ := zero_ok hE hte ρ
          cases hsr : srcA s te.size y with
          | none => simp [hsr] at h
          | some nn =>
            obtain ⟨n, news⟩ := nn
            simp only [hsr] at h
            obtain ⟨ns, n1, n2⟩ := src_ok hE.one hr h7' hsr hy1
            rw [← j2] at n2
            have hnl : ns.length = n * te.size := by rw [n2.newsLen, j2]
            cases hz0 : Nat.beq te.size 0
            · have hzne : te.size ≠ 0 := by
                intro e0
                rw [e0] at hz0
                cases hz0
              simp only [hz0, cond_false] at h
              have hpos : 0 < te.size := by
                cases hs : te.size with
                | zero => rw [hs] at hz0; cases hz0
                | succ k => omega
              -- growing
              have grow : ∀ olds : List AC, srcA s te.size (.one (.c (.slice p len cap))) = some (len, olds) → m < len + n → len + n ≤ 1000 → te.bytes ≤ 1000000 → ρ.blk s.next = none → ρ.cap s.ncap = none → ∃ w' M,
                  (Builtin.append_ #[t0, t1] o.type #[.slice q len m, u']).run P w = .ok (.slice (some ⟨w.heap.size, 0, none⟩) (len + n) M) w' ∧ len + n ≤ M ∧
                  Goes V ρ s w { (s.new e (olds ++ news) (some (s.ncap, te.size))) with ncap := s.ncap + 1 } w' ((ρ.setC s.ncap M).setB s.next w.heap.size) := by
                intro olds hol hlt hk1 hk2 hfb hfc
                obtain ⟨os, o1, o2, o3⟩ := old_ok (P := P) hE.one hr hol hx1
                rw [← j2] at o3
                have hbyt : (len + n) * j.bytes ≤ 140737488355328 := by
                  rw [j3]
                  have := Nat.mul_le_mul hk1 hk2
                  omega
                have hrun := run_append_grow_src (P := P) w t0 t1 o.type e j zz h7 j1 j4 q len m os o3 u' n ns n2 hlt (by omega) (growslice_fits hlt hbyt)
                have hge := grownCap_ge w (len + n) m e
                refine ⟨_, _, hrun, hge, ?_⟩
                have hzc : (Builtin.zeroCells zz.cells (grownCap w (len + n) m e - (len + n))) = (Builtin.zeroCells zz.cells (grownCap w (len + n) m e - (len + n))).toList.toArray := by simp
                rw [hzc]
                refine grow_ok e te.size news olds ns os _ hzne hr hfb hfc o1 n1 _ ?_
                rw [o2, hnl, Array.length_toList, size_zeroCells, j6, ← Nat.add_mul, ← Nat.add_mul]
                congr 1
                omega
              have olen : ∀ k olds, srcA s te.size (.one (.c (.slice p len cap))) = some (k, olds) → k = len := by
                intro k olds hk
                unfold srcA at hk
                split at hk
                · rename_i he
                  injection he with he
                  injection he with he
                  injection he with e1 e2 e3
                  subst e2
                  injection hk with hk
                  injection hk with hk _
                  exact hk.symm
                · rename_i he
                  injection he with he
                  injection he with he
                  cases he
                · rename_i he
                  injection he with he
                  injection he with he
                  injection he with e1 e2 e3
                  subst e2
                  split at hk
                  · split at hk
                    · injection hk with hk
                      injection hk with hk _
                      exact hk.symm
                    · cases hk
                  · cases hk
                · cases hk
              split at h
              · rename_i c0
                have hm0 : m = c0 := hcap
                subst hm0
                split at h
                · rename_i hroom
                  split at h
                  · cases hnb : Nat.beq n 0
                    · simp [hnb] at h
                    · simp only [hnb, cond_true, Option.some.injEq, Prod.mk.injEq] at h
                      obtain ⟨e1, e2⟩ := h
                      subst e1; subst e2
                      have hn0 := Nat.eq_of_beq_eq_true hnb
                      subst hn0
                      rcases hq with ⟨_, rfl⟩ | ⟨i2, off2, b, hq, _⟩
                      · have hrun := run_append_nil0 (P := P) w t0 t1 o.type e j h7 j1 len m u' ns n2 (by omega)
                        exact wp_val (run1 _ _ hrun) (hK ρ _ w (Goes.refl V hr) (vr_c ⟨m, rfl, by omega, rfl⟩))
                      · cases hq
                  · rename_i i2 off
                    cases hB : look s.heap i2 with
                    | none => simp [hB] at h
                    | some B =>
                      simp only [hB] at h
                      cases hov : over B.cells (off + len * te.size) news with
                      | none => simp [hov] at h
                      | some mm =>
                        simp only [hov, Option.some.injEq, Prod.mk.injEq] at h
                        obtain ⟨e1, e2⟩ := h
                        subst e1; subst e2
                        rcases hq with ⟨hq, _⟩ | ⟨i3, off3, b, hq, hb, rfl⟩
                        · cases hq
                        · injection hq with hq
                          injection hq with q1 q2
                          subst q1; subst q2
                          obtain ⟨b', cs, g1, g2, pre, post, g3, g4, g5⟩ := hr.h _ B hB
                          rw [hb] at g1
                          injection g1 with g1
                          subst g1
                          obtain ⟨k1, k2⟩ := F2.over _ g4 n1 hov
                          have hfit : off + len * j.size + ns.length ≤ cs.size := by
                            rw [← Array.length_toList, g3, List.length_append, j2]
                            omega
                          have hrun := run_append_row (P := P) w t0 t1 o.type e B.ty j h7 j1 b off len m cs u' n ns n2 g2 hroom hfit
                          have hcs : cs.toList.take (off + len * j.size) ++ ns ++ cs.toList.drop (off + len * j.size + ns.length) = (pre.take (off + len * te.size) ++ ns ++ pre.drop (off + len * te.size + ns.length)) ++ post := by
                            rw [g3, j2, List.take_append_of_le_length (by omega), List.drop_append_of_le_length (by omega)]
                            simp
                          rw [hcs] at hrun
                          have hgo := go_store (cs' := ((pre.take (off + len * te.size) ++ ns ++ pre.drop (off + len * te.size + ns.length)) ++ post).toArray) V mm hr hB hb g2 (br_put V g3 g4 g5 n1 hov)
                          exact wp_val (run1 _ _ hrun) (hK ρ _ _ hgo (vr_c ⟨b, m, hb, rfl, hroom, rfl⟩))
                · rename_i hroom
                  split at h
                  · rename_i hk
                    split at h
                    · rename_i kk olds hol
                      have hkl := olen _ _ hol
                      subst hkl
                      injection h with h
                      injection h with e1 e2
                      subst e1; subst e2
                      obtain ⟨w', M, r1, r2, r3⟩ := grow olds hol (by omega) hk.1 hk.2 (hf.b _ (Nat.le_refl _) (by simp [St.new])) (hf.c _ (Nat.le_refl _) (by simp [St.new]))
                      exact wp_val (run1 _ _ r1) (hK _ _ _ r3 (vr_c ⟨w.heap.size, M, by simp [Rho.setB], by simp [CapR, Rho.setB, Rho.setC], r2, rfl⟩))
                    · cases h
                  · cases h
              · rename_i jc
                have hcap : ρ.cap jc = some m := hcap
                split at h
                · rename_i i2
                  rcases hq with ⟨hq, _⟩ | ⟨i3, off3, b, hq, hb, rfl⟩
                  · cases hq
                  · injection hq with hq
                    injection hq with q1 q2
                    subst q1; subst q2
                    cases hB : look s.heap i2 with
                    | none => simp [hB] at h
                    | some B =>
                      simp only [hB] at h
                      obtain ⟨b', cs, g1, g2, pre, post, g3, g4, g5⟩ := hr.h _ B hB
                      rw [hb] at g1
                      injection g1 with g1
                      subst g1
                      have hcm := capMin_ok (cap := .sym jc) (size := te.size) (p := some (i2, 0)) hr hcap hn (by
                        rintro q' e1
                        injection e1 with e1
                        subst e1
                        exact ⟨b, hb⟩)
                      split at h
                      · rename_i hle
                        cases hov : over B.cells (len * te.size) news with
                        | none => simp [hov] at h
                        | some mm =>
                          simp only [hov, Option.some.injEq, Prod.mk.injEq] at h
                          obtain ⟨e1, e2⟩ := h
                          subst e1; subst e2
                          obtain ⟨k1, k2⟩ := F2.over _ g4 n1 hov
                          have hfit : 0 + len * j.size + ns.length ≤ cs.size := by
                            rw [← Array.length_toList, g3, List.length_append, j2]
                            omega
                          have hrun := run_append_row (P := P) w t0 t1 o.type e B.ty j h7 j1 b 0 len m cs u' n ns n2 g2 (by omega) hfit
                          have hcs : cs.toList.take (0 + len * j.size) ++ ns ++ cs.toList.drop (0 + len * j.size + ns.length) = (pre.take (len * te.size) ++ ns ++ pre.drop (len * te.size + ns.length)) ++ post := by
                            rw [g3, j2, Nat.zero_add, List.take_append_of_le_length (by omega), List.drop_append_of_le_length (by omega)]
                            simp
                          rw [hcs] at hrun
                          have hgo := go_store (cs' := ((pre.take (len * te.size) ++ ns ++ pre.drop (len * te.size + ns.length)) ++ post).toArray) V mm hr hB hb g2 (br_put V g3 g4 g5 n1 hov)
                          exact wp_val (run1 _ _ hrun) (hK ρ _ _ hgo (vr_c ⟨b, m, hb, hcap, by omega, rfl⟩))
                      · rename_i hle
                        split at h
                        · rename_i j' sz olds hmo hol
                          split at h
                          · rename_i hk
                            obtain ⟨p1, p2, p3, p4, p5⟩ := hk
                            subst p1; subst p2; subst p3
                            injection h with h
                            injection h with e1 e2
                            subst e1; subst e2
                            unfold MR at g5
                            rw [hmo] at g5
                            simp only [if_neg hzne] at g5
                            obtain ⟨m', r1, r2⟩ := g5
                            rw [hcap] at r1
                            injection r1 with r1
                            subst r1
                            have hfb : ρ.blk s.next = none := hf.b _ (Nat.le_refl _) (Nat.lt_succ_self _)
                            have hfc : ρ.cap s.ncap = none := hf.c _ (Nat.le_refl _) (Nat.lt_succ_self _)
                            by_cases hroom : len + n ≤ m
                            · have hfit : 0 + len * j.size + ns.length ≤ cs.size := by
                                rw [r2, j2, hnl, Nat.zero_add, ← Nat.add_mul]
                                exact Nat.mul_le_mul_right _ hroom
                              have hrun := run_append_row (P := P) w t0 t1 o.type B.ty B.ty j h7 j1 b 0 len m cs u' n ns n2 g2 hroom hfit
                              obtain ⟨o1, o2, o3⟩ := g4.sub hol
                              rw [List.drop_zero] at o1
                              have ho3 : len * te.size ≤ pre.length := by omega
                              have hcs : cs.toList.take (0 + len * j.size) ++ ns ++ cs.toList.drop (0 + len * j.size + ns.length) = (pre.take (len * te.size) ++ ns) ++ cs.toList.drop (len * te.size + ns.length) := by
                                rw [j2, Nat.zero_add]
                                congr 2
                                rw [g3, List.take_append_of_le_length (by omega)]
                              rw [hcs] at hrun
                              have hgo := go_eat V (olds ++ news) (m := m) (sz := te.size) (cs' := ((pre.take (len * te.size) ++ ns) ++ cs.toList.drop (len * te.size + ns.length)).toArray) hzne hr hfb hfc hB hb g2 (pre.take (len * te.size) ++ ns) _ rfl (o1.append n1) (by
                                rw [← r2]
                                simp only [List.size_toArray, List.length_append, List.length_take, List.length_drop, Array.length_toList]
                                have : len * te.size + ns.length ≤ cs.size := by
                                  rw [j2] at hfit
                                  omega
                                omega)
                              exact wp_val (run1 _ _ hrun) (hK _ _ _ hgo (vr_c ⟨b, m, by simp [Rho.setB], by simp [CapR, Rho.setB, Rho.setC], hroom, rfl⟩))
                            · have hfg := go_forget V hr hB
                              have hol' : srcA s te.size (.one (.c (.slice (some (i2, 0)) len (.sym j')))) = some (len, olds) := by
                                simp only [srcA, hB, hol]
                              obtain ⟨os, o1, o2, o3⟩ := old_ok (P := P) hE.one hr hol' hx1
                              rw [← j2] at o3
                              have hbyt : (len + n) * j.bytes ≤ 140737488355328 := by
                                rw [j3]
                                have := Nat.mul_le_mul p4 p5
                                omega
                              have hlt : m < len + n := by omega
                              have hrun := run_append_grow_src (P := P) w t0 t1 o.type B.ty j zz h7 j1 j4 _ len m os o3 u' n ns n2 hlt (by omega) (growslice_fits hlt hbyt)
                              have hge := grownCap_ge w (len + n) m B.ty
                              have hzc : (Builtin.zeroCells zz.cells (grownCap w (len + n) m B.ty - (len + n))) = (Builtin.zeroCells zz.cells (grownCap w (len + n) m B.ty - (len + n))).toList.toArray := by simp
                              rw [hzc] at hrun
                              have hgr := grow_ok (s := { s with heap := del s.heap i2, dirty := i2 :: s.dirty }) B.ty te.size news olds ns os (Builtin.zeroCells zz.cells (grownCap w (len + n) m B.ty - (len + n))).toList hzne hfg.1 hfb hfc o1 n1 (grownCap w (len + n) m B.ty) (by
                                rw [o2, hnl, Array.length_toList, size_zeroCells, j6, ← Nat.add_mul, ← Nat.add_mul]
                                congr 1
                                omega)
                              exact wp_val (run1 _ _ hrun) (hK _ _ _ (hfg.trans V hgr) (vr_c ⟨w.heap.size, _, by simp [Rho.setB], by simp [CapR, Rho.setB, Rho.setC], hge, rfl⟩))
                          · cases h
                        · cases h
                · cases h
            · simp [hz0] at h
      · cases h
    · cases h
  · cases h
end
end Ab
end Go.Proofs.YtbfppnppijcnlaaGreat
namespace Go.Proofs.YtbfppnppijcnlaaGreat
namespace Ab
set_option linter.unusedVariables false
set_option linter.unusedSimpArgs false
section
variable {P : Program} {V : Nat → Value} {E : Env}
theorem zeroCells_list (z : Array Value) (hz : 0 < z.size) (n : Nat) : (Builtin.zeroCells z n).toList = (List.replicate n z.toList).flatten := by
  unfold Builtin.zeroCells
  have e := range'_cells z hz n 0
  rw [Nat.zero_mul] at e
  rw [Array.toList_map, Array.toList_range, List.range_eq_range', ← e]
theorem op_clear (hE : EnvOK P V E) {t : Sl} {s s' : St} {o : Oper} {c : Call} {x : AV} (ho : o.op = .call c) (hc : c.callee = .builtin .clear) (hx : evals t c.args.toList = [x]) (h : clearA E s c.argTypes x = some s') : OpOK P V t s o .any s' := by
  intro ρ a w ht hr hf K Q hK
  have he := evals_ok ht c.args.toList
  rw [hx] at he
  obtain ⟨u, hu, hx1⟩ : ∃ u, c.args.map a.eval = #[u] ∧ VR V ρ x u := by
    match hl : c.args.toList.map a.eval, he with
    | [u], he =>
      refine ⟨u, ?_, he.1⟩
      apply Array.ext'
      simpa using hl
  unfold clearA at h
  cases h0 : c.argTypes[0]? with
  | none => simp [h0] at h
  | some ty =>
    simp only [h0] at h
    have run1 : ∀ r w', (Builtin.clear_ c.argTypes o.type #[u]).run P w = .ok r w' → (execOp a.eval o).run P w = .ok (.value r) w' := by
      intro r w' hr
      simp [execOp, ho, resolve, hc, hu, invoke, builtin, hr]
    split at h
    · rename_i ti hti
      obtain ⟨i, z, h1, h2, h3, h4, h5, h6, h7⟩ := zero_ok hE hti ρ
      obtain ⟨q, m, rfl⟩ := hx1
      split at h
      · rename_i e hd
        rw [hd] at h7
        injection h with h
        subst h
        refine wp_val (run1 (.tuple #[]) w ?_) (hK ρ _ w (Goes.refl V hr) trivial)
        simp [Builtin.clear_, h0, run_underlying h7]
      · cases h
    · rename_i ti p n cap hti
      obtain ⟨i, z, h1, h2, h3, h4, h5, h6, h7⟩ := zero_ok hE hti ρ
      obtain ⟨q, m, rfl, hcap, hn, hq⟩ := slice_form (V := V) (ρ := ρ) hx1
      split at h
      · rename_i e hd
        rw [hd] at h7
        cases hte : E.ty e with
        | none => simp [hte] at h
        | some te =>
          simp only [hte] at h
          obtain ⟨j, zz, j1, j2, j3, j4, j5, j6, j7⟩ := zero_ok hE hte ρ
          cases hnb : Nat.beq n 0
          · simp only [hnb, cond_false] at h
            have hn0 : n ≠ 0 := by
              intro e
              rw [e] at hnb
              cases hnb
            obtain ⟨n', rfl⟩ : ∃ n', n = n' + 1 := ⟨n - 1, by omega⟩
            split at h
            · injection h with h
              subst h
              rcases hq with ⟨_, rfl⟩ | ⟨i2, off2, b, hq, _⟩
              · refine wp_val (run1 (.tuple #[]) w ?_) (hK ρ _ w (Goes.refl V hr) trivial)
                simp [Builtin.clear_, h0, run_underlying h7]
              · cases hq
            · rename_i i2 off
              cases hB : look s.heap i2 with
              | none => simp [hB] at h
              | some B =>
                simp only [hB] at h
                cases hov : over B.cells off (rep te.zero (n' + 1)) with
                | none => simp [hov] at h
                | some mm =>
                  simp only [hov, Option.some.injEq] at h
                  subst h
                  rcases hq with ⟨hq, _⟩ | ⟨i3, off3, b, hq, hb, rfl⟩
                  · cases hq
                  · injection hq with hq
                    injection hq with q1 q2
                    subst q1; subst q2
                    obtain ⟨b', cs, g1, g2, pre, post, g3, g4, g5⟩ := hr.h _ B hB
                    rw [hb] at g1
                    injection g1 with g1
                    subst g1
                    have hz : F2 (CR V ρ) (rep te.zero (n' + 1)) (Builtin.zeroCells zz.cells (n' + 1)).toList := by
                      by_cases hpos : 0 < zz.cells.size
                      · rw [zeroCells_list _ hpos]
                        exact rep_ok j5 _
                      · have e1 : zz.cells = #[] := Array.eq_empty_of_size_eq_zero (by omega)
                        rw [e1] at j5 ⊢
                        have e2 : te.zero = [] := by
                          have := j5.length
                          simp at this
                          exact this
                        have e3 : ∀ k, rep ([] : List AC) k = [] := by
                          intro k
                          induction k with
                          | zero => rfl
                          | succ k ih => simp [rep, ih]
                        rw [e2, e3]
                        have : (Builtin.zeroCells #[] (n' + 1)).toList = [] := by
                          apply List.eq_nil_of_length_eq_zero
                          simp [Builtin.zeroCells]
                        rw [this]
                        trivial
                    obtain ⟨k1, k2⟩ := F2.over _ g4 hz hov
                    have hone : ∀ u ∈ (Builtin.zeroCells zz.cells (n' + 1)).toList, u.oneCell' = true := by
                      intro u hu
                      obtain ⟨q, _, hq⟩ := hz.mem u hu
                      exact hq.one V hE.one
                    have hst := run_storeCells_at P b off B.ty (Builtin.zeroCells zz.cells (n' + 1)).toList 0 cs w g2 (by
                      rw [← Array.length_toList (xs := cs), g3, List.length_append]
                      omega) hone
                    have hcs : cs.toList.take (off + 0) ++ (Builtin.zeroCells zz.cells (n' + 1)).toList ++ cs.toList.drop (off + 0 + (Builtin.zeroCells zz.cells (n' + 1)).toList.length) = (pre.take off ++ (Builtin.zeroCells zz.cells (n' + 1)).toList ++ pre.drop (off + (Builtin.zeroCells zz.cells (n' + 1)).toList.length)) ++ post := by
                      rw [g3, List.take_append_of_le_length (by omega), List.drop_append_of_le_length (by omega)]
                      simp
                    rw [hcs] at hst
                    have hgo := go_store (cs' := ((pre.take off ++ (Builtin.zeroCells zz.cells (n' + 1)).toList ++ pre.drop (off + (Builtin.zeroCells zz.cells (n' + 1)).toList.length)) ++ post).toArray) V mm hr hB hb g2 (br_put V g3 g4 g5 hz hov)
                    refine wp_val (run1 (.tuple #[]) _ ?_) (hK ρ _ _ hgo trivial)
                    simp [Builtin.clear_, h0, run_underlying h7, zeroValue, typeInfo, j1, j4, hst]
          · simp only [hnb, cond_true, Option.some.injEq] at h
            subst h
            have hn0 := Nat.eq_of_beq_eq_true hnb
            subst hn0
            refine wp_val (run1 (.tuple #[]) w ?_) (hK ρ _ w (Goes.refl V hr) trivial)
            cases q <;> simp [Builtin.clear_, h0, run_underlying h7]
      · cases h
    · cases h
/-- What it is for calls to do what the interpreter says. -/
noncomputable def CallOK (P : Program) (V : Nat → Value) (call : Call1) : Prop :=
  ∀ f args s v s', call f args s = some (v, s') → ∀ ρ w (vals : Array Value), F2 (VR V ρ) args vals.toList → Rep V ρ s w → Free ρ s s' → Calls P f vals w fun e w' => ∃ c ρ', e = .returned c ∧ Goes V ρ s w s' w' ρ' ∧ VR V ρ' v c
noncomputable def CallUp (call : Call1) : Prop := ∀ f args s v s', call f args s = some (v, s') → s.next ≤ s'.next ∧ s.ncap ≤ s'.ncap
theorem mapc_ok {ρ : Rho} : ∀ {l : List AC} {m : List Value}, F2 (CR V ρ) l m → F2 (VR V ρ) (l.map (fun x => AV.one (.c x))) m
  | [], [], _ => trivial
  | _ :: _, _ :: _, h => ⟨h.1, mapc_ok h.2⟩
  | [], _ :: _, h => h.elim
  | _ :: _, [], h => h.elim
noncomputable def CallFn (E : Env) (call : Call1) : Prop := ∀ f args s r, call f args s = some r → ∃ g, E.fn f = some g
theorem op_call (hE : EnvOK P V E) {call : Call1} (hcall : CallOK P V call) (hfn : CallFn E call) {t : Sl} {s s' : St} {o : Oper} {c : Call} {f : Operand} {g : Nat} {cap : List AC} {v : AV} (ho : o.op = .call c) (hc : c.callee = .value f)
    (hev : eval t f = .fn g cap ∨ (eval t f = .one (.c (.fn g)) ∧ cap = [])) (h : call g (evals t c.args.toList ++ cap.map (fun x => .one (.c x))) s = some (v, s')) : OpOK P V t s o v s' := by
  intro ρ a w ht hr hf K Q hK
  have he := evals_ok ht c.args.toList
  have hfv := eval_ok ht f
  obtain ⟨cs, hfc, hcs⟩ : ∃ cs : Array Value, a.eval f = .func (.func g) #[] cs ∧ F2 (CR V ρ) cap cs.toList := by
    rcases hev with hev | ⟨hev, rfl⟩
    · rw [hev] at hfv
      exact hfv
    · rw [hev] at hfv
      exact ⟨#[], hfv, trivial⟩
  obtain ⟨fn, hfn⟩ := hfn _ _ _ _ h
  obtain ⟨_, hcf⟩ := hE.fn g fn hfn
  have hargs : F2 (VR V ρ) (evals t c.args.toList ++ cap.map (fun x => .one (.c x))) ((c.args.map a.eval) ++ cs).toList := by
    rw [Array.toList_append, Array.toList_map]
    exact he.append (mapc_ok hcs)
  have hres := hcall g _ s v s' h ρ w _ hargs hr hf
  have hrun : (execOp a.eval o).run P w = .ok (.enter g ((c.args.map a.eval) ++ cs)) w := by
    simp [execOp, ho, resolve, hc, hfc, Deferred.ofValue, invoke, hcf]
  unfold Oper.wp
  rw [hrun, Oper.upon_enter]
  refine hres.mono ?_
  rintro e w' ⟨c', ρ', rfl, h1, h2⟩
  exact hK ρ' c' w' h1 h2
theorem bytesA_ok {ρ : Rho} : ∀ {l : List AC} {bs : List Int} {ds : List Value}, bytesA l = some bs → F2 (CR V ρ) l ds → ds = bs.map (Value.int .u8)
  | [], bs, ds, h, hv => by
    simp only [bytesA, Option.some.injEq] at h
    subst h
    cases ds with
    | nil => rfl
    | cons _ _ => exact hv.elim
  | x :: r, bs, ds, h, hv => by
    match ds, hv with
    | v :: vs, hv =>
      unfold bytesA at h
      split at h
      · rename_i heq
        cases heq
      · rename_i n r' heq
        injection heq with e1 e2
        subst e1
        subst e2
        split at h
        · rename_i l hl
          simp only [Option.some.injEq] at h
          subst h
          have e : v = .int .u8 n := hv.1
          rw [List.map_cons, ← bytesA_ok hl hv.2, e]
        · cases h
      · cases h
theorem op_str (hE : EnvOK P V E) {t : Sl} {s : St} {o : Oper} {sr ds : Nat} {x : Operand} {v : AV} (ho : o.op = .convert sr ds x) (h : strA E s sr ds (eval t x) = some v) : OpOK P V t s o v s := by
  refine op_pure fun ρ a w ht hr => ?_
  have hx := eval_ok ht x
  unfold strA at h
  split at h
  · rename_i ti tj i off n c hti htj he
    rw [he] at hx h
    obtain ⟨ii, z, h1, h2, h3, h4, h5, h6, h7⟩ := zero_ok hE hti ρ
    obtain ⟨i', z', h1', h2', h3', h4', h5', h6', h7'⟩ := zero_ok hE htj ρ
    split at h
    · rename_i e hd hd'
      split at h
      · rename_i te hte
        obtain ⟨i2, z2, k1, k2, k3, k4, k5, k6, k7⟩ := zero_ok hE hte ρ
        split at h
        · rename_i hu8
          split at h
          · rename_i n' l hsrc
            split at h
            · rename_i bs hbs
              injection h with h
              subst h
              rw [hd] at h7
              rw [hd'] at h7'
              rw [hu8] at k7
              obtain ⟨b, m, hb, hm, hle, hv⟩ := hx
              have hsrc : (match look s.heap i with | some B => (match sub B.cells off (n * 1) with | some l => some (n, l) | none => none) | none => none) = some (n', l) := hsrc
              split at hsrc
              · rename_i B hB
                split at hsrc
                · rename_i l' hs
                  simp only [Option.some.injEq, Prod.mk.injEq] at hsrc
                  obtain ⟨rfl, rfl⟩ := hsrc
                  obtain ⟨ds', g1, g2, g3⟩ := load_sub V hr hB hb hs
                  have e := bytesA_ok hbs g2
                  subst e
                  have hl := run_loadCells_list (P := P) w ⟨b, off, none⟩ (bs.map (Value.int .u8)) g3
                  rw [g1, Nat.mul_one] at hl
                  refine ⟨_, ?_, rfl⟩
                  simp only [execOp, ho, hv, Sem.run_bind]
                  rw [run_convert_bytes_string w sr _ e (some ⟨b, off, none⟩) n m h7 k7 h7', run_bytesToString w ⟨b, off, none⟩ n m bs hl]
                  rfl
                · cases hsrc
              · cases hsrc
            · cases h
          · cases h
        · cases h
      · cases h
    · cases h
  · cases h
theorem noDeep (hE : EnvOK P V E) {call : Call1} (hfn : CallFn E call) (k : Nat) (args : List AV) : deepL call k args = none := by
  unfold deepL
  split
  · split
    · rename_i v s' h
      obtain ⟨fn, hfn⟩ := hfn _ _ _ _ h
      have := hE.bnd _ _ hfn
      omega
    · rfl
  · rfl
theorem opA_ok (hE : EnvOK P V E) {call : Call1} (hcall : CallOK P V call) (hfn : CallFn E call) {t : Sl} {s s' : St} {o : Oper} {v : AV} (h : opA E call t s o = some (v, s')) : OpOK P V t s o v s' := by
  simp only [opA_eq] at h
  unfold opA0 at h
  split at h
  · rename_i x ho
    simp only [Option.some.injEq, Prod.mk.injEq] at h
    obtain ⟨rfl, rfl⟩ := h
    exact op_move (.inl ho)
  · rename_i x ho
    simp only [Option.some.injEq, Prod.mk.injEq] at h
    obtain ⟨rfl, rfl⟩ := h
    exact op_move (.inr ho)
  · rename_i c x y ho
    split at h
    · rename_i k hk
      simp only [Option.some.injEq, Prod.mk.injEq] at h
      obtain ⟨rfl, rfl⟩ := h
      exact op_pick ho hk
    · cases h
  · rename_i ty ho
    split at h
    · rename_i ti hti
      simp only [Option.some.injEq, Prod.mk.injEq] at h
      obtain ⟨rfl, rfl⟩ := h
      exact op_alloc hE ho hti
    · cases h
  · rename_i ty x ho
    split at h
    · rename_i l hl
      simp only [Option.some.injEq, Prod.mk.injEq] at h
      obtain ⟨rfl, rfl⟩ := h
      exact op_box hE ho hl
    · cases h
  · rename_i ty parts ho
    split at h
    · rename_i ti hti
      split at h
      · rename_i fs hd
        cases hh : haveAll E fs.toList
        · simp [hh] at h
        · simp only [hh, cond_true] at h
          split at h
          · rename_i ps hp
            split at h
            · rename_i l hl
              simp only [Option.some.injEq, Prod.mk.injEq] at h
              obtain ⟨rfl, rfl⟩ := h
              exact op_buildS hE ho hti hd hh hp hl
            · cases h
          · cases h
      · rename_i n e hd
        split at h
        · rename_i te hte
          split at h
          · rename_i ps hp
            split at h
            · rename_i l hl
              simp only [Option.some.injEq, Prod.mk.injEq] at h
              obtain ⟨rfl, rfl⟩ := h
              exact op_buildE hE ho hti hd hte hp hl
            · cases h
          · cases h
        · cases h
      · cases h
    · cases h
  · rename_i ty len parts ho
    split at h
    · rename_i ti hti
      split at h
      · rename_i e hd
        split at h
        · rename_i te hte
          cases hb : (Nat.ble (len * te.size) 16777216 && !(Nat.beq te.size 0))
          · simp [hb] at h
          · simp only [hb, cond_true] at h
            simp only [Bool.and_eq_true, Bool.not_eq_true'] at hb
            split at h
            · rename_i ps hp
              split at h
              · rename_i l hl
                simp only [Option.some.injEq, Prod.mk.injEq] at h
                obtain ⟨rfl, rfl⟩ := h
                exact op_buildSlice hE ho hti hd hte hb.2 hb.1 hp hl
              · cases h
            · cases h
        · cases h
      · cases h
    · cases h
  · rename_i ty x ho
    split at h
    · rename_i v' hv
      simp only [Option.some.injEq, Prod.mk.injEq] at h
      obtain ⟨rfl, rfl⟩ := h
      exact op_load hE ho hv
    · rw [noDeep hE hfn] at h
      cases h
  · rename_i ty x y ho
    split at h
    · rename_i v' hv
      simp only [Option.some.injEq, Prod.mk.injEq] at h
      obtain ⟨rfl, rfl⟩ := h
      exact op_store hE ho hv
    · cases h
  · rename_i x ho
    split at h
    · rename_i p hp
      simp only [Option.some.injEq, Prod.mk.injEq] at h
      obtain ⟨rfl, rfl⟩ := h
      exact op_nil ho hp
    · cases h
  · rename_i op xt x y yt ho
    split at h
    · rename_i v' hv
      simp only [Option.some.injEq, Prod.mk.injEq] at h
      obtain ⟨rfl, rfl⟩ := h
      exact op_bin hE ho hv
    · cases h
  · rename_i op xt x ho
    split at h
    · rename_i v' hv
      simp only [Option.some.injEq, Prod.mk.injEq] at h
      obtain ⟨rfl, rfl⟩ := h
      exact op_un ho hv
    · cases h
  · rename_i a b x ho
    split at h
    · rename_i v' hv
      simp only [Option.some.injEq, Prod.mk.injEq] at h
      obtain ⟨rfl, rfl⟩ := h
      exact op_cvt hE ho hv
    · split at h
      · rename_i v' hv
        simp only [Option.some.injEq, Prod.mk.injEq] at h
        obtain ⟨rfl, rfl⟩ := h
        exact op_str hE ho hv
      · cases h
  · rename_i f first captured ho
    split at h
    · rename_i l h1 h2
      simp only [Option.some.injEq, Prod.mk.injEq] at h
      obtain ⟨rfl, rfl⟩ := h
      exact op_func ho h1 h2
    · cases h
  · rename_i ty l c ho
    exact op_makeSlice hE ho h
  · rename_i ty x lo hi mx ho
    exact op_slice hE ho h
  · rename_i st x f ho
    split at h
    · rename_i v' hv
      simp only [Option.some.injEq, Prod.mk.injEq] at h
      obtain ⟨rfl, rfl⟩ := h
      exact op_fieldAddr hE ho hv
    · rw [noDeep hE hfn] at h
      cases h
  · rename_i st x f ho
    split at h
    · rename_i v' hv
      simp only [Option.some.injEq, Prod.mk.injEq] at h
      obtain ⟨rfl, rfl⟩ := h
      exact op_field hE ho hv
    · cases h
  · rename_i ty x ix ho
    split at h
    · rename_i v' hv
      simp only [Option.some.injEq, Prod.mk.injEq] at h
      obtain ⟨rfl, rfl⟩ := h
      exact op_indexAddr hE ho hv
    · rw [noDeep hE hfn] at h
      cases h
  · rename_i ty x ix ho
    split at h
    · rename_i v' hv
      simp only [Option.some.injEq, Prod.mk.injEq] at h
      obtain ⟨rfl, rfl⟩ := h
      exact op_index hE ho hv
    · cases h
  · rename_i x i ho
    split at h
    · rename_i l hl
      split at h
      · rename_i v' hv
        simp only [Option.some.injEq, Prod.mk.injEq] at h
        obtain ⟨rfl, rfl⟩ := h
        exact op_extract ho hl hv
      · cases h
    · cases h
  · rename_i c ho
    split at h
    · rename_i f hc
      split at h
      · rename_i g cap hev
        cases hg : Nat.ble 1000000 g
        · simp only [hg, cond_false] at h
          exact op_call hE hcall hfn ho hc (.inl hev) h
        · simp [hg] at h
      · rename_i g hev
        cases hg : Nat.ble 1000000 g
        · simp only [hg, cond_false] at h
          exact op_call (cap := []) hE hcall hfn ho hc (.inr ⟨hev, rfl⟩) (by simpa using h)
        · simp [hg] at h
      · cases h
    · rename_i hc
      split at h
      · rename_i x hx
        split at h
        · rename_i v' hv
          simp only [Option.some.injEq, Prod.mk.injEq] at h
          obtain ⟨rfl, rfl⟩ := h
          exact op_len hE ho hc hx hv
        · cases h
      · cases h
    · rename_i hc
      split at h
      · rename_i x y hx
        cases hb : Nat.beq c.argTypes.size 2
        · simp [hb] at h
        · simp only [hb, cond_true] at h
          exact op_append hE ho hc hx (Nat.eq_of_beq_eq_true hb) h
      · cases h
    · rename_i hc
      split at h
      · rename_i x hx
        split at h
        · rename_i v' hv
          simp only [Option.some.injEq, Prod.mk.injEq] at h
          obtain ⟨rfl, rfl⟩ := h
          exact op_clear hE ho hc hx hv
        · cases h
      · cases h
    · rename_i hc
      split at h
      · rename_i l hl
        split at h
        · rename_i v' hv
          simp only [Option.some.injEq, Prod.mk.injEq] at h
          obtain ⟨rfl, rfl⟩ := h
          exact op_max ho hc hl hv
        · cases h
      · cases h
    · rename_i hc
      split at h
      · rename_i l hl
        split at h
        · rename_i v' hv
          simp only [Option.some.injEq, Prod.mk.injEq] at h
          obtain ⟨rfl, rfl⟩ := h
          exact op_min ho hc hl hv
        · cases h
      · cases h
    · cases h
  · cases h
end
end Ab
end Go.Proofs.YtbfppnppijcnlaaGreat
