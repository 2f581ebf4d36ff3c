/-
  Each operation of the interpreter does what the program's operation does.
  Conditions: none.
-/
import Derived.Test.YtddiclnkfhldlaaAbsW
import Derived.Laws.Rows
import Derived.Laws.Build
import Derived.Great.BuildSlice
namespace Go.Proofs.Ytddiclnkfhldlaa
namespace Ab
set_option linter.unusedVariables false
set_option linter.unusedSimpArgs false
/-- The tables tell the program's. -/
structure EnvOK (P : Program) (V : Nat → Value) (E : Env) : Prop where
  fn : ∀ f g, E.fn f = some g → P.funcs[f]? = some g ∧ ∀ args w, (callFunc f args).run P w = .ok (.enter f args) w
  ty : ∀ t ti, E.ty t = some ti → ∃ i z, P.info? t = some i ∧ i.size = ti.size ∧ i.bytes = ti.bytes ∧ i.zero = some z ∧ z.cells.toList.all isOne = true ∧ ti.zero = z.cells.toList.map cellOf ∧ z.cells.size = ti.size ∧ P.underlying t = some ti.desc ∧
    (ti.eqok = true → P.stoodInHeld t = false ∧ P.eqGuardType P.depth t = false)
  tab : ∀ op a b z, E.tab op a b = some z → ∀ ρ x y, CR V ρ a x → CR V ρ b y → ∃ k n k' n' c, x = .int k n ∧ y = .int k' n' ∧ CR V ρ z c ∧ ∀ xt, binOp op xt x y = .pure c
  cvt : ∀ k i z, E.cvt k (.sym i) = some z → ∀ ρ, ∃ k' n, V i = .int k' n ∧ CR V ρ z (.int k (k.wrap n))
  one : ∀ i, (V i).oneCell' = true
  mixed : P.follows .mixedOrders = true
section
variable {P : Program} {V : Nat → Value} {E : Env}
theorem cellOf_ok (ρ : Rho) : ∀ v : Value, isOne v = true → CR V ρ (cellOf v) v
  | .bool _, _ => rfl
  | .int _ _, _ => rfl
  | .float _ _, _ => rfl
  | .complex _ _ _, _ => rfl
  | .string _, _ => rfl
  | .pointer none, _ => rfl
  | .pointer (some _), _ => rfl
  | .slice none n c, _ => by
    show CR V ρ (if n ≤ c then AC.slice none n (.lit c) else .any) _
    by_cases h : n ≤ c
    · rw [if_pos h]
      exact ⟨c, rfl, h, rfl⟩
    · rw [if_neg h]
      exact rfl
  | .slice (some _) _ _, _ => rfl
  | .map _, _ => rfl
  | .chan _, _ => rfl
  | .func _ _ _, _ => rfl
  | .nilFunc, _ => rfl
  | .iface _ _, _ => rfl
  | .nilIface, _ => rfl
  | .agg _, h => by cases h
  | .tuple _, h => by cases h
theorem cellsOf_ok (ρ : Rho) : ∀ l : List Value, l.all isOne = true → F2 (CR V ρ) (l.map cellOf) l
  | [], _ => trivial
  | v :: l, h => by
    simp only [List.all_cons, Bool.and_eq_true] at h
    exact ⟨cellOf_ok ρ v h.1, cellsOf_ok ρ l h.2⟩
theorem absV_ok (ρ : Rho) (v : Value) : VR V ρ (absV v) v := by
  unfold absV
  split
  · rename_i cs
    cases hb : cs.toList.all isOne
    · exact trivial
    · exact ⟨cs, rfl, cellsOf_ok ρ _ hb⟩
  · exact trivial
  · rename_i h1 h2
    exact cellOf_ok ρ v (by cases v <;> first | rfl | exact absurd rfl (h1 _) | exact absurd rfl (h2 _))
theorem eval_ok {ρ : Rho} {t : Sl} {a : Act} (ht : TR V ρ t a) (x : Operand) : VR V ρ (eval t x) (a.eval x) := by
  cases x with
  | tmp i => exact ht.v i
  | const v => exact absV_ok ρ v
  | global g => exact trivial
  | func f => exact rfl
theorem evals_ok {ρ : Rho} {t : Sl} {a : Act} (ht : TR V ρ t a) : ∀ l : List Operand, F2 (VR V ρ) (evals t l) (l.map a.eval)
  | [] => trivial
  | x :: l => ⟨eval_ok ht x, evals_ok ht l⟩
theorem wp_val {o : Oper} {a : Act} {w w' : World} {K : Act → World → Prop} {Q : Exit → Act → World → Prop} {c : Value} (h : (execOp a.eval o).run P w = .ok (.value c) w') (hk : K (a.put o.dst c) w') : o.wp P a w K Q := by
  unfold Oper.wp
  rw [h]
  exact hk
theorem wp_skp {o : Oper} {a : Act} {w w' : World} {K : Act → World → Prop} {Q : Exit → Act → World → Prop} (h : (execOp a.eval o).run P w = .ok .skip w') (hk : K (a.put o.dst undef) w') : o.wp P a w K Q := by
  unfold Oper.wp
  rw [h]
  exact hk
theorem cells_ok {ρ : Rho} {x : AV} {v : Value} {l : List AC} (h : VR V ρ x v) (hl : cellsOf x = some l) (hone : ∀ i, (V i).oneCell' = true) : F2 (CR V ρ) l v.cells.toList := by
  unfold cellsOf at hl
  split at hl
  · injection hl with hl
    subst hl
    have h1 : CR V ρ _ v := h
    have h2 := h1.one V hone
    have : v.cells = #[v] := by cases v <;> first | rfl | cases h2
    rw [this]
    exact ⟨h1, trivial⟩
  · injection hl with hl
    subst hl
    obtain ⟨cs, rfl, h2⟩ := h
    exact h2
  · cases hl
/-- What it is for an operation to do what the interpreter says. -/
def OpOK (P : Program) (V : Nat → Value) (t : Sl) (s : St) (o : Oper) (v : AV) (s' : St) : Prop :=
  ∀ ρ a w, TR V ρ t a → Rep V ρ s w → Free ρ s s' → ∀ (K : Act → World → Prop) (Q : Exit → Act → World → Prop), (∀ ρ' c w', Goes V ρ s w s' w' ρ' → VR V ρ' v c → K (a.put o.dst c) w') → o.wp P a w K Q
theorem op_pure {t : Sl} {s : St} {o : Oper} {v : AV} (h : ∀ ρ a w, TR V ρ t a → Rep V ρ s w → ∃ c, (execOp a.eval o).run P w = .ok (.value c) w ∧ VR V ρ v c) : OpOK P V t s o v s := by
  intro ρ a w ht hr hf K Q hK
  obtain ⟨c, h1, h2⟩ := h ρ a w ht hr
  exact wp_val h1 (hK ρ c w (Goes.refl V hr) h2)
theorem op_move {t : Sl} {s : St} {o : Oper} {x : Operand} (ho : o.op = .move x ∨ o.op = .assign x) : OpOK P V t s o (eval t x) s := by
  refine op_pure fun ρ a w ht hr => ⟨a.eval x, ?_, eval_ok ht x⟩
  rcases ho with ho | ho <;> simp [execOp, ho]
theorem op_pick {t : Sl} {s : St} {o : Oper} {c x y : Operand} {k : Bool} (ho : o.op = .pick c x y) (hc : eval t c = .one (.c (.bool k))) : OpOK P V t s o (bif k then eval t x else eval t y) s := by
  refine op_pure fun ρ a w ht hr => ?_
  have h1 := eval_ok ht c
  rw [hc] at h1
  have h1 : a.eval c = .bool k := h1
  refine ⟨if k then a.eval x else a.eval y, ?_, ?_⟩
  · simp [execOp, ho, h1, asBool]
  · cases k
    · exact eval_ok ht y
    · exact eval_ok ht x
theorem zero_ok {t : Nat} {ti : TI} (hE : EnvOK P V E) (h : E.ty t = some ti) (ρ : Rho) : ∃ i z, P.info? t = some i ∧ i.size = ti.size ∧ i.bytes = ti.bytes ∧ i.zero = some z ∧ F2 (CR V ρ) ti.zero z.cells.toList ∧ z.cells.size = ti.size ∧ P.underlying t = some ti.desc := by
  obtain ⟨i, z, h1, h2, h3, h4, h5, h6, h7, h8, _⟩ := hE.ty t ti h
  exact ⟨i, z, h1, h2, h3, h4, by rw [h6]; exact cellsOf_ok ρ _ h5, h7, h8⟩
theorem op_alloc (hE : EnvOK P V E) {t : Sl} {s : St} {o : Oper} {ty : Nat} {ti : TI} (ho : o.op = .alloc ty) (h : E.ty ty = some ti) :
    OpOK P V t s o (.one (.c (.ptr (some (s.next, 0))))) (s.new ty ti.zero none) := by
  intro ρ a w ht hr hf K Q hK
  obtain ⟨i, z, h1, h2, h3, h4, h5, h6, h7⟩ := zero_ok hE h ρ
  have hg := go_new V ty ti.zero z.cells hr (hf.b _ (Nat.le_refl _) (by simp [St.new])) h5
  refine wp_val (c := .pointer (some ⟨w.heap.size, 0, none⟩)) (w' := w.alloc (.cells z.cells ty)) ?_ (hK _ _ _ hg ⟨w.heap.size, by simp [Rho.setB], rfl⟩)
  simp [execOp, ho, Instr.alloc, zeroValue, typeInfo, h1, h4, newVar, newRow]
theorem op_box (hE : EnvOK P V E) {t : Sl} {s : St} {o : Oper} {ty : Nat} {x : Operand} {l : List AC} (ho : o.op = .box ty x) (h : cellsOf (eval t x) = some l) :
    OpOK P V t s o (.one (.c (.ptr (some (s.next, 0))))) (s.new ty l none) := by
  intro ρ a w ht hr hf K Q hK
  have hc := cells_ok (eval_ok ht x) h hE.one
  have hg := go_new V ty l (a.eval x).cells hr (hf.b _ (Nat.le_refl _) (by simp [St.new])) hc
  refine wp_val (c := .pointer (some ⟨w.heap.size, 0, none⟩)) (w' := w.alloc (.cells (a.eval x).cells ty)) ?_ (hK _ _ _ hg ⟨w.heap.size, by simp [Rho.setB], rfl⟩)
  simp [execOp, ho, Instr.box, newVar, newRow]
theorem aggD {d : TypeDesc} : (match d with | .struct _ | .array _ _ => true | _ => false) = isAggD d := by cases d <;> rfl
theorem run_isAgg' {t : Nat} {d : TypeDesc} (w : World) (hu : P.underlying t = some d) : (isAgg t).run P w = .ok (isAggD d) w := by
  unfold isAgg
  simp only [Sem.run_bind, run_underlying hu, Result.andThen_ok]
  cases d <;> rfl
theorem load_ok (hE : EnvOK P V E) {s : St} {ty : Nat} {x v : AV} (h : loadA E s ty x = some v) {ρ : Rho} {w : World} {u : Value} (hr : Rep V ρ s w) (hu : VR V ρ x u) :
    ∃ ad c, u = .pointer (some ad) ∧ (loadVar ty ad).run P w = .ok c w ∧ VR V ρ v c := by
  unfold loadA at h
  split at h
  · rename_i ti i off hty
    obtain ⟨b, hb, rfl⟩ := hu
    cases hB : look s.heap i with
    | none => simp [hB] at h
    | some B =>
      simp only [hB] at h
      obtain ⟨ii, z, h1, h2, h3, h4, h5, h6, h7⟩ := zero_ok hE hty ρ
      cases hd : isAggD ti.desc
      · simp only [hd, cond_false] at h
        split at h
        · rename_i y hs
          injection h with h
          subst h
          obtain ⟨ds, g1, g2, g3⟩ := load_sub V hr hB hb hs
          match ds, g1, g2, g3 with
          | [u], _, g2, g3 =>
            have := g3 0 u rfl
            refine ⟨_, u, rfl, ?_, g2.1⟩
            unfold loadVar
            simp only [Sem.run_bind, run_isAgg' w h7, hd, Result.andThen_ok]
            have e0 : (⟨b, off, none⟩ : Addr).add 0 = ⟨b, off, none⟩ := by simp [Addr.add]
            rw [e0] at this
            simp [load, Sem.run, this]
        · cases h
      · simp only [hd, cond_true] at h
        cases hs : sub B.cells off ti.size with
        | none => simp [hs] at h
        | some l =>
          simp only [hs, Option.some.injEq] at h
          subst h
          obtain ⟨ds, g1, g2, g3⟩ := load_sub V hr hB hb hs
          refine ⟨_, .agg ds.toArray, rfl, ?_, ds.toArray, rfl, by simpa using g2⟩
          have hl := run_loadCells_list (P := P) w ⟨b, off, none⟩ ds g3
          unfold loadVar
          simp only [Sem.run_bind, run_isAgg' w h7, hd, Result.andThen_ok]
          simp [sizeOf, typeInfo, h1, h2, ← g1, hl]
  · cases h
theorem op_load (hE : EnvOK P V E) {t : Sl} {s : St} {o : Oper} {ty : Nat} {x : Operand} {v : AV} (ho : o.op = .load ty x) (h : loadA E s ty (eval t x) = some v) : OpOK P V t s o v s := by
  refine op_pure fun ρ a w ht hr => ?_
  obtain ⟨ad, c, h1, h2, h3⟩ := load_ok hE h hr (eval_ok ht x)
  exact ⟨c, by simp [execOp, ho, Instr.loadAt, h1, Instr.sureAddr, h2], h3⟩
theorem op_store (hE : EnvOK P V E) {t : Sl} {s s' : St} {o : Oper} {ty : Nat} {x y : Operand} (ho : o.op = .store ty x y) (h : storeA E s ty (eval t x) (eval t y) = some s') : OpOK P V t s o .undef s' := by
  intro ρ a w ht hr hf K Q hK
  unfold storeA at h
  split at h
  · rename_i ti i off l hty hx hy
    have hx' := eval_ok ht x
    rw [hx] at hx'
    obtain ⟨b, hb, hx'⟩ := hx'
    have hc := cells_ok (eval_ok ht y) hy hE.one
    obtain ⟨ii, z, h1, h2, h3, h4, h5, h6, h7⟩ := zero_ok hE hty ρ
    cases hB : look s.heap i with
    | none => simp [hB] at h
    | some B =>
      simp only [hB] at h
      cases hl : Nat.beq l.length ti.size
      · simp [hl] at h
      · simp only [hl, cond_true] at h
        have hl := Nat.eq_of_beq_eq_true hl
        cases hm : over B.cells off l with
        | none => simp [hm] at h
        | some m =>
          simp only [hm, Option.some.injEq] at h
          subst h
          obtain ⟨b', cs, g1, g2, pre, post, g3, g4, g5⟩ := hr.h i B hB
          rw [hb] at g1
          injection g1 with g1
          subst g1
          obtain ⟨k1, k2⟩ := F2.over off g4 hc hm
          have hz : off + 0 + (a.eval y).cells.toList.length ≤ cs.size := by
            rw [← Array.length_toList, g3, List.length_append]
            omega
          have hone : ∀ u ∈ (a.eval y).cells.toList, u.oneCell' = true := by
            intro u hu
            obtain ⟨q, _, hq⟩ := hc.mem u hu
            exact hq.one V hE.one
          have hst := run_storeCells_at P b off B.ty (a.eval y).cells.toList 0 cs w g2 hz hone
          have hcs : cs.toList.take (off + 0) ++ (a.eval y).cells.toList ++ cs.toList.drop (off + 0 + (a.eval y).cells.toList.length) = (pre.take off ++ (a.eval y).cells.toList ++ pre.drop (off + (a.eval y).cells.toList.length)) ++ post := by
            rw [g3, List.take_append_of_le_length (by omega), List.drop_append_of_le_length (by omega)]
            simp
          rw [hcs] at hst
          have hg := go_store (cs' := ((pre.take off ++ (a.eval y).cells.toList ++ pre.drop (off + (a.eval y).cells.toList.length)) ++ post).toArray) V m hr hB hb g2 (br_put V g3 g4 g5 hc hm)
          refine wp_skp ?_ (hK ρ undef _ hg rfl)
          have hsz : (a.eval y).cells.size = ti.size := by rw [← Array.length_toList, ← hc.length, hl]
          simp [execOp, ho, Instr.storeAt, hx', Instr.sureAddr, storeVar, sizeOf, typeInfo, h1, h2, hsz, hst]
  · cases h
end
end Ab
end Go.Proofs.Ytddiclnkfhldlaa
