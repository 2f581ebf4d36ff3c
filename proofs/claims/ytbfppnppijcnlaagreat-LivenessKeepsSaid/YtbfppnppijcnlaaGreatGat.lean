/-
  Where the two gateways are drawn: what is told of them from there on.
  Conditions: none.
-/
import Derived.Test.YtbfppnppijcnlaaGreatNetP
namespace Go.Proofs.YtbfppnppijcnlaaGreat
namespace Ab
open Go.RowKit
set_option linter.unusedVariables false
set_option linter.unusedSimpArgs false
set_option maxRecDepth 100000
--DEFS
/-- The groups of the two gateways: six classes. -/
noncomputable def grpC (c : Nat) : List Int × List Int := match c with | 0 => ([31], [31]) | 1 => ([31, 1024], [31, 1024]) | 2 => ([31, 1024], [1024, 31]) | 3 => ([1024, 31], [31, 1024]) | 4 => ([31, 1024], [31]) | _ => ([1024], [31])
noncomputable def gwN (id : Int) (r n b c : Nat) : List AC := setAt' (setAt' (gwI id) 4 (.sym r)) 5 (.slice (some (b, 0)) n (.sym c))
noncomputable def grpB (l : List Int) (c : Nat) : Blk := ⟨3, l.map (AC.int .i64), some (c, 1)⟩
noncomputable def gwV (c : Nat) (r : St) : AV := .tup [.agg (gwN 0 30 (grpC c).1.length r.next r.ncap), .agg (gwN 1 32 (grpC c).2.length (r.next + 1) (r.ncap + 1))]
noncomputable def gwSt (c : Nat) (r : St) : St := { r with heap := (r.next + 1, grpB (grpC c).2 (r.ncap + 1)) :: (r.next, grpB (grpC c).1 r.ncap) :: r.heap, next := r.next + 2, ncap := r.ncap + 2, dirty := [] }
--END
theorem grpC_ok : ∀ k, k < 12 → ∃ c, c < 6 ∧ glA k = (grpC c).1 ∧ glB k = (grpC c).2
  | 0, _ => ⟨0, by omega, rfl, rfl⟩
  | 1, _ => ⟨1, by omega, rfl, rfl⟩
  | 2, _ => ⟨2, by omega, rfl, rfl⟩
  | 3, _ => ⟨3, by omega, rfl, rfl⟩
  | 4, _ => ⟨4, by omega, rfl, rfl⟩
  | 5, _ => ⟨0, by omega, rfl, rfl⟩
  | 6, _ => ⟨0, by omega, rfl, rfl⟩
  | 7, _ => ⟨0, by omega, rfl, rfl⟩
  | 8, _ => ⟨0, by omega, rfl, rfl⟩
  | 9, _ => ⟨0, by omega, rfl, rfl⟩
  | 10, _ => ⟨0, by omega, rfl, rfl⟩
  | 11, _ => ⟨5, by omega, rfl, rfl⟩
  | k + 12, h => by omega
noncomputable def tIdT (l : List Nat) : Tell := { f := (shS l).heap.map (fun x => (x.1, x.1)), fc := (List.range 12).map (fun i => (i, CS.old i)), src := id, p := fun _ => true, lit := fun _ => none }
theorem shClosed : (all28.all fun l => retOK (tIdT l) (shT l) (shS l) (shT l) (shS l) && (shS l).heap.all fun x => !(Nat.beq x.2.ty 3) && (match look (shS l).heap x.1 with | some B => Nat.beq B.ty x.2.ty | none => false)) = true := by kernel_rfl
theorem lkN_id : ∀ {H : List (Nat × Blk)} {j i : Nat}, lkN (H.map fun x => (x.1, x.1)) j = some i → i = j ∧ ∃ x ∈ H, x.1 = j
  | x :: r, j, i, h => by
    simp only [List.map_cons, lkN] at h
    by_cases e : x.1 = j
    · subst e
      simp only [Nat.beq_refl, cond_true, Option.some.injEq] at h
      exact ⟨h.symm, x, List.mem_cons_self, rfl⟩
    · simp only [beq_no e, cond_false] at h
      obtain ⟨h1, y, h2, h3⟩ := lkN_id h
      exact ⟨h1, y, List.mem_cons_of_mem _ h2, h3⟩
theorem ruK_but {v : Value} {DK : Nat → Prop} {wK : World} (h : RuK v DK wK) {bG : Nat} {cs : Array Value} (hb : wK.heap[bG]? = some (.cells cs 3 (0, 0))) : RuK v (fun b => DK b ∧ b ≠ bG) wK := by
  obtain ⟨l, W, ρ, hl, hone, hr, hc, hv, hd, hbox⟩ := h
  have hck := List.all_eq_true.1 shClosed l hl
  simp only [Bool.and_eq_true] at hck
  obtain ⟨h1, h2⟩ := hck
  have ht : TR W ρ (shT l) { tmps := #[v] ++ Array.replicate (1 - (#[v] : Array Value).size) undef, defers := [] } := pad_tr (args := [.one (.c (shV l))]) (vals := #[v]) ⟨hv, trivial⟩ (by show 1 ≤ 1; omega)
  obtain ⟨k1, k2, k3, k4, k5⟩ := tell_all (V := W) (V' := W) (T := tIdT l) hone (fun j _ => rfl) (fun j b e => by cases e) (fun j x v e => by cases e) h1 ht hr
  refine ⟨l, W, ρ.tell (tIdT l), hl, hone, k2, ⟨k3, k4⟩, k1.v 0, fun i b hib => ?_, hbox⟩
  obtain ⟨j, e1, e2⟩ := k5 i b hib
  obtain ⟨rfl, x, hx, hxi⟩ := lkN_id e1
  refine ⟨hd _ b e2, ?_⟩
  rintro rfl
  have h3 := List.all_eq_true.1 h2 x hx
  simp only [Bool.and_eq_true, Bool.not_eq_true'] at h3
  obtain ⟨h3, h4⟩ := h3
  rw [hxi] at h4
  split at h4
  · rename_i B hB
    obtain ⟨b', cs', g1, g2, _⟩ := hr.h _ _ hB
    rw [e2] at g1
    injection g1 with g1
    subst g1
    rw [hb] at g2
    injection g2 with g2
    injection g2 with _ g2
    have h4 := Nat.eq_of_beq_eq_true h4
    rw [← h4, ← g2, Nat.beq_refl] at h3
    cases h3
  · cases h4
/-- A block that was told of nowhere is told. -/
theorem rep_adopt {V : Nat → Value} {ρ : Rho} {r : St} {w : World} (hr : Rep V ρ r w) (hc : Clean ρ r) {b cap ty : Nat} {cells : List AC} {cs : Array Value} {pre post : List Value} (hb : w.heap[b]? = some (.cells cs ty (0, 0))) (hcs : cs.toList = pre ++ post) (hpre : F2 (CR V ρ) cells pre) (hcap : cs.size = cap) (hno : ∀ i, ρ.blk i ≠ some b) :
    Rep V ((ρ.setB r.next b).setC r.ncap cap) { r with heap := (r.next, ⟨ty, cells, some (r.ncap, 1)⟩) :: r.heap, next := r.next + 1, ncap := r.ncap + 1 } w ∧ Clean ((ρ.setB r.next b).setC r.ncap cap) { r with heap := (r.next, ⟨ty, cells, some (r.ncap, 1)⟩) :: r.heap, next := r.next + 1, ncap := r.ncap + 1 } ∧ Le ρ ((ρ.setB r.next b).setC r.ncap cap) ∧
      ((ρ.setB r.next b).setC r.ncap cap).blk r.next = some b ∧ ((ρ.setB r.next b).setC r.ncap cap).cap r.ncap = some cap ∧ ∀ i c, ((ρ.setB r.next b).setC r.ncap cap).blk i = some c → ρ.blk i = some c ∨ c = b := by
  have hle : Le ρ ((ρ.setB r.next b).setC r.ncap cap) := (setB_le (hc.b _ (Nat.le_refl _))).trans (setC_le (ρ := ρ.setB r.next b) (hc.c _ (Nat.le_refl _)))
  have hblk : ∀ i c, ((ρ.setB r.next b).setC r.ncap cap).blk i = some c → (i ≠ r.next ∧ ρ.blk i = some c) ∨ (i = r.next ∧ c = b) := by
    intro i c h
    have h : (if i = r.next then some b else ρ.blk i) = some c := h
    by_cases e : i = r.next
    · rw [if_pos e] at h
      injection h with h
      exact .inr ⟨e, h.symm⟩
    · rw [if_neg e] at h
      exact .inl ⟨e, h⟩
  have hbs : b < w.heap.size := by
    obtain ⟨h, _⟩ := Array.getElem?_eq_some_iff.1 hb
    exact h
  have h0 : ((ρ.setB r.next b).setC r.ncap cap).blk r.next = some b := if_pos rfl
  have h1 : ((ρ.setB r.next b).setC r.ncap cap).cap r.ncap = some cap := if_pos rfl
  refine ⟨⟨?_, ?_, ?_, ?_⟩, ⟨?_, ?_⟩, hle, h0, h1, ?_⟩
  · intro i B hB
    rw [look_cons] at hB
    by_cases e : r.next = i
    · rw [if_pos e] at hB
      injection hB with hB
      subst hB
      subst e
      refine ⟨b, cs, h0, hb, pre, post, hcs, hpre.mono fun _ _ k => CR.mono V hle k, ?_⟩
      unfold MR
      simp only
      rw [if_neg (by omega)]
      exact ⟨cap, h1, by omega⟩
    · rw [if_neg e] at hB
      obtain ⟨b', cs', g1, g2, g3⟩ := hr.h i B hB
      exact ⟨b', cs', hle.1 _ _ g1, g2, g3.mono V hle⟩
  · intro i j B C c hB hC hi hj
    rcases hblk i c hi with ⟨e1, x1⟩ | ⟨e1, x1⟩
    · rcases hblk j c hj with ⟨e2, x2⟩ | ⟨e2, x2⟩
      · rw [look_cons, if_neg (fun e => e1 e.symm)] at hB
        rw [look_cons, if_neg (fun e => e2 e.symm)] at hC
        exact hr.inj i j B C c hB hC x1 x2
      · subst x2
        exact (hno i x1).elim
    · rcases hblk j c hj with ⟨e2, x2⟩ | ⟨e2, x2⟩
      · subst x1
        exact (hno j x2).elim
      · rw [e1, e2]
  · intro i c hi
    rcases hblk i c hi with ⟨e1, x1⟩ | ⟨e1, x1⟩
    · exact hr.bnd i c x1
    · rw [x1]
      exact hbs
  · intro i B hB
    rw [look_cons] at hB
    by_cases e : r.next = i
    · show i < r.next + 1
      omega
    · rw [if_neg e] at hB
      have := hr.lt i B hB
      show i < r.next + 1
      omega
  · intro i hi
    have hi : r.next + 1 ≤ i := hi
    show (if i = r.next then some b else ρ.blk i) = none
    rw [if_neg (by omega)]
    exact hc.b i (by omega)
  · intro i hi
    have hi : r.ncap + 1 ≤ i := hi
    show (if i = r.ncap then some cap else ρ.cap i) = none
    rw [if_neg (by omega)]
    exact hc.c i (by omega)
  · intro i c h
    rcases hblk i c h with ⟨_, x⟩ | ⟨_, x⟩
    · exact .inl x
    · exact .inr x
theorem ints_f2 {V : Nat → Value} {ρ : Rho} : ∀ l : List Int, F2 (CR V ρ) (l.map (AC.int .i64)) (l.map (Value.int .i64))
  | [] => trivial
  | _ :: r => ⟨rfl, ints_f2 r⟩
theorem gwN_f2 {V : Nat → Value} {ρ : Rho} {cs : List Value} {id : Int} {r n b c : Nat} {v4 v5 : Value} (h : F2 (CR V ρ) (gwI id) cs) (h4 : cs[4]? = some v4) (h5 : cs[5]? = some v5) (e4 : CR V ρ (.sym r) v4) (e5 : CR V ρ (.slice (some (b, 0)) n (.sym c)) v5) : F2 (CR V ρ) (gwN id r n b c) cs :=
  f2_set' 5 (f2_set' 4 h h4 e4) h5 e5
/-- What is known of the two gateways when they are drawn. -/
theorem gw_after {w w2 : World} {k M : Nat} (hk : k < 12) {cs1 cs2 : Array Value} (hM1 : w.heap.size ≤ M) (hM2 : M ≤ w2.heap.size) (hG1 : GwF 0 (glA k) cs1.toList w.heap.size M w2) (hG2 : GwF 1 (glB k) cs2.toList M w2.heap.size w2) {A : Nat → Value} (hA : ∀ i, (A i).oneCell' = true) :
    ∃ c, c < 6 ∧ ∃ t nar V DK, (t = 1 ∨ t = 2) ∧ (∀ j, j < 30 → V j = A j) ∧ NetOK V DK w2 t nar ∧ (∀ b, DK b → w.heap.size ≤ b ∧ b < w2.heap.size) ∧
      ∀ {ρ : Rho} {r : St}, Rep V ρ r w2 → Clean ρ r → (∀ i b, ρ.blk i = some b → b < w.heap.size) → ∃ ρ', Rep V ρ' (gwSt c r) w2 ∧ Clean ρ' (gwSt c r) ∧ Le ρ ρ' ∧ VR V ρ' (gwV c r) (.tuple #[.agg cs1, .agg cs2]) ∧ KP DK w2 ρ' w2 ∧ ∀ i b, ρ'.blk i = some b → ρ.blk i = some b ∨ w.heap.size ≤ b := by
  obtain ⟨c, hc6, eA, eB⟩ := grpC_ok k hk
  rw [eA] at hG1
  rw [eB] at hG2
  obtain ⟨hI1, D1, w1', a4, a5, u4, u5, ⟨ru1, gr1⟩, sz1, f1⟩ := hG1
  obtain ⟨hI2, D2, w2', b4, b5, v4, v5, ⟨ru2, gr2⟩, sz2, f2⟩ := hG2
  obtain ⟨bA, capA, postA, eA5, hbA, hlA, dA⟩ := gr1
  obtain ⟨bB, capB, postB, eB5, hbB, hlB, dB⟩ := gr2
  have ru1 := ruK_but ru1 hbA
  have ru2 := ruK_but ru2 hbB
  obtain ⟨l1, W1, ρ1, E1, S1⟩ := ru1.parts
  obtain ⟨l2, W2, ρ2, E2, S2⟩ := ru2.parts
  obtain ⟨t, nar, V, ht, hV, v30, v32, hN⟩ := net_ok S1 S2 (DK := fun b => (D1 b ∧ b ≠ bA) ∨ (D2 b ∧ b ≠ bB)) (wK := w2) (fun w' h => ⟨fun b hb => ⟨(h b (.inl hb)).1, (h b (.inl hb)).2.trans (f1 b hb.1).2.2⟩, fun b hb => ⟨(h b (.inr hb)).1, (h b (.inr hb)).2.trans (f2 b hb.1).2.2⟩⟩) A hA
  have rA := f1 bA dA
  have rB := f2 bB dB
  refine ⟨c, hc6, t, nar, V, _, ht, hV, hN, ?_, ?_⟩
  · rintro b (⟨hb, _⟩ | ⟨hb, _⟩)
    · have := f1 b hb
      omega
    · have := f2 b hb
      omega
  · intro ρ r hr hcl hlo
    obtain ⟨p1, p2, p3, p4, p5, p6⟩ := rep_adopt hr hcl (b := bA) (cap := capA) (cells := (grpC c).1.map (AC.int .i64)) (rA.2.2.trans hbA) rfl (ints_f2 _) (by rw [← hlA]; simp) (fun i e => by have := hlo i bA e; omega)
    obtain ⟨q1, q2, q3, q4, q5, q6⟩ := rep_adopt p1 p2 (b := bB) (cap := capB) (cells := (grpC c).2.map (AC.int .i64)) (rB.2.2.trans hbB) rfl (ints_f2 _) (by rw [← hlB]; simp) (fun i e => by
      rcases p6 i bB e with h | h
      · have := hlo i bB h
        omega
      · omega)
    refine ⟨_, ⟨q1.h, q1.inj, q1.bnd, q1.lt⟩, ⟨q2.b, q2.c⟩, p3.trans q3, ?_, ⟨?_, fun _ _ => rfl, ?_⟩, ?_⟩
    · refine ⟨#[.agg cs1, .agg cs2], rfl, ⟨cs1, rfl, gwN_f2 (hI1 _ _) u4 u5 v30.symm ⟨bA, capA, q3.1 _ _ p4, q3.2 _ _ p5, by omega, eA5⟩⟩, ⟨cs2, rfl, gwN_f2 (hI2 _ _) v4 v5 v32.symm ⟨bB, capB, q4, q5, by omega, eB5⟩⟩, trivial⟩
    · rintro b (⟨hb, _⟩ | ⟨hb, _⟩)
      · have := f1 b hb
        omega
      · have := f2 b hb
        omega
    · intro b hb i e
      have hlt : w.heap.size ≤ b := by
        rcases hb with ⟨hb, _⟩ | ⟨hb, _⟩
        · exact (f1 b hb).1
        · have := (f2 b hb).1
          omega
      rcases q6 i b e with h | h
      · rcases p6 i b h with h | h
        · have := hlo i b h
          omega
        · rcases hb with ⟨hb, hn⟩ | ⟨hb, hn⟩
          · exact hn h
          · have := (f2 b hb).1
            omega
      · rcases hb with ⟨hb, hn⟩ | ⟨hb, hn⟩
        · have := (f1 b hb).2.1
          omega
        · exact hn h
    · intro i b e
      rcases q6 i b e with h | h
      · rcases p6 i b h with h | h
        · exact .inl h
        · right
          omega
      · right
        omega
end Ab
end Go.Proofs.YtbfppnppijcnlaaGreat
namespace Go.Proofs.YtbfppnppijcnlaaGreat
namespace Ab
open Go.RowKit
set_option linter.unusedVariables false
set_option linter.unusedSimpArgs false
set_option maxRecDepth 100000
noncomputable def ckG (hl : Bool) (i0 i1 d : Nat) (o : Oper) (t : Sl) (s : St) : Bool :=
  match calleeOf o, o.dst with
  | some (f, l), some e => Nat.beq f 26 && (Nat.beq e d && ((match evals t l with | [.one (.c (.ptr (some (j, 0))))] => Nat.beq j i0 | _ => false) && codesIn hl i0 i1 s 900))
  | _, _ => false
theorem ckG_ok {hl : Bool} {i0 i1 d : Nat} {o : Oper} {t : Sl} {s : St} (h : ckG hl i0 i1 d o t s = true) : ∃ l, calleeOf o = some (26, l) ∧ o.dst = some d ∧ evals t l = [.one (.c (.ptr (some (i0, 0))))] ∧ codesIn hl i0 i1 s 900 = true := by
  unfold ckG at h
  split at h
  · rename_i f l e h1 h2
    simp only [Bool.and_eq_true] at h
    obtain ⟨k1, k2, k3, k4⟩ := h
    have k1 := Nat.eq_of_beq_eq_true k1
    subst k1
    have k2 := Nat.eq_of_beq_eq_true k2
    subst k2
    refine ⟨l, h1, h2, ?_, k4⟩
    split at k3
    · rename_i j he
      rw [he, Nat.eq_of_beq_eq_true k3]
    · cases k3
  · cases h
theorem gws_fn : E0n.fn 26 = some Tryz.f26 := by kernel_rfl
/-- A call, by what it does. -/
theorem wp_callee2 {P : Program} {V : Nat → Value} {E : Env} (hE : EnvOK P V E) {ops : Array Oper} {i : Nat} {o : Oper} {f : Nat} {fn : Func} (hfn : E.fn f = some fn) {l : List Operand} (hi : ops[i]? = some o) (hc : calleeOf o = some (f, l)) {t : Sl} {ρ : Rho} {a : Act} (ht : TR V ρ t a) {w : World} {K : Act → World → Prop} {Q : Exit → Act → World → Prop}
    (hcall : ∀ vals : Array Value, F2 (VR V ρ) (evals t l) vals.toList → Calls P f vals w fun e w' => ∃ c, e = .returned c ∧ K (a.put o.dst c) w') : wpOp P ops Q i K a w := by
  unfold calleeOf at hc
  split at hc
  · rename_i c hg ho
    split at hc
    · rename_i f' hcal
      simp only [Option.some.injEq, Prod.mk.injEq] at hc
      obtain ⟨rfl, rfl⟩ := hc
      have hw : wantA ops t o = some true := by
        rw [wantA_eq]
        unfold wantA0
        rw [hg]
      unfold wpOp
      rw [hi]
      simp only
      rw [want_ok ht hw, if_pos rfl]
      refine .inl ?_
      obtain ⟨_, hcf⟩ := hE.fn f' fn hfn
      have hrun : (execOp a.eval o).run P w = .ok (.enter f' (c.args.map a.eval)) w := by
        simp [execOp, ho, resolve, hcal, Act.eval, Deferred.ofValue, invoke, hcf]
      unfold Oper.wp
      rw [hrun, Oper.upon_enter]
      refine (hcall (c.args.map a.eval) (by rw [Array.toList_map]; exact evals_ok ht _)).mono ?_
      rintro e w' ⟨c', rfl, hk⟩
      exact hk
    · cases hc
  · cases hc
theorem sub_at {ops : Array Oper} {k n : Nat} : ∀ i o, ((ops.toList.drop k).take n)[i]? = some o → ops[k + i]? = some o := by
  intro i o h
  rw [List.getElem?_take] at h
  split at h
  · rw [List.getElem?_drop, Array.getElem?_toList] at h
    exact h
  · cases h
theorem sub_at' {ops : Array Oper} {k : Nat} : ∀ i o, (ops.toList.drop k)[i]? = some o → ops[k + i]? = some o := by
  intro i o h
  rw [List.getElem?_drop, Array.getElem?_toList] at h
  exact h
/-- Up to the call, and what is told from there on. -/
noncomputable def gwStart (hl : Bool) (i0 i1 d : Nat) (ops : Array Oper) (T : Tell) (u : Sl) (r : St) (t : Sl) (s : St) : Bool :=
  rfreeT 902 903 t t.length && (rfreeH 902 903 s.heap && (match opsA E0n (fnA E0n 30) ops (ops.toList.take 1) t s with
    | some (t1, s1) => (match ops[1]? with
      | some o1 => ckG hl i0 i1 d o1 t1 s1 && (retOK T t1 (codeOn s1 i0) u r && (T.f.all (fun x => Nat.blt x.2 s.next && !(Nat.beq x.2 i0) && !(Nat.beq x.2 i1)) && (Nat.blt i0 s.next && s1.dirty.all (fun j => !(Nat.beq j i1)))))
      | none => false)
    | none => false))
/-- Nothing below but one block has changed. -/
noncomputable def GrB (base g : Nat) (w w' : World) : Prop := w'.os = w.os ∧ w'.tape = w.tape ∧ w'.output = w.output ∧ w.heap.size ≤ w'.heap.size ∧ ∀ i, i < base → i ≠ g → w'.heap[i]? = w.heap[i]?
section
variable {q : Ls} {ga : Nat} {row : Array Value} {hl : Bool}
theorem ExtOK.kk {V : Nat → Value} {E : Env} {DK : Nat → Prop} {wK : World} (hd : ∀ k args, deepL E.ext k args = none) (h : ExtOK Tryz.prog V E) : ExtOKK DK wK Tryz.prog V E := ⟨h.ok.k hd, h.up, fun f args s r _ hh => h.fn f args s r hh⟩
theorem gw_region (hL : LsOK hl q ga row) {V0 : Nat → Value} (hone : ∀ i, (V0 i).oneCell' = true) {A : Nat → Value} (hA : ∀ i, (A i).oneCell' = true) {T : Tell} (hT : ∀ j, T.p j = true → j < 30 ∧ T.src j = j ∧ A j = V0 j) (hTl : ∀ j, T.lit j = none) (hTs : T.sy = []) {i0 i1 d id : Nat} {ops : Array Oper} {u : Sl} {r : St} {t : Sl} {s : St} (hck : gwStart hl i0 i1 d ops T u r t s = true)
    {b p : Nat} {ρ : Rho} {a : Act} {w : World} (ht : TR (vL V0 q ga row b p) ρ t a) (hr : Rep (vL V0 q ga row b p) ρ s w) (hc : Clean ρ s) {base : Nat} (hb : ∀ i c, ρ.blk i = some c → base ≤ c ∨ i = i0 ∨ i = i1) (hbw : base ≤ w.heap.size) {Q : Exit → Act → World → Prop}
    (hQ : ∀ c t' nar V' DK wK w2 a' g, c < 6 → (t' = 1 ∨ t' = 2) → (∀ j, j < 30 → V' j = A j) → NetOK V' DK wK t' nar → ρ.blk i0 = some g → GrB base g w w2 → HereK DK wK V' base w2 (lset u d (gwV c r)) (gwSt c r) a' w2 → wpOps Tryz.prog ops Q (List.range' 2 (ops.size - 2)) a' w2) : (Code.region id ops false).wp Tryz.prog Q a w := by
  unfold gwStart at hck
  simp only [Bool.and_eq_true] at hck
  obtain ⟨ft, fh, hck⟩ := hck
  split at hck
  · rename_i t1 s1 r1
    split at hck
    · rename_i o1 ho1
      simp only [Bool.and_eq_true] at hck
      obtain ⟨ck, hret, hfid, hi0, hdirty⟩ := hck
      have hsz : 2 ≤ ops.size := by
        have := (Array.getElem?_eq_some_iff.1 ho1).1
        omega
      refine wp_region ?_
      rw [List.range_eq_range', show ops.size = 1 + ((ops.size - 2) + 1) by omega]
      have hbp : ∀ i, (i < 902 ∨ 903 ≤ i) → vL V0 q ga row b p i = vL V0 q ga row 0 0 i := by
        intro i hi
        unfold vL
        split
        · rfl
        · split
          · rfl
          · rw [if_neg (by omega), if_neg (by omega)]
      have ht := tr_raV hbp ft ht
      have hr := rep_raV hbp fh hr
      have hV1 := vL_one (q := q) (ga := ga) (row := row) hone 0 0
      obtain ⟨e1, e2⟩ := e0n_ok hV1
      have hk : KP (fun _ => False) w ρ w := ⟨fun b h => h.elim, fun b h => h.elim, fun b h => h.elim⟩
      have e2K : ExtOKK (fun _ => False) w Tryz.prog (vL V0 q ga row 0 0) E0n := ExtOK.kk (noDeep e1 (fun f args s r h => e2.fn f args s r h)) e2
      have tk := ops_takeK e1 (fnA_okK e1 e2K 30) (fnA_fnK e2K.fn 30) (fnA_up (E := E0n) e2.up 30) (ops := ops) (ops.toList.take 1) 0 ((ops.size - 2) + 1) (fun i o ho => by have := sub_at (ops := ops) (k := 0) (n := 1) i o (by simpa using ho); exact this) r1 ht hr (hc.free _) hk (Q := Q)
      have hl1 : (ops.toList.take 1).length = 1 := by
        rw [List.length_take, Array.length_toList]
        omega
      rw [hl1] at tk
      refine tk (fun ρ1 a1 w1 g1 ht1 hk1 => ?_)
      have c1 := hc.goes g1
      rw [show (0 + 1 : Nat) = 1 from rfl, List.range'_succ, wpOps_cons]
      obtain ⟨l3, q1, q2, q3, q4⟩ := ckG_ok ck
      refine wp_callee2 e1 gws_fn ho1 q1 ht1 (fun vals hv => ?_)
      rw [q3] at hv
      obtain ⟨d0, d1⟩ := codesIn_ok q4
      obtain ⟨g, p', hbg, hC⟩ := rep_some hL g1.1 d0 d1
      obtain ⟨hrow, hne⟩ := row_ne hL g1.1 q4 hC
      have hvals : vals = #[.pointer (some ⟨g, 0, none⟩)] := by
        apply Array.ext'
        match hl : vals.toList, hv with
        | [x], hv =>
          obtain ⟨b', f0, f1⟩ := hv.1
          rw [hbg] at f0
          injection f0 with f0
          subst f0
          rw [f1]
      subst hvals
      refine (gws_any hL hC hrow hne).mono ?_
      rintro e w2 ⟨k, hk12, cs1, cs2, rfl, ⟨M, hM1, hM2, hG1, hG2⟩, ⟨p2, hC'⟩, hg, _⟩
      obtain ⟨c, hc6, t', nar, V', DK, htt, hVA, hN, hDK, hadopt⟩ := gw_after hk12 hM1 hM2 hG1 hG2 hA
      have hgo := go_codes (V := vL V0 q ga row 0 0) g1.1 d0 hbg hg hC'.2.2.1 (pb_some hC'.1)
      have cod : Clean ρ1 (codeOn s1 i0) := c1.goes hgo
      obtain ⟨k1, k2, k3, k4, k5⟩ := tell_all (V := vL V0 q ga row 0 0) (V' := V') (T := T) hV1 (fun j hj => by
        obtain ⟨x1, x2, x3⟩ := hT j hj
        rw [hVA j x1, x2, x3, vL_low (by omega)]) (fun j b hb => by rw [hTl j] at hb; cases hb) (fun j x v e => by rw [hTs] at e; cases e) hret ht1 hgo.1
      obtain ⟨ρ', y1, y2, y3, y4, y5, y6⟩ := hadopt k2 ⟨k3, k4⟩ (fun i b e => by
        obtain ⟨j, _, e'⟩ := k5 i b e
        exact g1.1.bnd j b e')
      have hi0 : i0 < s.next := Nat.le_of_ble_eq_true hi0
      have hg0 : ρ.blk i0 = some g := by rw [← g1.2.1.blk i0 (.inl hi0)]; exact hbg
      have hold : ∀ j c, j < s.next → ρ1.blk j = some c → ρ.blk j = some c := fun j c hj e => by rw [← g1.2.1.blk j (.inl hj)]; exact e
      have hbase' : ∀ i c, ρ'.blk i = some c → base ≤ c := by
        intro i c e
        rcases y6 i c e with h | h
        · obtain ⟨j, e1, e2⟩ := k5 i c h
          have := List.all_eq_true.1 hfid _ (lkN_mem e1)
          simp only [Bool.and_eq_true, Bool.not_eq_true'] at this
          have hj : j < s.next := Nat.le_of_ble_eq_true this.1.1
          rcases hb j c (hold j c hj e2) with h | h | h
          · exact h
          · have := this.1.2
            simp only [h, Nat.beq_refl] at this
            cases this
          · have := this.2
            simp only [h, Nat.beq_refl] at this
            cases this
        · have := g1.2.1.size
          omega
      refine ⟨_, rfl, ?_⟩
      refine hQ c t' nar V' DK w2 w2 _ g hc6 htt hVA hN hg0 ⟨hg.os.trans g1.2.1.os, hg.tape.trans g1.2.1.tape, hg.output.trans g1.2.1.out, Nat.le_trans g1.2.1.size hg.size, fun i hi hne' => ?_⟩ ⟨ρ', ?_, y1, y2.b, y2.c, hbase', Below.refl _ _, ?_, y5⟩
      · have s1 := g1.2.1.size
        refine (hg.block i (by omega) (fun e => hne' (by injection e))).trans (g1.2.1.fr i (by omega) (fun j hj hj2 e => ?_))
        rcases hb j i e with h | h | h
        · omega
        · rw [h, hg0] at e
          injection e with e
          exact hne' e.symm
        · have := List.all_eq_true.1 hdirty j hj
          simp only [h, Nat.beq_refl, Bool.not_true] at this
          cases this
      · rw [q2]
        exact tr_put (k1.mono _ y3) (d := some d) y4
      · exact Nat.le_trans hbw (Nat.le_trans g1.2.1.size hg.size)
    · cases hck
  · cases hck
end
noncomputable def restA (E : Env) (ops : Array Oper) (l : List Code) (t : Sl) (s : St) : Option (AE × Sl × St) :=
  match opsA E (fnA E 30) ops (ops.toList.drop 2) t s with
  | some (t', s') => codeAE E l t' s'
  | none => none
section
variable {V : Nat → Value} {E : Env} {DK : Nat → Prop} {wK : World}
theorem ops_hereK (hE : EnvOK Tryz.prog V E) (hx : ExtOKK DK wK Tryz.prog V E) {ops : Array Oper} {t t' : Sl} {s s' : St} (h : opsA E (fnA E 30) ops (ops.toList.drop 2) t s = some (t', s')) {base : Nat} {w0 : World} {a : Act} {w : World} (hh : HereK DK wK V base w0 t s a w) {Q : Exit → Act → World → Prop} (hQ : ∀ a' w', HereK DK wK V base w0 t' s' a' w' → Q .normal a' w') : wpOps Tryz.prog ops Q (List.range' 2 (ops.size - 2)) a w := by
  obtain ⟨ρ, ht, hr, h1, h2, h3, h4, h5, hk⟩ := hh
  have c0 : Clean ρ s := ⟨h1, h2⟩
  have tk := ops_takeK hE (fnA_okK hE hx 30) (fnA_fnK hx.fn 30) (fnA_up (E := E) hx.up 30) (ops := ops) (ops.toList.drop 2) 2 0 sub_at' h ht hr (c0.free _) hk (Q := Q)
  have hlen : (ops.toList.drop 2).length + 0 = ops.size - 2 := by simp
  rw [hlen] at tk
  exact tk (fun ρ4 a4 w4 g4 ht4 hk4 => hQ a4 w4 (hereK_goes hr h1 h2 h3 h4 h5 hk g4 ht4))
theorem codeAE_okK (hE : EnvOK Tryz.prog V E) (hx : ExtOKK DK wK Tryz.prog V E) {base : Nat} {w0 : World} {Q : Exit → Act → World → Prop} : ∀ (l : List Code) {t t' : Sl} {s s' : St} {e : AE}, codeAE E l t s = some (e, t', s') → ∀ {a : Act} {w : World}, HereK DK wK V base w0 t s a w → (∀ a' w', HereK DK wK V base w0 t' s' a' w' → Q (AEx e) a' w') → wpL Tryz.prog Q l a w
  | [], t, t', s, s', e, h, a, w, hh, hQ => by
    simp only [codeAE, Option.some.injEq, Prod.mk.injEq] at h
    obtain ⟨rfl, rfl, rfl⟩ := h
    exact hQ a w hh
  | c :: l, t, t', s, s', e, h, a, w, hh, hQ => by
    simp only [codeAE] at h
    split at h
    · rename_i t1 s1 h1
      exact code_hereK hE hx 30 1000 h1 hh (fun a' w' h' => codeAE_okK hE hx l h h' hQ)
    · rename_i hno
      refine code_hereK hE hx 30 1000 h hh (fun a' w' h' => ?_)
      cases e with
      | normal => exact (hno _ _ h).elim
      | ret => exact hQ a' w' h'
      | exit id => exact hQ a' w' h'
theorem rest_okK (hE : EnvOK Tryz.prog V E) (hx : ExtOKK DK wK Tryz.prog V E) {base : Nat} {w0 : World} {ops : Array Oper} {l : List Code} {t t' : Sl} {s s' : St} {e : AE} (h : restA E ops l t s = some (e, t', s')) {Q : Exit → Act → World → Prop} {a : Act} {w : World} (hh : HereK DK wK V base w0 t s a w) (hQ : ∀ a' w', HereK DK wK V base w0 t' s' a' w' → Q (AEx e) a' w') : wpOps Tryz.prog ops (Exit.then (wpL Tryz.prog Q l) Q) (List.range' 2 (ops.size - 2)) a w := by
  unfold restA at h
  split at h
  · rename_i t1 s1 h1
    exact ops_hereK hE hx h1 hh (fun a' w' h' => codeAE_okK hE hx l h h' hQ)
  · cases h
/-- What a call that has come to its end returns. -/
theorem results_at (hE : EnvOK Tryz.prog V E) {fn : Func} {t : Sl} {s : St} {l : List A1} {ρ : Rho} {a : Act} {w : World} (ht : TR V ρ t a) (hr : Rep V ρ s w) (hres : resultsA E t s fn.results.toList = some l) : ∃ vs : List Value, F2 (V1R V ρ) l vs ∧ (results fn a.tmps).run Tryz.prog w = .ok (if h : vs.toArray.size = 1 then vs.toArray[0] else .tuple vs.toArray) w := by
  obtain ⟨vs, g1, g2⟩ := results_ok hE ht hr _ _ hres
  refine ⟨vs, g2, ?_⟩
  unfold results
  rw [Array.mapM_eq_mapM_toList]
  simp only [Sem.run_bind, Sem.run_map, Sem.run_pure]
  generalize hX : Sem.run Tryz.prog (List.mapM _ fn.results.toList) w = Y
  have hY : Y = .ok vs w := hX.symm.trans g1
  rw [hY]
  simp only [Result.andThen_ok]
theorem endTrue_okK (hE : EnvOK Tryz.prog V E) (hx : ExtOKK DK wK Tryz.prog V E) {fn : Func} {base : Nat} {w0 w1 : World} (hlow : ∀ w', RowKit.Below base w1 w' → RowKit.Below w0.heap.size w0 w') {ops : Array Oper} {l : List Code} {t : Sl} {s : St} (h : endTrue E fn.results.toList (restA E ops l t s) = true) {a : Act} {w : World} (hh : HereK DK wK V base w1 t s a w) : wpOps Tryz.prog ops (Exit.then (wpL Tryz.prog (LawQ fn w0) l) (LawQ fn w0)) (List.range' 2 (ops.size - 2)) a w := by
  unfold endTrue at h
  split at h
  · rename_i t' s' hr
    split at h
    · rename_i hres
      refine rest_okK hE hx hr hh (fun a' w' h' => ?_)
      obtain ⟨ρ', ht', hr', _, _, _, hb, _⟩ := h'
      obtain ⟨vs, g2, hr2⟩ := results_at hE ht' hr' hres
      have hv : vs = [.bool true] := by
        match vs, g2 with
        | [v], g2 => rw [show v = .bool true from g2.1]
      subst hv
      exact ⟨ht'.df, _, hr2, rfl, hlow _ hb⟩
    · cases h
  · cases h
end
/-- What is asked once the connection stands: nothing of the templates. -/
noncomputable def netM (f : Nat) (args : List AV) (s : St) : Option (AV × St) :=
  bif Nat.ble 1000000 f then none else
  match envZ.fn f with
  | none => none
  | some _ => (match args with
    | [.one (.agg x)] => (match polN 0 false f [.one (.agg x)] s with | some r => some r | none => tmE isNm f [.one (.agg x)] s)
    | _ => tmE isNm f args s)
noncomputable def eMid (tab : BinOp → AC → AC → Option AC) : Env := env tab cvtN netM
section
variable {V : Nat → Value} {DK : Nat → Prop} {wK : World} {t : Nat} {nar : Bool}
theorem netM_or {f : Nat} {args : List AV} {s : St} {r : AV × St} (h : netM f args s = some r) : f < 1000000 ∧ (∃ g, envZ.fn f = some g) ∧ (polN t nar f args s = some r ∨ tmE isNm f args s = some r) := by
  unfold netM at h
  cases hb : Nat.ble 1000000 f
  · simp only [hb, cond_false] at h
    have hlt : f < 1000000 := by
      rcases Nat.lt_or_ge f 1000000 with h | h
      · exact h
      · rw [Nat.ble_eq_true_of_le h] at hb
        cases hb
    split at h
    · cases h
    · rename_i g hg
      refine ⟨hlt, ⟨g, hg⟩, ?_⟩
      split at h
      · split at h
        · rename_i r' hr'
          left
          injection h with h
          subst h
          exact hr'
        · exact .inr h
      · exact .inr h
  · simp [hb] at h
theorem netM_okK {tab : BinOp → AC → AC → Option AC} (htab : ∀ op a b z, tab op a b = some z → ∀ ρ u v, CR V ρ a u → CR V ρ b v → ∃ k n k' n' c, u = .int k n ∧ v = .int k' n' ∧ CR V ρ z c ∧ ∀ xt, binOp op xt u v = .pure c) (N : NetOK V DK wK t nar) : EnvOK Tryz.prog V (eMid tab) ∧ ExtOKK DK wK Tryz.prog V (eMid tab) := by
  refine ⟨env_ok htab (fun k i z h ρ => ?_) N.one, ⟨⟨?_, ?_⟩, ?_, ?_⟩⟩
  · unfold cvtN at h
    split at h
    · rename_i j e
      injection e with e
      subst e
      cases hi : isUB i
      · simp [hi] at h
      · simp only [hi, cond_true, Option.some.injEq] at h
        subst h
        obtain ⟨n, h1, h2, _⟩ := N.cv i hi
        exact ⟨_, n, h1, h2.symm⟩
    · rename_i j e
      injection e with e
      subst e
      cases hi : (Nat.ble 20 i && isUB (i - 20))
      · simp [hi] at h
      · simp only [hi, cond_true, Option.some.injEq] at h
        subst h
        simp only [Bool.and_eq_true] at hi
        have h20 := Nat.le_of_ble_eq_true hi.1
        obtain ⟨n, h1, h2, h3⟩ := N.cv (i - 20) hi.2
        rw [show i - 20 + 20 = i by omega] at h2
        refine ⟨_, _, h2, ?_⟩
        show _ = V (i - 20)
        rw [h3, h1]
    · cases h
  · intro f args s v s' hf6 h ρ w vals hargs hr hf hk
    have h : netM f args s = some (v, s') := h
    obtain ⟨_, _, h | h⟩ := netM_or (t := t) (nar := nar) h
    · exact polN_ok N h hargs hr hk
    · exact tmE_ok N.num f args s v s' h ρ w vals hargs hr hf
  · intro k args v h ρ w vals hargs hk
    unfold deepL at h
    split at h
    · rename_i i tl
      split at h
      · rename_i v' s' h'
        have h' : netM (1000000 + k) (.one (.c (.sym i)) :: tl) ⟨[], 0, 0, []⟩ = some (v', s') := h'
        obtain ⟨hlt, _⟩ := netM_or (t := 0) (nar := false) h'
        omega
      · cases h
    · cases h
  · intro f args s v s' h
    have h : netM f args s = some (v, s') := h
    have : s' = s := by
      obtain ⟨_, _, h | h⟩ := netM_or (t := 0) (nar := false) h
      · exact polN_st h
      · exact tmE_st h
    subst this
    exact ⟨Nat.le_refl _, Nat.le_refl _⟩
  · intro f args s r hf6 h
    have h : netM f args s = some r := h
    obtain ⟨_, ⟨fn, hfn⟩, _⟩ := netM_or (t := 0) (nar := false) h
    exact ⟨fn, hfn⟩
end
noncomputable def roundsA (E : Env) (B : Code) : Nat → Sl → St → Option (Sl × St)
  | 0, t, s => some (t, s)
  | m + 1, t, s => match codeA E (fnA E 30) (drawA E (fnA E 30)) 1000 B t s with
    | some (.normal, t', s') => roundsA E B m t' s'
    | _ => none
section
variable {V : Nat → Value} {E : Env} {DK : Nat → Prop} {wK : World}
/-- Rounds of a loop. -/
theorem rounds_hereK (hE : EnvOK Tryz.prog V E) (hx : ExtOKK DK wK Tryz.prog V E) {B : Code} {base : Nat} {w0 : World} {Q : Exit → Act → World → Prop} : ∀ (m : Nat) {t t' : Sl} {s s' : St}, roundsA E B m t s = some (t', s') → ∀ {a : Act} {w : World}, HereK DK wK V base w0 t s a w → (∀ a' w', HereK DK wK V base w0 t' s' a' w' → LoopWp Tryz.prog B Q a' w') → LoopWp Tryz.prog B Q a w
  | 0, t, t', s, s', h, a, w, hh, hQ => by
    simp only [roundsA, Option.some.injEq, Prod.mk.injEq] at h
    obtain ⟨rfl, rfl⟩ := h
    exact hQ a w hh
  | m + 1, t, t', s, s', h, a, w, hh, hQ => by
    simp only [roundsA] at h
    split at h
    · rename_i t1 s1 h1
      exact loop_one (code_hereK hE hx 30 1000 h1 hh (fun a' w' h' => rounds_hereK hE hx m h h' hQ))
    · cases h
/-- A loop to its end. -/
theorem loopEnd_hereK (hE : EnvOK Tryz.prog V E) (hx : ExtOKK DK wK Tryz.prog V E) {B : Code} {t t' : Sl} {s s' : St} {e : AE} (h : codeA E (fnA E 30) (drawA E (fnA E 30)) 1000 (.loop B) t s = some (e, t', s')) {base : Nat} {w0 : World} {a : Act} {w : World} (hh : HereK DK wK V base w0 t s a w) {Q : Exit → Act → World → Prop} (hQ : ∀ a' w', HereK DK wK V base w0 t' s' a' w' → Q (AEx e) a' w') : LoopWp Tryz.prog B Q a w := by
  obtain ⟨ρ, ht, hr, h1, h2, h3, h4, h5, hk⟩ := hh
  have hc := fnA_okK hE hx 30
  have hf := fnA_fnK hx.fn 30
  have hu := fnA_up (E := E) hx.up 30
  refine (code_okK hE hc hf hu (draw_okK hE hc hf hu) (drawA_up hu) 1000).2 B h ht hr ⟨fun i hi _ => h1 i hi, fun i hi _ => h2 i hi⟩ hk Q ?_
  intro ρ' a' w' hg ht'
  exact hQ a' w' (hereK_goes hr h1 h2 h3 h4 h5 hk hg ht')
end
end Ab
end Go.Proofs.YtbfppnppijcnlaaGreat
