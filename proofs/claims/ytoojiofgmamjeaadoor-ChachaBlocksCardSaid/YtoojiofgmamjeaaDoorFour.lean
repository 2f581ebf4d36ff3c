/-
  Four loads of a region that draws its order, which may come up in any order among themselves, taken in one: each order leaves the same frame.
  Conditions: none.
-/
import Derived.OrdersHeld
import Derived.Laws.Rows
namespace Go.Proofs.YtoojiofgmamjeaaDoor

set_option linter.unusedVariables false
theorem ld_op {P : Program} {ops : Array Oper} {Q : Exit → Act → World → Prop} {K : Act → World → Prop} {i : Nat} {o : Oper} {t n d : Nat} {ad : Addr} {v : Value} {a : Act} {w : World} (hi : ops[i]? = some o) (hg : o.guard = none) (ho : o.op = .load t (.tmp n)) (hd : o.dst = some d)
    (hx : a.eval (.tmp n) = .pointer (some ad)) (hr : (loadVar t ad).run P w = .ok v w) (hK : K (a.put (some d) v) w) : wpOp P ops Q i K a w := by
  unfold wpOp
  simp only [hi]
  rw [if_pos (by simp [Region.wanted, hg])]
  left
  unfold Oper.wp execOp
  simp only [ho, hx, Instr.loadAt, Instr.sureAddr, Sem.run_bind, Sem.run_pure, Result.andThen_ok, hr]
  rw [← hd] at hK
  exact hK
theorem four_loads {P : Program} {md : Region.Mode} {ops : Array Oper} {Q : Exit → Act → World → Prop} {S : World → Prop} {fuel : Nat} {l : Array Bool} {a : Act} {w : World}
    {i1 i2 i3 i4 : Nat} {o1 o2 o3 o4 : Oper} {t n1 n2 n3 n4 d1 d2 d3 d4 : Nat} {p1 p2 p3 p4 : Addr} {v1 v2 v3 v4 : Value}
    (h1 : ops[i1]? = some o1 ∧ o1.guard = none ∧ o1.op = .load t (.tmp n1) ∧ o1.dst = some d1)
    (h2 : ops[i2]? = some o2 ∧ o2.guard = none ∧ o2.op = .load t (.tmp n2) ∧ o2.dst = some d2)
    (h3 : ops[i3]? = some o3 ∧ o3.guard = none ∧ o3.op = .load t (.tmp n3) ∧ o3.dst = some d3)
    (h4 : ops[i4]? = some o4 ∧ o4.guard = none ∧ o4.op = .load t (.tmp n4) ∧ o4.dst = some d4)
    (x1 : a.eval (.tmp n1) = .pointer (some p1)) (r1 : (loadVar t p1).run P w = .ok v1 w)
    (x2 : a.eval (.tmp n2) = .pointer (some p2)) (r2 : (loadVar t p2).run P w = .ok v2 w)
    (x3 : a.eval (.tmp n3) = .pointer (some p3)) (r3 : (loadVar t p3).run P w = .ok v3 w)
    (x4 : a.eval (.tmp n4) = .pointer (some p4)) (r4 : (loadVar t p4).run P w = .ok v4 w)
    (hn : ∀ d ∈ [d1, d2, d3, d4], ∀ n ∈ [n1, n2, n3, n4], n ≠ d) (hd : [d1, d2, d3, d4].Nodup) (hi : [i1, i2, i3, i4].Nodup)
    (q1234 : Region.ready md ops l = [i1, i2, i3, i4])
    (q234 : Region.ready md ops (l.setIfInBounds i1 true) = [i2, i3, i4])
    (q134 : Region.ready md ops (l.setIfInBounds i2 true) = [i1, i3, i4])
    (q124 : Region.ready md ops (l.setIfInBounds i3 true) = [i1, i2, i4])
    (q123 : Region.ready md ops (l.setIfInBounds i4 true) = [i1, i2, i3])
    (q34 : Region.ready md ops ((l.setIfInBounds i1 true).setIfInBounds i2 true) = [i3, i4])
    (q24 : Region.ready md ops ((l.setIfInBounds i1 true).setIfInBounds i3 true) = [i2, i4])
    (q23 : Region.ready md ops ((l.setIfInBounds i1 true).setIfInBounds i4 true) = [i2, i3])
    (q14 : Region.ready md ops ((l.setIfInBounds i2 true).setIfInBounds i3 true) = [i1, i4])
    (q13 : Region.ready md ops ((l.setIfInBounds i2 true).setIfInBounds i4 true) = [i1, i3])
    (q12 : Region.ready md ops ((l.setIfInBounds i3 true).setIfInBounds i4 true) = [i1, i2])
    (q4 : Region.ready md ops (((l.setIfInBounds i1 true).setIfInBounds i2 true).setIfInBounds i3 true) = [i4])
    (q3 : Region.ready md ops (((l.setIfInBounds i1 true).setIfInBounds i2 true).setIfInBounds i4 true) = [i3])
    (q2 : Region.ready md ops (((l.setIfInBounds i1 true).setIfInBounds i3 true).setIfInBounds i4 true) = [i2])
    (q1 : Region.ready md ops (((l.setIfInBounds i2 true).setIfInBounds i3 true).setIfInBounds i4 true) = [i1])
    (hS : S w) (h : wpAnyH P md ops Q S fuel ((((l.setIfInBounds i1 true).setIfInBounds i2 true).setIfInBounds i3 true).setIfInBounds i4 true) ((((a.put (some d1) v1).put (some d2) v2).put (some d3) v3).put (some d4) v4) w) : wpAnyH P md ops Q S (fuel + 4) l a w := by
  simp only [List.nodup_cons, List.mem_cons, List.not_mem_nil, or_false, not_or, List.nodup_nil, and_true, not_false_eq_true] at hd hi
  obtain ⟨⟨e12, e13, e14⟩, ⟨e23, e24⟩, e34⟩ := hd
  obtain ⟨⟨f12, f13, f14⟩, ⟨f23, f24⟩, f34⟩ := hi
  have s21 : ∀ a : Act, (a.put (some d2) v2).put (some d1) v1 = (a.put (some d1) v1).put (some d2) v2 := fun a => Act.put_comm a v2 v1 (fun d hd he => e12 (by injection hd with hd; injection he with he; omega))
  have u21 : ∀ l : Array Bool, (l.setIfInBounds i2 true).setIfInBounds i1 true = (l.setIfInBounds i1 true).setIfInBounds i2 true := fun l => Array.setIfInBounds_comm _ _ (fun e => f12 e.symm)
  have s31 : ∀ a : Act, (a.put (some d3) v3).put (some d1) v1 = (a.put (some d1) v1).put (some d3) v3 := fun a => Act.put_comm a v3 v1 (fun d hd he => e13 (by injection hd with hd; injection he with he; omega))
  have u31 : ∀ l : Array Bool, (l.setIfInBounds i3 true).setIfInBounds i1 true = (l.setIfInBounds i1 true).setIfInBounds i3 true := fun l => Array.setIfInBounds_comm _ _ (fun e => f13 e.symm)
  have s41 : ∀ a : Act, (a.put (some d4) v4).put (some d1) v1 = (a.put (some d1) v1).put (some d4) v4 := fun a => Act.put_comm a v4 v1 (fun d hd he => e14 (by injection hd with hd; injection he with he; omega))
  have u41 : ∀ l : Array Bool, (l.setIfInBounds i4 true).setIfInBounds i1 true = (l.setIfInBounds i1 true).setIfInBounds i4 true := fun l => Array.setIfInBounds_comm _ _ (fun e => f14 e.symm)
  have s32 : ∀ a : Act, (a.put (some d3) v3).put (some d2) v2 = (a.put (some d2) v2).put (some d3) v3 := fun a => Act.put_comm a v3 v2 (fun d hd he => e23 (by injection hd with hd; injection he with he; omega))
  have u32 : ∀ l : Array Bool, (l.setIfInBounds i3 true).setIfInBounds i2 true = (l.setIfInBounds i2 true).setIfInBounds i3 true := fun l => Array.setIfInBounds_comm _ _ (fun e => f23 e.symm)
  have s42 : ∀ a : Act, (a.put (some d4) v4).put (some d2) v2 = (a.put (some d2) v2).put (some d4) v4 := fun a => Act.put_comm a v4 v2 (fun d hd he => e24 (by injection hd with hd; injection he with he; omega))
  have u42 : ∀ l : Array Bool, (l.setIfInBounds i4 true).setIfInBounds i2 true = (l.setIfInBounds i2 true).setIfInBounds i4 true := fun l => Array.setIfInBounds_comm _ _ (fun e => f24 e.symm)
  have s43 : ∀ a : Act, (a.put (some d4) v4).put (some d3) v3 = (a.put (some d3) v3).put (some d4) v4 := fun a => Act.put_comm a v4 v3 (fun d hd he => e34 (by injection hd with hd; injection he with he; omega))
  have u43 : ∀ l : Array Bool, (l.setIfInBounds i4 true).setIfInBounds i3 true = (l.setIfInBounds i3 true).setIfInBounds i4 true := fun l => Array.setIfInBounds_comm _ _ (fun e => f34 e.symm)
  have ev : ∀ (a : Act) (d n : Nat) (v : Value), n ≠ d → (a.put (some d) v).eval (.tmp n) = a.eval (.tmp n) := fun a d n v hne => Act.eval_put (fun d' hd he => hne (by cases hd; cases he; rfl))
  have g11 : n1 ≠ d1 := hn d1 (by simp) n1 (by simp)
  have g21 : n1 ≠ d2 := hn d2 (by simp) n1 (by simp)
  have g31 : n1 ≠ d3 := hn d3 (by simp) n1 (by simp)
  have g41 : n1 ≠ d4 := hn d4 (by simp) n1 (by simp)
  have g12 : n2 ≠ d1 := hn d1 (by simp) n2 (by simp)
  have g22 : n2 ≠ d2 := hn d2 (by simp) n2 (by simp)
  have g32 : n2 ≠ d3 := hn d3 (by simp) n2 (by simp)
  have g42 : n2 ≠ d4 := hn d4 (by simp) n2 (by simp)
  have g13 : n3 ≠ d1 := hn d1 (by simp) n3 (by simp)
  have g23 : n3 ≠ d2 := hn d2 (by simp) n3 (by simp)
  have g33 : n3 ≠ d3 := hn d3 (by simp) n3 (by simp)
  have g43 : n3 ≠ d4 := hn d4 (by simp) n3 (by simp)
  have g14 : n4 ≠ d1 := hn d1 (by simp) n4 (by simp)
  have g24 : n4 ≠ d2 := hn d2 (by simp) n4 (by simp)
  have g34 : n4 ≠ d3 := hn d3 (by simp) n4 (by simp)
  have g44 : n4 ≠ d4 := hn d4 (by simp) n4 (by simp)
  clear hn
  have T123 : wpAnyH P md ops Q S (fuel + 1) (((l.setIfInBounds i1 true).setIfInBounds i2 true).setIfInBounds i3 true) (((a.put (some d1) v1).put (some d2) v2).put (some d3) v3) w := by
    refine wpAnyH_all q4 (by simp) ?_
    intro i hi
    simp only [List.mem_cons, List.not_mem_nil, or_false] at hi
    rcases hi with rfl
    · refine ld_op h4.1 h4.2.1 h4.2.2.1 h4.2.2.2 (by rw [ev _ _ _ _ g34, ev _ _ _ _ g24, ev _ _ _ _ g14]; exact x4) r4 ⟨hS, ?_⟩
      exact h
  have T124 : wpAnyH P md ops Q S (fuel + 1) (((l.setIfInBounds i1 true).setIfInBounds i2 true).setIfInBounds i4 true) (((a.put (some d1) v1).put (some d2) v2).put (some d4) v4) w := by
    refine wpAnyH_all q3 (by simp) ?_
    intro i hi
    simp only [List.mem_cons, List.not_mem_nil, or_false] at hi
    rcases hi with rfl
    · refine ld_op h3.1 h3.2.1 h3.2.2.1 h3.2.2.2 (by rw [ev _ _ _ _ g43, ev _ _ _ _ g23, ev _ _ _ _ g13]; exact x3) r3 ⟨hS, ?_⟩
      simp only [s43, u43]
      exact h
  have T134 : wpAnyH P md ops Q S (fuel + 1) (((l.setIfInBounds i1 true).setIfInBounds i3 true).setIfInBounds i4 true) (((a.put (some d1) v1).put (some d3) v3).put (some d4) v4) w := by
    refine wpAnyH_all q2 (by simp) ?_
    intro i hi
    simp only [List.mem_cons, List.not_mem_nil, or_false] at hi
    rcases hi with rfl
    · refine ld_op h2.1 h2.2.1 h2.2.2.1 h2.2.2.2 (by rw [ev _ _ _ _ g42, ev _ _ _ _ g32, ev _ _ _ _ g12]; exact x2) r2 ⟨hS, ?_⟩
      simp only [s32, u32, s42, u42]
      exact h
  have T234 : wpAnyH P md ops Q S (fuel + 1) (((l.setIfInBounds i2 true).setIfInBounds i3 true).setIfInBounds i4 true) (((a.put (some d2) v2).put (some d3) v3).put (some d4) v4) w := by
    refine wpAnyH_all q1 (by simp) ?_
    intro i hi
    simp only [List.mem_cons, List.not_mem_nil, or_false] at hi
    rcases hi with rfl
    · refine ld_op h1.1 h1.2.1 h1.2.2.1 h1.2.2.2 (by rw [ev _ _ _ _ g41, ev _ _ _ _ g31, ev _ _ _ _ g21]; exact x1) r1 ⟨hS, ?_⟩
      simp only [s21, u21, s31, u31, s41, u41]
      exact h
  have T12 : wpAnyH P md ops Q S (fuel + 2) ((l.setIfInBounds i1 true).setIfInBounds i2 true) ((a.put (some d1) v1).put (some d2) v2) w := by
    refine wpAnyH_all q34 (by simp) ?_
    intro i hi
    simp only [List.mem_cons, List.not_mem_nil, or_false] at hi
    rcases hi with rfl | rfl
    · refine ld_op h3.1 h3.2.1 h3.2.2.1 h3.2.2.2 (by rw [ev _ _ _ _ g23, ev _ _ _ _ g13]; exact x3) r3 ⟨hS, ?_⟩
      exact T123
    · refine ld_op h4.1 h4.2.1 h4.2.2.1 h4.2.2.2 (by rw [ev _ _ _ _ g24, ev _ _ _ _ g14]; exact x4) r4 ⟨hS, ?_⟩
      exact T124
  have T13 : wpAnyH P md ops Q S (fuel + 2) ((l.setIfInBounds i1 true).setIfInBounds i3 true) ((a.put (some d1) v1).put (some d3) v3) w := by
    refine wpAnyH_all q24 (by simp) ?_
    intro i hi
    simp only [List.mem_cons, List.not_mem_nil, or_false] at hi
    rcases hi with rfl | rfl
    · refine ld_op h2.1 h2.2.1 h2.2.2.1 h2.2.2.2 (by rw [ev _ _ _ _ g32, ev _ _ _ _ g12]; exact x2) r2 ⟨hS, ?_⟩
      simp only [s32, u32]
      exact T123
    · refine ld_op h4.1 h4.2.1 h4.2.2.1 h4.2.2.2 (by rw [ev _ _ _ _ g34, ev _ _ _ _ g14]; exact x4) r4 ⟨hS, ?_⟩
      exact T134
  have T14 : wpAnyH P md ops Q S (fuel + 2) ((l.setIfInBounds i1 true).setIfInBounds i4 true) ((a.put (some d1) v1).put (some d4) v4) w := by
    refine wpAnyH_all q23 (by simp) ?_
    intro i hi
    simp only [List.mem_cons, List.not_mem_nil, or_false] at hi
    rcases hi with rfl | rfl
    · refine ld_op h2.1 h2.2.1 h2.2.2.1 h2.2.2.2 (by rw [ev _ _ _ _ g42, ev _ _ _ _ g12]; exact x2) r2 ⟨hS, ?_⟩
      simp only [s42, u42]
      exact T124
    · refine ld_op h3.1 h3.2.1 h3.2.2.1 h3.2.2.2 (by rw [ev _ _ _ _ g43, ev _ _ _ _ g13]; exact x3) r3 ⟨hS, ?_⟩
      simp only [s43, u43]
      exact T134
  have T23 : wpAnyH P md ops Q S (fuel + 2) ((l.setIfInBounds i2 true).setIfInBounds i3 true) ((a.put (some d2) v2).put (some d3) v3) w := by
    refine wpAnyH_all q14 (by simp) ?_
    intro i hi
    simp only [List.mem_cons, List.not_mem_nil, or_false] at hi
    rcases hi with rfl | rfl
    · refine ld_op h1.1 h1.2.1 h1.2.2.1 h1.2.2.2 (by rw [ev _ _ _ _ g31, ev _ _ _ _ g21]; exact x1) r1 ⟨hS, ?_⟩
      simp only [s21, u21, s31, u31]
      exact T123
    · refine ld_op h4.1 h4.2.1 h4.2.2.1 h4.2.2.2 (by rw [ev _ _ _ _ g34, ev _ _ _ _ g24]; exact x4) r4 ⟨hS, ?_⟩
      exact T234
  have T24 : wpAnyH P md ops Q S (fuel + 2) ((l.setIfInBounds i2 true).setIfInBounds i4 true) ((a.put (some d2) v2).put (some d4) v4) w := by
    refine wpAnyH_all q13 (by simp) ?_
    intro i hi
    simp only [List.mem_cons, List.not_mem_nil, or_false] at hi
    rcases hi with rfl | rfl
    · refine ld_op h1.1 h1.2.1 h1.2.2.1 h1.2.2.2 (by rw [ev _ _ _ _ g41, ev _ _ _ _ g21]; exact x1) r1 ⟨hS, ?_⟩
      simp only [s21, u21, s41, u41]
      exact T124
    · refine ld_op h3.1 h3.2.1 h3.2.2.1 h3.2.2.2 (by rw [ev _ _ _ _ g43, ev _ _ _ _ g23]; exact x3) r3 ⟨hS, ?_⟩
      simp only [s43, u43]
      exact T234
  have T34 : wpAnyH P md ops Q S (fuel + 2) ((l.setIfInBounds i3 true).setIfInBounds i4 true) ((a.put (some d3) v3).put (some d4) v4) w := by
    refine wpAnyH_all q12 (by simp) ?_
    intro i hi
    simp only [List.mem_cons, List.not_mem_nil, or_false] at hi
    rcases hi with rfl | rfl
    · refine ld_op h1.1 h1.2.1 h1.2.2.1 h1.2.2.2 (by rw [ev _ _ _ _ g41, ev _ _ _ _ g31]; exact x1) r1 ⟨hS, ?_⟩
      simp only [s31, u31, s41, u41]
      exact T134
    · refine ld_op h2.1 h2.2.1 h2.2.2.1 h2.2.2.2 (by rw [ev _ _ _ _ g42, ev _ _ _ _ g32]; exact x2) r2 ⟨hS, ?_⟩
      simp only [s32, u32, s42, u42]
      exact T234
  have T1 : wpAnyH P md ops Q S (fuel + 3) (l.setIfInBounds i1 true) (a.put (some d1) v1) w := by
    refine wpAnyH_all q234 (by simp) ?_
    intro i hi
    simp only [List.mem_cons, List.not_mem_nil, or_false] at hi
    rcases hi with rfl | rfl | rfl
    · refine ld_op h2.1 h2.2.1 h2.2.2.1 h2.2.2.2 (by rw [ev _ _ _ _ g12]; exact x2) r2 ⟨hS, ?_⟩
      exact T12
    · refine ld_op h3.1 h3.2.1 h3.2.2.1 h3.2.2.2 (by rw [ev _ _ _ _ g13]; exact x3) r3 ⟨hS, ?_⟩
      exact T13
    · refine ld_op h4.1 h4.2.1 h4.2.2.1 h4.2.2.2 (by rw [ev _ _ _ _ g14]; exact x4) r4 ⟨hS, ?_⟩
      exact T14
  have T2 : wpAnyH P md ops Q S (fuel + 3) (l.setIfInBounds i2 true) (a.put (some d2) v2) w := by
    refine wpAnyH_all q134 (by simp) ?_
    intro i hi
    simp only [List.mem_cons, List.not_mem_nil, or_false] at hi
    rcases hi with rfl | rfl | rfl
    · refine ld_op h1.1 h1.2.1 h1.2.2.1 h1.2.2.2 (by rw [ev _ _ _ _ g21]; exact x1) r1 ⟨hS, ?_⟩
      simp only [s21, u21]
      exact T12
    · refine ld_op h3.1 h3.2.1 h3.2.2.1 h3.2.2.2 (by rw [ev _ _ _ _ g23]; exact x3) r3 ⟨hS, ?_⟩
      exact T23
    · refine ld_op h4.1 h4.2.1 h4.2.2.1 h4.2.2.2 (by rw [ev _ _ _ _ g24]; exact x4) r4 ⟨hS, ?_⟩
      exact T24
  have T3 : wpAnyH P md ops Q S (fuel + 3) (l.setIfInBounds i3 true) (a.put (some d3) v3) w := by
    refine wpAnyH_all q124 (by simp) ?_
    intro i hi
    simp only [List.mem_cons, List.not_mem_nil, or_false] at hi
    rcases hi with rfl | rfl | rfl
    · refine ld_op h1.1 h1.2.1 h1.2.2.1 h1.2.2.2 (by rw [ev _ _ _ _ g31]; exact x1) r1 ⟨hS, ?_⟩
      simp only [s31, u31]
      exact T13
    · refine ld_op h2.1 h2.2.1 h2.2.2.1 h2.2.2.2 (by rw [ev _ _ _ _ g32]; exact x2) r2 ⟨hS, ?_⟩
      simp only [s32, u32]
      exact T23
    · refine ld_op h4.1 h4.2.1 h4.2.2.1 h4.2.2.2 (by rw [ev _ _ _ _ g34]; exact x4) r4 ⟨hS, ?_⟩
      exact T34
  have T4 : wpAnyH P md ops Q S (fuel + 3) (l.setIfInBounds i4 true) (a.put (some d4) v4) w := by
    refine wpAnyH_all q123 (by simp) ?_
    intro i hi
    simp only [List.mem_cons, List.not_mem_nil, or_false] at hi
    rcases hi with rfl | rfl | rfl
    · refine ld_op h1.1 h1.2.1 h1.2.2.1 h1.2.2.2 (by rw [ev _ _ _ _ g41]; exact x1) r1 ⟨hS, ?_⟩
      simp only [s41, u41]
      exact T14
    · refine ld_op h2.1 h2.2.1 h2.2.2.1 h2.2.2.2 (by rw [ev _ _ _ _ g42]; exact x2) r2 ⟨hS, ?_⟩
      simp only [s42, u42]
      exact T24
    · refine ld_op h3.1 h3.2.1 h3.2.2.1 h3.2.2.2 (by rw [ev _ _ _ _ g43]; exact x3) r3 ⟨hS, ?_⟩
      simp only [s43, u43]
      exact T34
  have T : wpAnyH P md ops Q S (fuel + 4) l a w := by
    refine wpAnyH_all q1234 (by simp) ?_
    intro i hi
    simp only [List.mem_cons, List.not_mem_nil, or_false] at hi
    rcases hi with rfl | rfl | rfl | rfl
    · refine ld_op h1.1 h1.2.1 h1.2.2.1 h1.2.2.2 (by exact x1) r1 ⟨hS, ?_⟩
      exact T1
    · refine ld_op h2.1 h2.2.1 h2.2.2.1 h2.2.2.2 (by exact x2) r2 ⟨hS, ?_⟩
      exact T2
    · refine ld_op h3.1 h3.2.1 h3.2.2.1 h3.2.2.2 (by exact x3) r3 ⟨hS, ?_⟩
      exact T3
    · refine ld_op h4.1 h4.2.1 h4.2.2.1 h4.2.2.2 (by exact x4) r4 ⟨hS, ?_⟩
      exact T4
  exact T
end Go.Proofs.YtoojiofgmamjeaaDoor
