/-
  The contracts of the reference's Nodes, depth, forms and Valid.
  Conditions: the term lies in memory as a tree.
-/
import Derived.Test.YtokiodjdonbipaaSound
namespace Go.Proofs.Ytokiodjdonbipaa
open Go.RowKit Go.Sort
set_option linter.unusedVariables false
theorem nodesL_append (xs ys : List Tm) : nodesL (xs ++ ys) = nodesL xs + nodesL ys := by
  induction xs with
  | nil => rw [nodesL_nil]; simp
  | cons x xs ih => rw [List.cons_append, nodesL_cons, nodesL_cons, ih]; omega
theorem nodesL_take {l : List Tm} {k : Nat} (h : k < l.length) : nodesL (l.take (k + 1)) = nodesL (l.take k) + nodesT l[k] := by
  rw [List.take_succ_eq_append_getElem h, nodesL_append, nodesL_cons, nodesL_nil]
  rfl
theorem nodesL_take_le (l : List Tm) (k : Nat) : nodesL (l.take k) ≤ nodesL l := by
  conv => rhs; rw [← List.take_append_drop k l, nodesL_append]
  omega
/-- The count after k arguments. -/
def Cnt (l : List Tm) (k : Nat) (n : Nat) : Prop := (n ≤ 600 ∧ n = 1 + nodesL (l.take k)) ∨ (601 ≤ n ∧ n ≤ 1300 ∧ 601 ≤ 1 + nodesL (l.take k))
theorem Cnt.step {l : List Tm} {k n : Nat} (h : Cnt l k n) (hn : n ≤ 600) (hk : k < l.length) : Cnt l (k + 1) (n + min (nodesT l[k]) 601) := by
  unfold Cnt at *
  rw [nodesL_take hk]
  omega
theorem Cnt.fin {o v : Int} {l : List Tm} {k n : Nat} (h : Cnt l k n) (hk : l.length ≤ k ∨ 601 ≤ n) : min (nodesT (.mk o v l)) 601 = min n 601 := by
  unfold Cnt at h
  rw [nodesT_mk]
  have := nodesL_take_le l k
  rcases hk with hk | hk
  · rw [List.take_of_length_le hk] at h this
    omega
  · omega
set_option maxHeartbeats 1000000 in
theorem rnodes_any (t : Tm) : ∀ (w : World) (A : Option Addr) (c : Nat), Tr w t A c →
    Calls Try.prog 30 #[.agg #[.int .i64 t.op, .int .i64 t.val, .slice A t.args.length c]] w fun e w' => e = .returned (.int .i64 ((min (nodesT t) 601 : Nat) : Int)) ∧ Below w.heap.size w w' := by
  refine Tm.ind (P := fun t => ∀ (w : World) (A : Option Addr) (c : Nat), Tr w t A c →
    Calls Try.prog 30 #[.agg #[.int .i64 t.op, .int .i64 t.val, .slice A t.args.length c]] w fun e w' => e = .returned (.int .i64 ((min (nodesT t) 601 : Nat) : Int)) ∧ Below w.heap.size w w') ?_ t
  intro o v l ih w A c ht
  have hf := ht.ofits
  simp only [Tm.op_mk, Tm.val_mk, Tm.args_mk] at hf ⊢
  have hfl := hf.2.2
  unfold maxLen at hfl
  generalize hR : min (nodesT (.mk o v l)) 601 = R
  have HR := Lib.hid hR
  clear hR
  have b1 : Blk (w.alloc (Obj.cells #[.int .i64 o, .int .i64 v, .slice A l.length c] 24)) w.heap.size 24 #[.int .i64 o, .int .i64 v, .slice A l.length c] := heap_alloc_new w _
  have tt := ht.alloc (Obj.cells #[.int .i64 o, .int .i64 v, .slice A l.length c] 24)
  have bb : Below w.heap.size w (w.alloc (Obj.cells #[.int .i64 o, .int .i64 v, .slice A l.length c] 24)) := (Below.refl _ _).alloc (Nat.le_refl _) _
  have Hi := Lib.hid ih
  have B1 := Lib.hid b1
  have TT := Lib.hid tt
  have BB := Lib.hid bb
  clear ih b1 tt bb ht hf
  go_enter Try.func30, Try.ntmps30
  go_wp2_with fail
  generalize w.alloc (Obj.cells #[.int .i64 o, .int .i64 v, .slice A l.length c] 24) = W at *
  go_loopw [3, 4] (fun nn i wr => ∃ k n : Nat, k ≤ l.length ∧ i = .int .i64 k ∧ nn = .int .i64 n ∧ Cnt l k n ∧ n ≤ 1300 ∧ Below W.heap.size W wr) (fun _ i _ => l.length - (intOf i).toNat)
  case atStart => exact ⟨0, 1, Nat.zero_le _, rfl, rfl, .inl ⟨by omega, by rw [List.take_zero, nodesL_nil]⟩, by omega, Below.refl _ _⟩
  case round =>
    obtain ⟨k, n, hk, rfl, rfl, hn, hn13, hb⟩ := hrel
    have HN := Lib.hid hn
    clear hn
    have d2 : wr.cell? ⟨w.heap.size, 2, none⟩ = some (.slice A l.length c) := (B1.out.below hb B1.out.lt).cell 2
    by_cases hkl : k < l.length
    · have x2 : decide ((k : Int) < (l.length : Int)) = true := by simp; omega
      have x2' : decide (k < l.length) = true := by simp; omega
      by_cases hn3 : n ≤ 600
      · have x3 : decide ((n : Int) ≤ 600) = true := decide_eq_true (by omega)
        obtain ⟨g, k0, AA, CC, rfl, c0, c1, c2, htr⟩ := (TT.out.bel hb).at k hkl
        have p1 : (0 : Int) ≤ (k : Int) := by omega
        have p2 : (k : Int) < (l.length : Int) := by omega
        simp only [Tm.args_mk] at c0 c1 c2 htr
        have HC := Lib.hid (Hi.out _ (List.getElem_mem hkl) _ _ _ htr)
        have hst := HN.out.step hn3 hkl
        have hz : min (nodesT l[k]) 601 ≤ 601 := by omega
        have Hb := Lib.hid hb
        clear hb htr
        generalize min (nodesT l[k]) 601 = z at *
        have HS := Lib.hid hst
        clear hst
        go_wp2_with fail
        refine HC.out.mono ?_
        rintro e w2 ⟨rfl, hb2⟩
        have Hb2 := Lib.hid (below_then Hb.out hb2 Hb.out.size)
        clear hb2
        go_wp2_with fail
        go_roundw
        case rel => exact ⟨k + 1, n + z, by omega, by go_num, by go_num, HS.out, by omega, Hb2.out⟩
        case measure => simp [intOf]; omega
      · have x3 : decide ((n : Int) ≤ 600) = false := decide_eq_false (by omega)
        have hfin := HN.out.fin (o := o) (v := v) (.inr (by omega))
        rw [HR.out] at hfin
        have Hb := Lib.hid hb
        have x4 : (601 : Int) < (n : Int) ∨ (n : Int) = 601 := by omega
        clear hb
        rcases x4 with x4 | x4
        · obtain rfl : R = 601 := by omega
          clear hfin
          go_wp2_with fail
          go_ret
          exact ⟨rfl, BB.out.trans (Hb.out.mono BB.out.size)⟩
        · obtain rfl : R = 601 := by omega
          obtain rfl : n = 601 := by omega
          clear hfin x4
          go_wp2_with fail
          go_ret
          exact ⟨rfl, BB.out.trans (Hb.out.mono BB.out.size)⟩
    · have x2 : decide ((k : Int) < (l.length : Int)) = false := by simp; omega
      have x2' : decide (k < l.length) = false := by simp; omega
      have hfin := HN.out.fin (o := o) (v := v) (.inl (by omega))
      rw [HR.out] at hfin
      have Hb := Lib.hid hb
      clear hb
      by_cases x4 : n ≤ 601
      · obtain rfl : R = n := by omega
        clear hfin
        go_wp2_with fail
        all_goals (go_ret; exact ⟨ret_int (by omega), BB.out.trans (Hb.out.mono BB.out.size)⟩)
      · obtain rfl : R = 601 := by omega
        clear hfin
        go_wp2_with fail
        all_goals (go_ret; exact ⟨ret_int (by omega), BB.out.trans (Hb.out.mono BB.out.size)⟩)
theorem formsL_append (xs ys : List Tm) : formsL (xs ++ ys) = (formsL xs && formsL ys) := by
  induction xs with
  | nil => rw [formsL_nil]; rfl
  | cons x xs ih => rw [List.cons_append, formsL_cons, formsL_cons, ih, Bool.and_assoc]
theorem formsL_take {l : List Tm} {k : Nat} (h : k < l.length) : formsL (l.take (k + 1)) = (formsL (l.take k) && formsT l[k]) := by
  rw [List.take_succ_eq_append_getElem h, formsL_append, formsL_cons, formsL_nil, Bool.and_true]
theorem formsL_not {l : List Tm} {k : Nat} (h : k < l.length) (hf : formsT l[k] = false) : formsL l = false := by
  have h1 := formsL_append (l.take (k + 1)) (l.drop (k + 1))
  rw [List.take_append_drop, formsL_take h, hf] at h1
  simpa using h1
set_option maxHeartbeats 1000000 in
theorem forms_any (t : Tm) : ∀ (w : World) (A : Option Addr) (c : Nat), Tr w t A c →
    Calls Try.prog 54 #[.agg #[.int .i64 t.op, .int .i64 t.val, .slice A t.args.length c]] w fun e w' => e = .returned (.bool (formsT t)) ∧ Below w.heap.size w w' := by
  refine Tm.ind (P := fun t => ∀ (w : World) (A : Option Addr) (c : Nat), Tr w t A c →
    Calls Try.prog 54 #[.agg #[.int .i64 t.op, .int .i64 t.val, .slice A t.args.length c]] w fun e w' => e = .returned (.bool (formsT t)) ∧ Below w.heap.size w w') ?_ t
  intro o v l ih w A c ht
  have hf := ht.ofits
  simp only [Tm.op_mk, Tm.val_mk, Tm.args_mk] at hf ⊢
  have hfl := hf.2.2
  unfold maxLen at hfl
  rw [formsT_mk]
  generalize hR : (formsL l && formN o v l) = R
  have HR := Lib.hid hR
  clear hR
  have b1 : Blk (w.alloc (Obj.cells #[.int .i64 o, .int .i64 v, .slice A l.length c] 24)) w.heap.size 24 #[.int .i64 o, .int .i64 v, .slice A l.length c] := heap_alloc_new w _
  have tt := ht.alloc (Obj.cells #[.int .i64 o, .int .i64 v, .slice A l.length c] 24)
  have bb : Below w.heap.size w (w.alloc (Obj.cells #[.int .i64 o, .int .i64 v, .slice A l.length c] 24)) := (Below.refl _ _).alloc (Nat.le_refl _) _
  have Hi := Lib.hid ih
  have B1 := Lib.hid b1
  have TT := Lib.hid tt
  have BB := Lib.hid bb
  clear ih b1 tt bb ht hf
  go_enter Try.func54, Try.ntmps54
  go_wp2_with fail
  generalize w.alloc (Obj.cells #[.int .i64 o, .int .i64 v, .slice A l.length c] 24) = W at *
  go_loopw [3] (fun i wr => ∃ k : Nat, k ≤ l.length ∧ i = .int .i64 k ∧ formsL (l.take k) = true ∧ Below W.heap.size W wr) (fun i _ => l.length - (intOf i).toNat)
  case atStart => exact ⟨0, Nat.zero_le _, rfl, by rw [List.take_zero, formsL_nil], Below.refl _ _⟩
  case round =>
    obtain ⟨k, hk, rfl, hn, hb⟩ := hrel
    have HN := Lib.hid hn
    clear hn
    have b2 := B1.out.below hb B1.out.lt
    have d0 : wr.cell? ⟨w.heap.size, 0, none⟩ = some (.int .i64 o) := b2.cell 0
    have d1 : wr.cell? ⟨w.heap.size, 1, none⟩ = some (.int .i64 v) := b2.cell 1
    have d2 : wr.cell? ⟨w.heap.size, 2, none⟩ = some (.slice A l.length c) := b2.cell 2
    clear b2
    by_cases hkl : k < l.length
    · have x2 : decide ((k : Int) < (l.length : Int)) = true := by simp; omega
      have x2' : decide (k < l.length) = true := by simp; omega
      obtain ⟨g, k0, AA, CC, rfl, c0, c1, c2, htr⟩ := (TT.out.bel hb).at k hkl
      have p1 : (0 : Int) ≤ (k : Int) := by omega
      have p2 : (k : Int) < (l.length : Int) := by omega
      simp only [Tm.args_mk] at c0 c1 c2 htr
      have HC := Lib.hid (Hi.out _ (List.getElem_mem hkl) _ _ _ htr)
      have Hb := Lib.hid hb
      clear hb htr
      cases hz : formsT l[k]
      · have e1 : R = false := by rw [← HR.out, formsL_not hkl hz]; rfl
        rw [hz] at HC
        subst e1
        clear hz
        go_wp2_with fail
        refine HC.out.mono ?_
        rintro e w2 ⟨rfl, hb2⟩
        have Hb2 := Lib.hid (below_then Hb.out hb2 Hb.out.size)
        clear hb2
        go_wp2_with fail
        go_ret
        exact ⟨rfl, BB.out.trans (Hb2.out.mono BB.out.size)⟩
      · have HS := Lib.hid (show formsL (l.take (k + 1)) = true by rw [formsL_take hkl, HN.out, hz]; rfl)
        rw [hz] at HC
        clear hz
        go_wp2_with fail
        refine HC.out.mono ?_
        rintro e w2 ⟨rfl, hb2⟩
        have Hb2 := Lib.hid (below_then Hb.out hb2 Hb.out.size)
        clear hb2
        go_wp2_with fail
        go_roundw
        case rel => exact ⟨k + 1, by omega, by go_num, HS.out, Hb2.out⟩
        case measure => simp [intOf]; omega
    · have x2 : decide ((k : Int) < (l.length : Int)) = false := by simp; omega
      have x2' : decide (k < l.length) = false := by simp; omega
      have e1 : formN o v l = R := by
        rw [← HR.out]
        have h := HN.out
        rw [List.take_of_length_le (by omega)] at h
        rw [h]; rfl
      have HE := Lib.hid e1
      have Hb := Lib.hid hb
      have HT2 := Lib.hid (TT.out.bel hb)
      clear hb e1
      go_wp2_with fail
      refine (form_any (.mk o v l) _ A c HT2.out).mono ?_
      rintro e w2 ⟨rfl, hb2⟩
      have Hb2 := Lib.hid (below_then Hb.out hb2 Hb.out.size)
      clear hb2
      go_wp2_with fail
      go_ret
      exact ⟨ret_bool HE.out, BB.out.trans (Hb2.out.mono BB.out.size)⟩
theorem depthL_append (xs ys : List Tm) : depthL (xs ++ ys) = max (depthL xs) (depthL ys) := by
  induction xs with
  | nil => rw [depthL_nil]; simp
  | cons x xs ih => rw [List.cons_append, depthL_cons, depthL_cons, ih]; omega
theorem depthL_take {l : List Tm} {k : Nat} (h : k < l.length) : depthL (l.take (k + 1)) = max (depthL (l.take k)) (depthT l[k]) := by
  rw [List.take_succ_eq_append_getElem h, depthL_append, depthL_cons, depthL_nil]
  omega
theorem depthL_ge {l : List Tm} {k : Nat} (h : k < l.length) : depthT l[k] ≤ depthL l := by
  have h1 := depthL_append (l.take (k + 1)) (l.drop (k + 1))
  rw [List.take_append_drop, depthL_take h] at h1
  omega
set_option maxHeartbeats 1000000 in
theorem rdepth_any (t : Tm) : ∀ (w : World) (A : Option Addr) (c : Nat) (m : Int), Tr w t A c → -1000000 ≤ m → m ≤ 1000000 →
    Calls Try.prog 53 #[.agg #[.int .i64 t.op, .int .i64 t.val, .slice A t.args.length c], .int .i64 m] w fun e w' => e = .returned (.bool (decide ((depthT t : Int) ≤ m))) ∧ Below w.heap.size w w' := by
  refine Tm.ind (P := fun t => ∀ (w : World) (A : Option Addr) (c : Nat) (m : Int), Tr w t A c → -1000000 ≤ m → m ≤ 1000000 →
    Calls Try.prog 53 #[.agg #[.int .i64 t.op, .int .i64 t.val, .slice A t.args.length c], .int .i64 m] w fun e w' => e = .returned (.bool (decide ((depthT t : Int) ≤ m))) ∧ Below w.heap.size w w') ?_ t
  intro o v l ih w A c m ht hm0 hm1
  have hf := ht.ofits
  simp only [Tm.op_mk, Tm.val_mk, Tm.args_mk] at hf ⊢
  have hfl := hf.2.2
  unfold maxLen at hfl
  rw [depthT_mk]
  generalize hR : decide (((1 + depthL l : Nat) : Int) ≤ m) = R
  have HR := Lib.hid hR
  clear hR
  by_cases hm2 : m < 1
  · have e1 : R = false := by rw [← HR.out]; exact decide_eq_false (by omega)
    subst e1
    have q1 : decide (m < 1) = true := decide_eq_true hm2
    clear hm2 ih ht hf
    go_enter Try.func53, Try.ntmps53
    go_wp2_with fail
    go_ret
    exact ⟨rfl, (Below.refl _ _).alloc (Nat.le_refl _) _⟩
  have q1 : decide (m < 1) = false := decide_eq_false hm2
  have b1 : Blk (w.alloc (Obj.cells #[.int .i64 o, .int .i64 v, .slice A l.length c] 24)) w.heap.size 24 #[.int .i64 o, .int .i64 v, .slice A l.length c] := heap_alloc_new w _
  have tt := ht.alloc (Obj.cells #[.int .i64 o, .int .i64 v, .slice A l.length c] 24)
  have bb : Below w.heap.size w (w.alloc (Obj.cells #[.int .i64 o, .int .i64 v, .slice A l.length c] 24)) := (Below.refl _ _).alloc (Nat.le_refl _) _
  have Hi := Lib.hid ih
  have B1 := Lib.hid b1
  have TT := Lib.hid tt
  have BB := Lib.hid bb
  clear ih b1 tt bb ht hf
  go_enter Try.func53, Try.ntmps53
  go_wp2_with fail
  generalize w.alloc (Obj.cells #[.int .i64 o, .int .i64 v, .slice A l.length c] 24) = W at *
  go_loopw [5] (fun i wr => ∃ k : Nat, k ≤ l.length ∧ i = .int .i64 k ∧ ((depthL (l.take k) : Nat) : Int) ≤ m - 1 ∧ Below W.heap.size W wr) (fun i _ => l.length - (intOf i).toNat)
  case atStart => exact ⟨0, Nat.zero_le _, rfl, by rw [List.take_zero, depthL_nil]; omega, Below.refl _ _⟩
  case round =>
    obtain ⟨k, hk, rfl, hn, hb⟩ := hrel
    have HN := Lib.hid hn
    clear hn
    have d2 : wr.cell? ⟨w.heap.size, 2, none⟩ = some (.slice A l.length c) := (B1.out.below hb B1.out.lt).cell 2
    by_cases hkl : k < l.length
    · have x2 : decide ((k : Int) < (l.length : Int)) = true := by simp; omega
      have x2' : decide (k < l.length) = true := by simp; omega
      obtain ⟨g, k0, AA, CC, rfl, c0, c1, c2, htr⟩ := (TT.out.bel hb).at k hkl
      have p1 : (0 : Int) ≤ (k : Int) := by omega
      have p2 : (k : Int) < (l.length : Int) := by omega
      simp only [Tm.args_mk] at c0 c1 c2 htr
      have HC := Lib.hid (Hi.out _ (List.getElem_mem hkl) _ _ _ (m - 1) htr (by omega) (by omega))
      have Hb := Lib.hid hb
      clear hb htr
      by_cases hz : (depthT l[k] : Int) ≤ m - 1
      · have HS := Lib.hid (show ((depthL (l.take (k + 1)) : Nat) : Int) ≤ m - 1 by rw [depthL_take hkl]; have := HN.out; omega)
        rw [decide_eq_true hz] at HC
        clear hz
        go_wp2_with fail
        refine HC.out.mono ?_
        rintro e w2 ⟨rfl, hb2⟩
        have Hb2 := Lib.hid (below_then Hb.out hb2 Hb.out.size)
        clear hb2
        go_wp2_with fail
        go_roundw
        case rel => exact ⟨k + 1, by omega, by go_num, HS.out, Hb2.out⟩
        case measure => simp [intOf]; omega
      · have e1 : R = false := by rw [← HR.out]; have := depthL_ge hkl; exact decide_eq_false (by omega)
        rw [decide_eq_false hz] at HC
        subst e1
        clear hz
        go_wp2_with fail
        refine HC.out.mono ?_
        rintro e w2 ⟨rfl, hb2⟩
        have Hb2 := Lib.hid (below_then Hb.out hb2 Hb.out.size)
        clear hb2
        go_wp2_with fail
        go_ret
        exact ⟨rfl, BB.out.trans (Hb2.out.mono BB.out.size)⟩
    · have x2 : decide ((k : Int) < (l.length : Int)) = false := by simp; omega
      have x2' : decide (k < l.length) = false := by simp; omega
      have e1 : R = true := by
        rw [← HR.out]
        have h := HN.out
        rw [List.take_of_length_le (by omega)] at h
        exact decide_eq_true (by omega)
      subst e1
      have Hb := Lib.hid hb
      clear hb
      go_wp2_with fail
      go_ret
      exact ⟨rfl, BB.out.trans (Hb.out.mono BB.out.size)⟩
/-- Whether a term is valid. -/
def validT (t : Tm) : Bool := decide (nodesT t ≤ 600) && decide (depthT t ≤ 60) && formsT t
end Go.Proofs.Ytokiodjdonbipaa
