/-
  Which of two addresses is less, the greater and the smaller one.
  Conditions: none.
-/
import Derived.Test.YtbfppnppijcnlaaGreatBoxC
namespace Go.Proofs.YtbfppnppijcnlaaGreat
namespace Ab
open Go.RowKit
set_option linter.unusedVariables false
set_option linter.unusedSimpArgs false
set_option maxRecDepth 100000
/-- Three numbers, in their order. -/
noncomputable def ltA (f h l f' h' l' : Int) : Bool := if f = f' then (if h = h' then decide (l < l') else decide (h < h')) else decide (f < f')
theorem ltA_irrefl (f h l : Int) : ltA f h l f h l = false := by simp [ltA]
theorem ltA_asymm {f h l f' h' l' : Int} (hl : ltA f h l f' h' l' = true) : ltA f' h' l' f h l = false := by
  unfold ltA at hl ⊢
  by_cases e : f = f'
  · subst e
    simp only [if_true] at hl ⊢
    by_cases e : h = h'
    · subst e
      simp only [if_true, decide_eq_true_eq] at hl ⊢
      exact decide_eq_false (by omega)
    · rw [if_neg e] at hl
      rw [if_neg (Ne.symm e)]
      simp only [decide_eq_true_eq] at hl
      exact decide_eq_false (by omega)
  · rw [if_neg e] at hl
    rw [if_neg (Ne.symm e)]
    simp only [decide_eq_true_eq] at hl
    exact decide_eq_false (by omega)
theorem holdS {V : Nat → Value} {op : BinOp} {i j : Nat} {k : IntKind} {n m : Int} {r : Bool} (hi : V i = .int k n) (hj : V j = .int k m) (h : cmpB op n m = some r) : HoldQ Tryz.prog V (.cmp op (.sym i) (.sym j)) r := fun ρ x y hx hy =>
  ⟨k, n, k, m, Eq.trans (show x = V i from hx) hi, Eq.trans (show y = V j from hy) hj, fun xt => by rw [show x = V i from hx, show y = V j from hy, hi, hj]; exact cmpB_ok h k xt⟩
noncomputable def lR (D : List (Qu × Bool)) (r : Bool) : Bool := match fnA (envT D) 60 161 [aggS [0, 1, 2], aggS [3, 4, 5]] st0 with
  | some (.one (.c (.bool b)), _) => b == r
  | _ => false
noncomputable def qc (op : BinOp) (i j : Nat) (r : Bool) : Qu × Bool := (.cmp op (.sym i) (.sym j), r)
theorem lR1 : (lR [qc .neq 0 3 true, qc .lss 0 3 true] true && lR [qc .neq 0 3 true, qc .lss 0 3 false] false && (lR [qc .neq 0 3 false, qc .neq 1 4 true, qc .lss 1 4 true] true && lR [qc .neq 0 3 false, qc .neq 1 4 true, qc .lss 1 4 false] false) && (lR [qc .neq 0 3 false, qc .neq 1 4 false, qc .lss 2 5 true] true && lR [qc .neq 0 3 false, qc .neq 1 4 false, qc .lss 2 5 false] false)) = true := by kernel_rfl
theorem less_any (f h l f' h' l' : Int) (w : World) : Calls Tryz.prog 161 #[.agg #[.int .i64 f, .int .u64 h, .int .u64 l], .agg #[.int .i64 f', .int .u64 h', .int .u64 l']] w fun e w' => e = .returned (.bool (ltA f h l f' h' l')) ∧ RowKit.Below w.heap.size w w' := by
  obtain ⟨V, hV⟩ : ∃ V, V = rowV [.int .i64 f, .int .u64 h, .int .u64 l, .int .i64 f', .int .u64 h', .int .u64 l'] := ⟨_, rfl⟩
  have hone : ∀ i, (V i).oneCell' = true := by
    rw [hV]
    exact rowV_one (by simp [Value.oneCell'])
  have hv : F2 (VR V ρ0) [aggS [0, 1, 2], aggS [3, 4, 5]] (#[.agg #[.int .i64 f, .int .u64 h, .int .u64 l], .agg #[.int .i64 f', .int .u64 h', .int .u64 l']] : Array Value).toList := by
    rw [hV]
    exact ⟨⟨_, rfl, rfl, rfl, rfl, trivial⟩, ⟨_, rfl, rfl, rfl, rfl, trivial⟩, trivial⟩
  have v0 : V 0 = .int .i64 f := by rw [hV]; rfl
  have v1 : V 1 = .int .u64 h := by rw [hV]; rfl
  have v2 : V 2 = .int .u64 l := by rw [hV]; rfl
  have v3 : V 3 = .int .i64 f' := by rw [hV]; rfl
  have v4 : V 4 = .int .u64 h' := by rw [hV]; rfl
  have v5 : V 5 = .int .u64 l' := by rw [hV]; rfl
  have key : ∀ {D : List (Qu × Bool)} {r : Bool}, lR D r = true → (∀ d ∈ D, HoldQ Tryz.prog V d.1 d.2) → ltA f h l f' h' l' = r → Calls Tryz.prog 161 #[.agg #[.int .i64 f, .int .u64 h, .int .u64 l], .agg #[.int .i64 f', .int .u64 h', .int .u64 l']] w fun e w' => e = .returned (.bool (ltA f h l f' h' l')) ∧ RowKit.Below w.heap.size w w' := by
    intro D r hr hD he
    obtain ⟨e1, e2⟩ := envT_ok hone hD
    unfold lR at hr
    split at hr
    · rename_i b s hrun
      simp only [beq_iff_eq] at hr
      refine (fnA_ok e1 e2 60 _ _ st0 _ s hrun ρ0 w _ hv (rep0 w) ⟨fun _ _ _ => rfl, fun _ _ _ => rfl⟩).mono ?_
      rintro e w' ⟨c, ρ', rfl, hg, hc⟩
      have hc : c = .bool b := hc
      exact ⟨by rw [hc, hr, he], goes_below hg⟩
    · cases hr
  have hr := lR1
  simp only [Bool.and_eq_true] at hr
  obtain ⟨⟨⟨r1, r2⟩, r3, r4⟩, r5, r6⟩ := hr
  have b1 : ∀ (x y : Int), (x != y) = decide (x ≠ y) := fun x y => by
    rw [Bool.eq_iff_iff]
    simp
  by_cases ef : f = f'
  · have n1 : HoldQ Tryz.prog V (.cmp .neq (.sym 0) (.sym 3)) false := holdS v0 v3 (by simp [cmpB, ef])
    by_cases eh : h = h'
    · have n2 : HoldQ Tryz.prog V (.cmp .neq (.sym 1) (.sym 4)) false := holdS v1 v4 (by simp [cmpB, eh])
      by_cases el : l < l'
      · exact key r5 (by
          intro d hd
          simp only [List.mem_cons, List.not_mem_nil, or_false] at hd
          rcases hd with rfl | rfl | rfl
          · exact n1
          · exact n2
          · exact holdS v2 v5 (by simp [cmpB, qc, el])) (by simp [ltA, ef, eh, el])
      · exact key r6 (by
          intro d hd
          simp only [List.mem_cons, List.not_mem_nil, or_false] at hd
          rcases hd with rfl | rfl | rfl
          · exact n1
          · exact n2
          · exact holdS v2 v5 (by simp [cmpB, qc, el])) (by simp [ltA, ef, eh, el])
    · have n2 : HoldQ Tryz.prog V (.cmp .neq (.sym 1) (.sym 4)) true := holdS v1 v4 (by simp [cmpB, eh])
      by_cases el : h < h'
      · exact key r3 (by
          intro d hd
          simp only [List.mem_cons, List.not_mem_nil, or_false] at hd
          rcases hd with rfl | rfl | rfl
          · exact n1
          · exact n2
          · exact holdS v1 v4 (by simp [cmpB, qc, el])) (by simp [ltA, ef, eh, el])
      · exact key r4 (by
          intro d hd
          simp only [List.mem_cons, List.not_mem_nil, or_false] at hd
          rcases hd with rfl | rfl | rfl
          · exact n1
          · exact n2
          · exact holdS v1 v4 (by simp [cmpB, qc, el])) (by simp [ltA, ef, eh, el])
  · have n1 : HoldQ Tryz.prog V (.cmp .neq (.sym 0) (.sym 3)) true := holdS v0 v3 (by simp [cmpB, ef])
    by_cases el : f < f'
    · exact key r1 (by
        intro d hd
        simp only [List.mem_cons, List.not_mem_nil, or_false] at hd
        rcases hd with rfl | rfl
        · exact n1
        · exact holdS v0 v3 (by simp [cmpB, qc, el])) (by simp [ltA, ef, el])
    · exact key r2 (by
        intro d hd
        simp only [List.mem_cons, List.not_mem_nil, or_false] at hd
        rcases hd with rfl | rfl
        · exact n1
        · exact holdS v0 v3 (by simp [cmpB, qc, el])) (by simp [ltA, ef, el])
/-! The greater and the smaller one -/
noncomputable def gR (f : Nat) (x y : List Nat) (r : Bool) (z : List Nat) : Bool := match fnA (envT [(.call 161 [aggS x, aggS y], r)]) 60 f [aggS [0, 1, 2], aggS [3, 4, 5]] st0 with
  | some (.one (.agg l), _) => subL [] [] l (z.map AC.sym)
  | _ => false
theorem gR1 : (gR 253 [0, 1, 2] [3, 4, 5] true [3, 4, 5] && gR 253 [0, 1, 2] [3, 4, 5] false [0, 1, 2] && (gR 255 [3, 4, 5] [0, 1, 2] true [3, 4, 5] && gR 255 [3, 4, 5] [0, 1, 2] false [0, 1, 2])) = true := by kernel_rfl
noncomputable def adr (f h l : Int) : Value := .agg #[.int .i64 f, .int .u64 h, .int .u64 l]
theorem pick_any {g : Nat} {f h l f' h' l' : Int} {x y : List Nat} (w : World) (r : Bool) (z : List Nat) (hz : z = [0, 1, 2] ∨ z = [3, 4, 5]) (hrun : gR g x y r z = true)
    (hq : HoldQ Tryz.prog (rowV [.int .i64 f, .int .u64 h, .int .u64 l, .int .i64 f', .int .u64 h', .int .u64 l']) (.call 161 [aggS x, aggS y]) r) :
    Calls Tryz.prog g #[adr f h l, adr f' h' l'] w fun e w' => e = .returned (if z = [0, 1, 2] then adr f h l else adr f' h' l') ∧ RowKit.Below w.heap.size w w' := by
  obtain ⟨V, hV⟩ : ∃ V, V = rowV [.int .i64 f, .int .u64 h, .int .u64 l, .int .i64 f', .int .u64 h', .int .u64 l'] := ⟨_, rfl⟩
  rw [← hV] at hq
  have hone : ∀ i, (V i).oneCell' = true := by
    rw [hV]
    exact rowV_one (by simp [Value.oneCell'])
  have hv : F2 (VR V ρ0) [aggS [0, 1, 2], aggS [3, 4, 5]] (#[adr f h l, adr f' h' l'] : Array Value).toList := by
    rw [hV]
    exact ⟨⟨_, rfl, rfl, rfl, rfl, trivial⟩, ⟨_, rfl, rfl, rfl, rfl, trivial⟩, trivial⟩
  obtain ⟨e1, e2⟩ := envT_ok hone (D := [(.call 161 [aggS x, aggS y], r)]) (by
    intro d hd
    rw [List.mem_singleton.1 hd]
    exact hq)
  unfold gR at hrun
  split at hrun
  · rename_i l0 s hr
    refine (fnA_ok e1 e2 60 _ _ st0 _ s hr ρ0 w _ hv (rep0 w) ⟨fun _ _ _ => rfl, fun _ _ _ => rfl⟩).mono ?_
    rintro e w' ⟨c, ρ', rfl, hg, hc⟩
    obtain ⟨cs, rfl, hcs⟩ := hc
    have h2 := subL_ok hone hrun hcs
    refine ⟨?_, goes_below hg⟩
    congr 1
    rcases hz with rfl | rfl
    · rw [if_pos rfl]
      match hl : cs.toList, h2 with
      | [a, b, c], h2 =>
        have k1 : a = V 0 := h2.1
        have k2 : b = V 1 := h2.2.1
        have k3 : c = V 2 := h2.2.2.1
        have : cs = #[.int .i64 f, .int .u64 h, .int .u64 l] := Array.ext' (by rw [hl, k1, k2, k3, hV]; rfl)
        rw [this]
        rfl
    · rw [if_neg (by decide)]
      match hl : cs.toList, h2 with
      | [a, b, c], h2 =>
        have k1 : a = V 3 := h2.1
        have k2 : b = V 4 := h2.2.1
        have k3 : c = V 5 := h2.2.2.1
        have : cs = #[.int .i64 f', .int .u64 h', .int .u64 l'] := Array.ext' (by rw [hl, k1, k2, k3, hV]; rfl)
        rw [this]
        rfl
  · cases hrun
theorem greater_any (f h l f' h' l' : Int) (w : World) : Calls Tryz.prog 253 #[adr f h l, adr f' h' l'] w fun e w' => e = .returned (if ltA f h l f' h' l' = true then adr f' h' l' else adr f h l) ∧ RowKit.Below w.heap.size w w' := by
  have hr := gR1
  simp only [Bool.and_eq_true] at hr
  obtain ⟨⟨r1, r2⟩, r3, r4⟩ := hr
  have hq : HoldQ Tryz.prog (rowV [.int .i64 f, .int .u64 h, .int .u64 l, .int .i64 f', .int .u64 h', .int .u64 l']) (.call 161 [aggS [0, 1, 2], aggS [3, 4, 5]]) (ltA f h l f' h' l') := fun ρ w vals hv => by
    have e := f2_six hv
    have : vals = #[.agg #[.int .i64 f, .int .u64 h, .int .u64 l], .agg #[.int .i64 f', .int .u64 h', .int .u64 l']] := Array.ext' (by rw [e]; rfl)
    rw [this]
    exact less_any f h l f' h' l' w
  cases hb : ltA f h l f' h' l'
  · rw [hb] at hq
    exact pick_any w false [0, 1, 2] (.inl rfl) r2 hq
  · rw [hb] at hq
    exact pick_any w true [3, 4, 5] (.inr rfl) r1 hq
theorem smaller_any (f h l f' h' l' : Int) (w : World) : Calls Tryz.prog 255 #[adr f h l, adr f' h' l'] w fun e w' => e = .returned (if ltA f' h' l' f h l = true then adr f' h' l' else adr f h l) ∧ RowKit.Below w.heap.size w w' := by
  have hr := gR1
  simp only [Bool.and_eq_true] at hr
  obtain ⟨⟨r1, r2⟩, r3, r4⟩ := hr
  have hq : HoldQ Tryz.prog (rowV [.int .i64 f, .int .u64 h, .int .u64 l, .int .i64 f', .int .u64 h', .int .u64 l']) (.call 161 [aggS [3, 4, 5], aggS [0, 1, 2]]) (ltA f' h' l' f h l) := fun ρ w vals hv => by
    have e := f2_six hv
    have : vals = #[.agg #[.int .i64 f', .int .u64 h', .int .u64 l'], .agg #[.int .i64 f, .int .u64 h, .int .u64 l]] := Array.ext' (by rw [e]; rfl)
    rw [this]
    exact less_any f' h' l' f h l w
  cases hb : ltA f' h' l' f h l
  · rw [hb] at hq
    exact pick_any w false [0, 1, 2] (.inl rfl) r4 hq
  · rw [hb] at hq
    exact pick_any w true [3, 4, 5] (.inr rfl) r3 hq
end Ab
end Go.Proofs.YtbfppnppijcnlaaGreat
namespace Go.Proofs.YtbfppnppijcnlaaGreat
namespace Ab
open Go.RowKit
set_option linter.unusedVariables false
set_option linter.unusedSimpArgs false
set_option maxRecDepth 100000
/-- The cells of a box of these numbers. -/
noncomputable def bx (d : Nat → Int) : List Value := (List.range 18).map fun i => .int (tagK i) (d i)
noncomputable def n1 (d : Nat → Int) (c : Nat) : Int := IntKind.i64.wrap (d c + 1)
noncomputable def u1 (d : Nat → Int) (c : Nat) : Int := IntKind.u64.wrap (n1 d c)
noncomputable def loX (d : Nat → Int) (k : Nat) : Int × Int × Int := match k with
  | 0 => (d 0, d 1, d 2) | 1 => (d 6, d 7, d 8) | 2 => (0, 0, u1 d 12) | 3 => (0, 0, u1 d 14) | _ => (0, 0, u1 d 16)
noncomputable def hiX (d : Nat → Int) (k : Nat) : Int × Int × Int := match k with
  | 0 => (d 3, d 4, d 5) | 1 => (d 9, d 10, d 11) | 2 => (0, 0, u1 d 13) | 3 => (0, 0, u1 d 15) | _ => (0, 0, u1 d 17)
noncomputable def ltX (x y : Int × Int × Int) : Bool := ltA x.1 x.2.1 x.2.2 y.1 y.2.1 y.2.2
noncomputable def loT (a b : Nat → Int) (k : Nat) : Int × Int × Int := if ltX (loX a k) (loX b k) = true then loX b k else loX a k
noncomputable def hiT (a b : Nat → Int) (k : Nat) : Int × Int × Int := if ltX (hiX b k) (hiX a k) = true then hiX b k else hiX a k
noncomputable def bk (x : Int × Int × Int) : Int := IntKind.i64.wrap (IntKind.i64.wrap x.2.2 - 1)
noncomputable def meetOk (a b : Nat → Int) : Bool := decide (a 0 = b 0) && (List.range 5).all fun k => !(ltX (hiT a b k) (loT a b k))
noncomputable def meetD (a b : Nat → Int) (i : Nat) : Int := match i with
  | 0 => (loT a b 0).1 | 1 => (loT a b 0).2.1 | 2 => (loT a b 0).2.2 | 3 => (hiT a b 0).1 | 4 => (hiT a b 0).2.1 | 5 => (hiT a b 0).2.2
  | 6 => (loT a b 1).1 | 7 => (loT a b 1).2.1 | 8 => (loT a b 1).2.2 | 9 => (hiT a b 1).1 | 10 => (hiT a b 1).2.1 | 11 => (hiT a b 1).2.2
  | 12 => bk (loT a b 2) | 13 => bk (hiT a b 2) | 14 => bk (loT a b 3) | 15 => bk (hiT a b 3) | 16 => bk (loT a b 4) | _ => bk (hiT a b 4)
/-- What stands behind the symbols. -/
noncomputable def mV (a b : Nat → Int) (j : Nat) : Value :=
  if 500 ≤ j ∧ j < 518 then .int (tagK (j - 500)) (a (j - 500)) else if 520 ≤ j ∧ j < 538 then .int (tagK (j - 520)) (b (j - 520)) else
  if 712 ≤ j ∧ j < 718 then .int .i64 (n1 a (j - 700)) else if 732 ≤ j ∧ j < 738 then .int .i64 (n1 b (j - 720)) else
  if 812 ≤ j ∧ j < 818 then .int .u64 (u1 a (j - 800)) else if 832 ≤ j ∧ j < 838 then .int .u64 (u1 b (j - 820)) else
  if 600 ≤ j ∧ j < 700 then (match (j - 600) % 20 with
    | 0 => .int .i64 (loT a b ((j - 600) / 20)).1 | 1 => .int .u64 (loT a b ((j - 600) / 20)).2.1 | 2 => .int .u64 (loT a b ((j - 600) / 20)).2.2
    | 6 => .int .i64 (IntKind.i64.wrap (loT a b ((j - 600) / 20)).2.2) | 7 => .int .i64 (bk (loT a b ((j - 600) / 20)))
    | 10 => .int .i64 (hiT a b ((j - 600) / 20)).1 | 11 => .int .u64 (hiT a b ((j - 600) / 20)).2.1 | 12 => .int .u64 (hiT a b ((j - 600) / 20)).2.2
    | 16 => .int .i64 (IntKind.i64.wrap (hiT a b ((j - 600) / 20)).2.2) | 17 => .int .i64 (bk (hiT a b ((j - 600) / 20)))
    | _ => .bool true) else .bool true
theorem mV_one (a b : Nat → Int) (j : Nat) : (mV a b j).oneCell' = true := by
  unfold mV
  repeat' split
  all_goals rfl
noncomputable def isNum (i : Nat) : Bool := (Nat.ble 512 i && Nat.blt i 518) || (Nat.ble 532 i && Nat.blt i 538)
noncomputable def isNum1 (i : Nat) : Bool := (Nat.ble 712 i && Nat.blt i 718) || (Nat.ble 732 i && Nat.blt i 738)
noncomputable def isLoHi (i : Nat) : Bool := Nat.ble 600 i && (Nat.blt i 700 && (Nat.beq ((i - 600) % 20) 2 || Nat.beq ((i - 600) % 20) 12))
noncomputable def isBk (i : Nat) : Bool := Nat.ble 600 i && (Nat.blt i 700 && (Nat.beq ((i - 600) % 20) 6 || Nat.beq ((i - 600) % 20) 16))
noncomputable def tabM (fam : Bool) (op : BinOp) (x y : AC) : Option AC :=
  match op, x, y with
  | .add, .sym i, .int .i64 1 => bif isNum i then some (.sym (i + 200)) else none
  | .sub, .sym i, .int .i64 1 => bif isBk i then some (.sym (i + 1)) else none
  | .neq, .sym i, .sym j => bif Nat.beq i 500 && Nat.beq j 520 then some (.bool !fam) else none
  | _, _, _ => none
noncomputable def cvtM (k : IntKind) (x : AC) : Option AC :=
  match k, x with
  | .u64, .sym i => bif isNum1 i then some (.sym (i + 100)) else none
  | .i64, .sym i => bif isLoHi i then some (.sym (i + 4)) else none
  | _, _ => none
noncomputable def s3 (i : Nat) : List AC := [.sym i, .sym (i + 1), .sym (i + 2)]
noncomputable def z3 (i : Nat) : List AC := [.int .i64 0, .int .u64 0, .sym i]
noncomputable def gL (base k : Nat) : List AC := match k with | 0 => s3 base | 1 => s3 (base + 6) | 2 => z3 (base + 312) | 3 => z3 (base + 314) | _ => z3 (base + 316)
noncomputable def hL (base k : Nat) : List AC := match k with | 0 => s3 (base + 3) | 1 => s3 (base + 9) | 2 => z3 (base + 313) | 3 => z3 (base + 315) | _ => z3 (base + 317)
noncomputable def rL (r k : Nat) : List AC := bif Nat.blt k 2 then s3 (r + 20 * k) else z3 (r + 20 * k + 2)
noncomputable def eqCL : List AC → List AC → Bool
  | [], [] => true
  | x :: r, y :: s => eqC x y && eqCL r s
  | _, _ => false
theorem eqCL_eq : ∀ {l m : List AC}, eqCL l m = true → l = m
  | [], [], _ => rfl
  | x :: r, y :: s, h => by
    simp only [eqCL, Bool.and_eq_true] at h
    rw [eqC_eq h.1, eqCL_eq h.2]
  | [], _ :: _, h => by cases h
  | _ :: _, [], h => by cases h
/-- The range that these cells are of. -/
noncomputable def whichK (f : Nat → List AC) (g : Nat → List AC) (x y : List AC) : Option Nat := (List.range 5).find? fun k => eqCL x (f k) && eqCL y (g k)
theorem whichK_ok {f g : Nat → List AC} {x y : List AC} {k : Nat} (h : whichK f g x y = some k) : k < 5 ∧ x = f k ∧ y = g k := by
  unfold whichK at h
  have h1 := List.find?_some h
  have h2 := List.mem_of_find?_eq_some h
  simp only [Bool.and_eq_true] at h1
  exact ⟨List.mem_range.1 h2, eqCL_eq h1.1, eqCL_eq h1.2⟩
/-- Greater, Smaller, Less; the ranges below j are there, the range j is not. -/
noncomputable def extM (j : Nat) (f : Nat) (args : List AV) (s : St) : Option (AV × St) :=
  match args with
  | [.one (.agg x), .one (.agg y)] =>
    bif Nat.beq f 253 then (match whichK (gL 500) (gL 520) x y with | some k => some (.one (.agg (rL 600 k)), s) | none => none) else
    bif Nat.beq f 255 then (match whichK (hL 500) (hL 520) x y with | some k => some (.one (.agg (rL 610 k)), s) | none => none) else
    bif Nat.beq f 161 then (match whichK (rL 610) (rL 600) x y with | some k => bif Nat.ble k j then some (.one (.c (.bool (Nat.beq k j))), s) else none | none => none) else none
  | _ => none
noncomputable def envM (fam : Bool) (j : Nat) : Env := env (tabM fam) cvtM (onlyE (env noTab noCvt noExt) (extM j))
noncomputable def boxL (n : Nat) : List AC := (List.range 18).map fun i => .sym (n + i)
noncomputable def mL : List AC := s3 600 ++ (s3 610 ++ (s3 620 ++ (s3 630 ++ [.sym 647, .sym 657, .sym 667, .sym 677, .sym 687, .sym 697])))
noncomputable def zL : List AC := (List.range 18).map fun i => .int (tagK i) 0
noncomputable def meetR (fam : Bool) (j : Nat) (l : List AC) (r : Bool) : Bool := match fnA (envM fam j) 60 240 [.one (.agg (boxL 500)), .one (.agg (boxL 520))] st0 with
  | some (.tup [.agg m, .c (.bool b)], _) => eqCL m l && (b == r)
  | _ => false
noncomputable def resM (fam : Bool) (j : Nat) : Bool := fam && Nat.beq j 5
theorem meetR_all : ((List.range 6).all fun j => meetR false j (bif resM false j then mL else zL) (resM false j) && meetR true j (bif resM true j then mL else zL) (resM true j)) = true := by kernel_rfl
theorem first_j (p : Nat → Bool) : ∃ j, j < 6 ∧ (∀ k, k < 5 → k < j → p k = false) ∧ (j < 5 → p j = true) := by
  have : ∀ n, n ≤ 5 → (∀ k, k < n → p k = false) ∨ ∃ j, j < n ∧ (∀ k, k < j → p k = false) ∧ p j = true := by
    intro n
    induction n with
    | zero => exact fun _ => .inl (fun k hk => absurd hk (Nat.not_lt_zero _))
    | succ n ih =>
      intro hn
      rcases ih (by omega) with h | ⟨j, h1, h2, h3⟩
      · cases hp : p n
        · refine .inl (fun k hk => ?_)
          by_cases e : k = n
          · rw [e, hp]
          · exact h k (by omega)
        · exact .inr ⟨n, by omega, h, hp⟩
      · exact .inr ⟨j, by omega, h2, h3⟩
  rcases this 5 (by omega) with h | ⟨j, h1, h2, h3⟩
  · exact ⟨5, by omega, fun k hk _ => h k hk, fun h => absurd h (by omega)⟩
  · exact ⟨j, by omega, fun k _ hk => h2 k hk, fun _ => h3⟩
section
variable {a b : Nat → Int}
theorem f2_s3 {V : Nat → Value} {ρ : Rho} {i : Nat} {vs : List Value} (h : F2 (CR V ρ) (s3 i) vs) : vs = [V i, V (i + 1), V (i + 2)] := by
  match vs, h with
  | [x, y, z], h =>
    rw [show x = V i from h.1, show y = V (i + 1) from h.2.1, show z = V (i + 2) from h.2.2.1]
theorem f2_z3 {V : Nat → Value} {ρ : Rho} {i : Nat} {vs : List Value} (h : F2 (CR V ρ) (z3 i) vs) : vs = [.int .i64 0, .int .u64 0, V i] := by
  match vs, h with
  | [x, y, z], h =>
    rw [show x = .int .i64 0 from h.1, show y = .int .u64 0 from h.2.1, show z = V i from h.2.2.1]
noncomputable def tv3 (x : Int × Int × Int) : List Value := [.int .i64 x.1, .int .u64 x.2.1, .int .u64 x.2.2]
theorem gL_ok {ρ : Rho} {k : Nat} (hk : k < 5) {vs : List Value} : (F2 (CR (mV a b) ρ) (gL 500 k) vs → vs = tv3 (loX a k)) ∧ (F2 (CR (mV a b) ρ) (gL 520 k) vs → vs = tv3 (loX b k)) ∧ (F2 (CR (mV a b) ρ) (hL 500 k) vs → vs = tv3 (hiX a k)) ∧ (F2 (CR (mV a b) ρ) (hL 520 k) vs → vs = tv3 (hiX b k)) := by
  rcases (by omega : k = 0 ∨ k = 1 ∨ k = 2 ∨ k = 3 ∨ k = 4) with rfl | rfl | rfl | rfl | rfl
  · exact ⟨fun h => (f2_s3 h).trans rfl, fun h => (f2_s3 h).trans rfl, fun h => (f2_s3 h).trans rfl, fun h => (f2_s3 h).trans rfl⟩
  · exact ⟨fun h => (f2_s3 h).trans rfl, fun h => (f2_s3 h).trans rfl, fun h => (f2_s3 h).trans rfl, fun h => (f2_s3 h).trans rfl⟩
  · exact ⟨fun h => (f2_z3 h).trans rfl, fun h => (f2_z3 h).trans rfl, fun h => (f2_z3 h).trans rfl, fun h => (f2_z3 h).trans rfl⟩
  · exact ⟨fun h => (f2_z3 h).trans rfl, fun h => (f2_z3 h).trans rfl, fun h => (f2_z3 h).trans rfl, fun h => (f2_z3 h).trans rfl⟩
  · exact ⟨fun h => (f2_z3 h).trans rfl, fun h => (f2_z3 h).trans rfl, fun h => (f2_z3 h).trans rfl, fun h => (f2_z3 h).trans rfl⟩
theorem zero_lo {k : Nat} (h2 : 2 ≤ k) (d : Nat → Int) : (loX d k).1 = 0 ∧ (loX d k).2.1 = 0 ∧ (hiX d k).1 = 0 ∧ (hiX d k).2.1 = 0 := by
  match k, h2 with
  | 2, _ => exact ⟨rfl, rfl, rfl, rfl⟩
  | 3, _ => exact ⟨rfl, rfl, rfl, rfl⟩
  | k + 4, _ => exact ⟨rfl, rfl, rfl, rfl⟩
theorem zero_T {k : Nat} (h2 : 2 ≤ k) : (loT a b k).1 = 0 ∧ (loT a b k).2.1 = 0 ∧ (hiT a b k).1 = 0 ∧ (hiT a b k).2.1 = 0 := by
  obtain ⟨a1, a2, a3, a4⟩ := zero_lo h2 a
  obtain ⟨b1, b2, b3, b4⟩ := zero_lo h2 b
  unfold loT hiT
  refine ⟨?_, ?_, ?_, ?_⟩ <;> split <;> assumption
theorem rL_ok {ρ : Rho} {k : Nat} (hk : k < 5) : F2 (CR (mV a b) ρ) (rL 600 k) (tv3 (loT a b k)) ∧ F2 (CR (mV a b) ρ) (rL 610 k) (tv3 (hiT a b k)) := by
  rcases (by omega : k = 0 ∨ k = 1 ∨ k = 2 ∨ k = 3 ∨ k = 4) with rfl | rfl | rfl | rfl | rfl
  · exact ⟨⟨rfl, rfl, rfl, trivial⟩, ⟨rfl, rfl, rfl, trivial⟩⟩
  · exact ⟨⟨rfl, rfl, rfl, trivial⟩, ⟨rfl, rfl, rfl, trivial⟩⟩
  · obtain ⟨h1, h2, h3, h4⟩ := zero_T (a := a) (b := b) (k := 2) (by omega)
    exact ⟨⟨by rw [h1]; rfl, by rw [h2]; rfl, rfl, trivial⟩, ⟨by rw [h3]; rfl, by rw [h4]; rfl, rfl, trivial⟩⟩
  · obtain ⟨h1, h2, h3, h4⟩ := zero_T (a := a) (b := b) (k := 3) (by omega)
    exact ⟨⟨by rw [h1]; rfl, by rw [h2]; rfl, rfl, trivial⟩, ⟨by rw [h3]; rfl, by rw [h4]; rfl, rfl, trivial⟩⟩
  · obtain ⟨h1, h2, h3, h4⟩ := zero_T (a := a) (b := b) (k := 4) (by omega)
    exact ⟨⟨by rw [h1]; rfl, by rw [h2]; rfl, rfl, trivial⟩, ⟨by rw [h3]; rfl, by rw [h4]; rfl, rfl, trivial⟩⟩
theorem rL_back {ρ : Rho} {k : Nat} (hk : k < 5) {vs : List Value} : (F2 (CR (mV a b) ρ) (rL 600 k) vs → vs = tv3 (loT a b k)) ∧ (F2 (CR (mV a b) ρ) (rL 610 k) vs → vs = tv3 (hiT a b k)) := by
  rcases (by omega : k = 0 ∨ k = 1 ∨ k = 2 ∨ k = 3 ∨ k = 4) with rfl | rfl | rfl | rfl | rfl
  · exact ⟨fun h => (f2_s3 h).trans rfl, fun h => (f2_s3 h).trans rfl⟩
  · exact ⟨fun h => (f2_s3 h).trans rfl, fun h => (f2_s3 h).trans rfl⟩
  · obtain ⟨h1, h2, h3, h4⟩ := zero_T (a := a) (b := b) (k := 2) (by omega)
    exact ⟨fun h => (f2_z3 h).trans (by unfold tv3; rw [h1, h2]; rfl), fun h => (f2_z3 h).trans (by unfold tv3; rw [h3, h4]; rfl)⟩
  · obtain ⟨h1, h2, h3, h4⟩ := zero_T (a := a) (b := b) (k := 3) (by omega)
    exact ⟨fun h => (f2_z3 h).trans (by unfold tv3; rw [h1, h2]; rfl), fun h => (f2_z3 h).trans (by unfold tv3; rw [h3, h4]; rfl)⟩
  · obtain ⟨h1, h2, h3, h4⟩ := zero_T (a := a) (b := b) (k := 4) (by omega)
    exact ⟨fun h => (f2_z3 h).trans (by unfold tv3; rw [h1, h2]; rfl), fun h => (f2_z3 h).trans (by unfold tv3; rw [h3, h4]; rfl)⟩
theorem adr_of {cs : Array Value} {x : Int × Int × Int} (h : cs.toList = tv3 x) : Value.agg cs = adr x.1 x.2.1 x.2.2 := by
  have : cs = #[.int .i64 x.1, .int .u64 x.2.1, .int .u64 x.2.2] := Array.ext' (by rw [h]; rfl)
  rw [this]
  rfl
theorem extM_ok {j : Nat} (hj : ∀ k, k < 5 → k < j → ltX (hiT a b k) (loT a b k) = false) (hj2 : j < 5 → ltX (hiT a b j) (loT a b j) = true) : CallOK Tryz.prog (mV a b) (extM j) := by
  intro f args s v s' h ρ w vals hargs hr hf
  unfold extM at h
  split at h
  · rename_i x y
    match hl : vals.toList, hargs with
    | [u, u'], hargs =>
      obtain ⟨cs, rfl, hcs⟩ := hargs.1
      obtain ⟨ds, rfl, hds⟩ := hargs.2.1
      have hvals : vals = #[.agg cs, .agg ds] := Array.ext' (by rw [hl])
      subst hvals
      cases h1 : Nat.beq f 253
      · simp only [h1, cond_false] at h
        cases h2 : Nat.beq f 255
        · simp only [h2, cond_false] at h
          cases h3 : Nat.beq f 161
          · simp [h3] at h
          · simp only [h3, cond_true] at h
            have h3 := Nat.eq_of_beq_eq_true h3
            subst h3
            split at h
            · rename_i k hk
              obtain ⟨k5, rfl, rfl⟩ := whichK_ok hk
              cases hkj : Nat.ble k j
              · simp [hkj] at h
              · simp only [hkj, cond_true, Option.some.injEq, Prod.mk.injEq] at h
                obtain ⟨rfl, rfl⟩ := h
                have hkj := Nat.le_of_ble_eq_true hkj
                rw [adr_of ((rL_back k5).2 hcs), adr_of ((rL_back k5).1 hds)]
                refine (less_any _ _ _ _ _ _ w).mono ?_
                rintro e w' ⟨rfl, hb⟩
                refine ⟨_, ρ, rfl, goes_keep hr hb, ?_⟩
                show Value.bool (ltX (hiT a b k) (loT a b k)) = _
                by_cases e : k = j
                · subst e
                  rw [hj2 k5, Nat.beq_refl]
                · rw [hj k k5 (by omega), beq_no e]
            · cases h
        · simp only [h2, cond_true] at h
          have h2 := Nat.eq_of_beq_eq_true h2
          subst h2
          split at h
          · rename_i k hk
            obtain ⟨k5, rfl, rfl⟩ := whichK_ok hk
            simp only [Option.some.injEq, Prod.mk.injEq] at h
            obtain ⟨rfl, rfl⟩ := h
            rw [adr_of ((gL_ok k5).2.2.1 hcs), adr_of ((gL_ok k5).2.2.2 hds)]
            refine (smaller_any _ _ _ _ _ _ w).mono ?_
            rintro e w' ⟨rfl, hb⟩
            refine ⟨_, ρ, rfl, goes_keep hr hb, (tv3 (hiT a b k)).toArray, ?_, ?_⟩
            · unfold hiT ltX
              split <;> rfl
            · exact (rL_ok k5).2
          · cases h
      · simp only [h1, cond_true] at h
        have h1 := Nat.eq_of_beq_eq_true h1
        subst h1
        split at h
        · rename_i k hk
          obtain ⟨k5, rfl, rfl⟩ := whichK_ok hk
          simp only [Option.some.injEq, Prod.mk.injEq] at h
          obtain ⟨rfl, rfl⟩ := h
          rw [adr_of ((gL_ok k5).1 hcs), adr_of ((gL_ok k5).2.1 hds)]
          refine (greater_any _ _ _ _ _ _ w).mono ?_
          rintro e w' ⟨rfl, hb⟩
          refine ⟨_, ρ, rfl, goes_keep hr hb, (tv3 (loT a b k)).toArray, ?_, ?_⟩
          · unfold loT ltX
            split <;> rfl
          · exact (rL_ok k5).1
        · cases h
  · cases h
theorem numV {i : Nat} (h : isNum i = true) : ∃ n, mV a b i = .int .i64 n ∧ mV a b (i + 200) = .int .i64 (IntKind.i64.wrap (n + 1)) := by
  unfold isNum at h
  simp only [Bool.or_eq_true, Bool.and_eq_true] at h
  have hi : i = 512 ∨ i = 513 ∨ i = 514 ∨ i = 515 ∨ i = 516 ∨ i = 517 ∨ i = 532 ∨ i = 533 ∨ i = 534 ∨ i = 535 ∨ i = 536 ∨ i = 537 := by
    rcases h with ⟨h1, h2⟩ | ⟨h1, h2⟩
    · have h1 := Nat.le_of_ble_eq_true h1
      have h2 : i + 1 ≤ 518 := Nat.le_of_ble_eq_true h2
      omega
    · have h1 := Nat.le_of_ble_eq_true h1
      have h2 : i + 1 ≤ 538 := Nat.le_of_ble_eq_true h2
      omega
  rcases hi with rfl | rfl | rfl | rfl | rfl | rfl | rfl | rfl | rfl | rfl | rfl | rfl <;> exact ⟨_, rfl, rfl⟩
theorem num1V {i : Nat} (h : isNum1 i = true) : ∃ n, mV a b i = .int .i64 n ∧ mV a b (i + 100) = .int .u64 (IntKind.u64.wrap n) := by
  unfold isNum1 at h
  simp only [Bool.or_eq_true, Bool.and_eq_true] at h
  have hi : i = 712 ∨ i = 713 ∨ i = 714 ∨ i = 715 ∨ i = 716 ∨ i = 717 ∨ i = 732 ∨ i = 733 ∨ i = 734 ∨ i = 735 ∨ i = 736 ∨ i = 737 := by
    rcases h with ⟨h1, h2⟩ | ⟨h1, h2⟩
    · have h1 := Nat.le_of_ble_eq_true h1
      have h2 : i + 1 ≤ 718 := Nat.le_of_ble_eq_true h2
      omega
    · have h1 := Nat.le_of_ble_eq_true h1
      have h2 : i + 1 ≤ 738 := Nat.le_of_ble_eq_true h2
      omega
  rcases hi with rfl | rfl | rfl | rfl | rfl | rfl | rfl | rfl | rfl | rfl | rfl | rfl <;> exact ⟨_, rfl, rfl⟩
theorem loHiV {i : Nat} (h : isLoHi i = true) : ∃ n, mV a b i = .int .u64 n ∧ mV a b (i + 4) = .int .i64 (IntKind.i64.wrap n) := by
  unfold isLoHi at h
  simp only [Bool.and_eq_true, Bool.or_eq_true] at h
  obtain ⟨h1, h2, h3⟩ := h
  have h1 := Nat.le_of_ble_eq_true h1
  have h2 : i + 1 ≤ 700 := Nat.le_of_ble_eq_true h2
  have hi : i = 602 ∨ i = 622 ∨ i = 642 ∨ i = 662 ∨ i = 682 ∨ i = 612 ∨ i = 632 ∨ i = 652 ∨ i = 672 ∨ i = 692 := by
    rcases h3 with h3 | h3 <;> have h3 := Nat.eq_of_beq_eq_true h3 <;> omega
  rcases hi with rfl | rfl | rfl | rfl | rfl | rfl | rfl | rfl | rfl | rfl <;> exact ⟨_, rfl, rfl⟩
theorem bkV {i : Nat} (h : isBk i = true) : ∃ n, mV a b i = .int .i64 n ∧ mV a b (i + 1) = .int .i64 (IntKind.i64.wrap (n - 1)) := by
  unfold isBk at h
  simp only [Bool.and_eq_true, Bool.or_eq_true] at h
  obtain ⟨h1, h2, h3⟩ := h
  have h1 := Nat.le_of_ble_eq_true h1
  have h2 : i + 1 ≤ 700 := Nat.le_of_ble_eq_true h2
  have hi : i = 606 ∨ i = 626 ∨ i = 646 ∨ i = 666 ∨ i = 686 ∨ i = 616 ∨ i = 636 ∨ i = 656 ∨ i = 676 ∨ i = 696 := by
    rcases h3 with h3 | h3 <;> have h3 := Nat.eq_of_beq_eq_true h3 <;> omega
  rcases hi with rfl | rfl | rfl | rfl | rfl | rfl | rfl | rfl | rfl | rfl <;> exact ⟨_, rfl, rfl⟩
theorem tabM_ok {op : BinOp} {x y z : AC} (h : tabM (decide (a 0 = b 0)) op x y = some z) (ρ : Rho) (u v : Value) (hu : CR (mV a b) ρ x u) (hv : CR (mV a b) ρ y v) : ∃ k n k' n' c, u = .int k n ∧ v = .int k' n' ∧ CR (mV a b) ρ z c ∧ ∀ xt, binOp op xt u v = .pure c := by
  unfold tabM at h
  split at h
  · rename_i i
    cases hi : isNum i
    · simp [hi] at h
    · simp only [hi, cond_true, Option.some.injEq] at h
      subst h
      obtain ⟨n, e1, e2⟩ := numV (a := a) (b := b) hi
      have hu : u = mV a b i := hu
      have hv : v = .int .i64 1 := hv
      rw [e1] at hu
      exact ⟨_, _, _, _, _, hu, hv, rfl, fun xt => by rw [hu, hv, e2]; rfl⟩
  · rename_i i
    cases hi : isBk i
    · simp [hi] at h
    · simp only [hi, cond_true, Option.some.injEq] at h
      subst h
      obtain ⟨n, e1, e2⟩ := bkV (a := a) (b := b) hi
      have hu : u = mV a b i := hu
      have hv : v = .int .i64 1 := hv
      rw [e1] at hu
      exact ⟨_, _, _, _, _, hu, hv, rfl, fun xt => by rw [hu, hv, e2]; rfl⟩
  · rename_i i j
    cases hi : (Nat.beq i 500 && Nat.beq j 520)
    · simp [hi] at h
    · simp only [hi, cond_true, Option.some.injEq] at h
      subst h
      simp only [Bool.and_eq_true] at hi
      have e1 := Nat.eq_of_beq_eq_true hi.1
      have e2 := Nat.eq_of_beq_eq_true hi.2
      subst e1
      subst e2
      have hu : u = .int .i64 (a 0) := hu
      have hv : v = .int .i64 (b 0) := hv
      refine ⟨_, _, _, _, _, hu, hv, rfl, fun xt => ?_⟩
      rw [hu, hv]
      refine cmpB_ok ?_ .i64 xt
      simp only [cmpB, Option.some.injEq]
      rw [Bool.eq_iff_iff]
      simp
  · cases h
theorem envM_ok {j : Nat} (hj : ∀ k, k < 5 → k < j → ltX (hiT a b k) (loT a b k) = false) (hj2 : j < 5 → ltX (hiT a b j) (loT a b j) = true) : EnvOK Tryz.prog (mV a b) (envM (decide (a 0 = b 0)) j) ∧ ExtOK Tryz.prog (mV a b) (envM (decide (a 0 = b 0)) j) := by
  refine ⟨env_ok (fun op x y z h ρ u v hu hv => tabM_ok h ρ u v hu hv) (fun k i z h ρ => ?_) (mV_one a b), onlyE_ok (extM_ok hj hj2) rfl rfl⟩
  unfold cvtM at h
  split at h
  · rename_i i' e
    injection e with e
    subst e
    cases hi : isNum1 i
    · simp [hi] at h
    · simp only [hi, cond_true, Option.some.injEq] at h
      subst h
      obtain ⟨n, e1, e2⟩ := num1V (a := a) (b := b) hi
      exact ⟨_, n, e1, e2.symm⟩
  · rename_i i' e
    injection e with e
    subst e
    cases hi : isLoHi i
    · simp [hi] at h
    · simp only [hi, cond_true, Option.some.injEq] at h
      subst h
      obtain ⟨n, e1, e2⟩ := loHiV (a := a) (b := b) hi
      exact ⟨_, n, e1, e2.symm⟩
  · cases h
theorem f2_boxL {V : Nat → Value} {ρ : Rho} {n : Nat} {d : Nat → Int} (h : ∀ i, i < 18 → V (n + i) = .int (tagK i) (d i)) : F2 (CR V ρ) (boxL n) (bx d) := by
  unfold boxL bx
  have : ∀ i ∈ List.range 18, i < 18 := fun i hi => List.mem_range.1 hi
  generalize List.range 18 = l at this
  induction l with
  | nil => trivial
  | cons x r ih => exact ⟨(h x (this x (by simp))).symm, ih (fun i hi => this i (by simp [hi]))⟩
/-- The box that two boxes have in common, or none. -/
noncomputable def meetV (a b : Nat → Int) : Nat → Int := fun i => if meetOk a b = true then meetD a b i else 0
set_option maxHeartbeats 1000000 in
theorem meet_any (a b : Nat → Int) (w : World) : Calls Tryz.prog 240 #[.agg (bx a).toArray, .agg (bx b).toArray] w fun e w' => e = .returned (.tuple #[.agg (bx (meetV a b)).toArray, .bool (meetOk a b)]) ∧ RowKit.Below w.heap.size w w' := by
  have hv : F2 (VR (mV a b) ρ0) [.one (.agg (boxL 500)), .one (.agg (boxL 520))] (#[.agg (bx a).toArray, .agg (bx b).toArray] : Array Value).toList := by
    refine ⟨⟨_, rfl, f2_boxL (fun i hi => ?_)⟩, ⟨_, rfl, f2_boxL (fun i hi => ?_)⟩, trivial⟩
    · unfold mV
      rw [if_pos (by omega), show 500 + i - 500 = i by omega]
    · unfold mV
      rw [if_neg (by omega), if_pos (by omega), show 520 + i - 520 = i by omega]
  have zl : ∀ (ρ : Rho) (cs : Array Value), F2 (CR (mV a b) ρ) zL cs.toList → cs = (bx (fun _ => 0)).toArray := by
    intro ρ cs h
    apply Array.ext'
    show cs.toList = bx (fun _ => 0)
    unfold zL at h
    unfold bx
    generalize List.range 18 = l at h
    generalize cs.toList = m at h
    induction l generalizing m with
    | nil => match m, h with | [], _ => rfl
    | cons x r ih => match m, h with | y :: s, h => rw [List.map_cons, ← ih s h.2, show y = Value.int (tagK x) 0 from h.1]
  have ml : ∀ (ρ : Rho) (cs : Array Value), F2 (CR (mV a b) ρ) mL cs.toList → cs = (bx (meetD a b)).toArray := by
    intro ρ cs h
    apply Array.ext'
    show cs.toList = bx (meetD a b)
    match hc : cs.toList, h with
    | [x0, x1, x2, x3, x4, x5, x6, x7, x8, x9, x10, x11, x12, x13, x14, x15, x16, x17], h =>
      obtain ⟨h0, h1, h2, h3, h4, h5, h6, h7, h8, h9, h10, h11, h12, h13, h14, h15, h16, h17, _⟩ := h
      rw [show x0 = _ from h0, show x1 = _ from h1, show x2 = _ from h2, show x3 = _ from h3, show x4 = _ from h4, show x5 = _ from h5, show x6 = _ from h6, show x7 = _ from h7, show x8 = _ from h8, show x9 = _ from h9, show x10 = _ from h10, show x11 = _ from h11, show x12 = _ from h12, show x13 = _ from h13, show x14 = _ from h14, show x15 = _ from h15, show x16 = _ from h16, show x17 = _ from h17]
      rfl
  obtain ⟨j, hj6, hj, hj2⟩ := first_j (fun k => ltX (hiT a b k) (loT a b k))
  have hok : meetOk a b = resM (decide (a 0 = b 0)) j := by
    unfold meetOk resM
    congr 1
    by_cases e : j = 5
    · rw [e, Nat.beq_refl]
      refine List.all_eq_true.2 (fun k hk => ?_)
      have hk := List.mem_range.1 hk
      have := hj k hk (by omega)
      simp only [this, Bool.not_false]
    · rw [beq_no e, Bool.eq_false_iff]
      intro h
      have := List.all_eq_true.1 h j (List.mem_range.2 (by omega))
      have h2 := hj2 (by omega)
      simp only [h2, Bool.not_true] at this
      cases this
  have hrun : meetR (decide (a 0 = b 0)) j (bif resM (decide (a 0 = b 0)) j then mL else zL) (resM (decide (a 0 = b 0)) j) = true := by
    have := List.all_eq_true.1 meetR_all j (List.mem_range.2 hj6)
    simp only [Bool.and_eq_true] at this
    cases decide (a 0 = b 0)
    · exact this.1
    · exact this.2
  have hcell : ∀ (ρ : Rho) (cs : Array Value), F2 (CR (mV a b) ρ) (bif resM (decide (a 0 = b 0)) j then mL else zL) cs.toList → cs = (bx (meetV a b)).toArray := by
    intro ρ cs h
    cases hr : resM (decide (a 0 = b 0)) j
    · rw [hr] at h hok
      rw [zl ρ cs h]
      have : meetV a b = fun _ => 0 := by
        funext i
        unfold meetV
        rw [hok]
        rfl
      rw [this]
    · rw [hr] at h hok
      rw [ml ρ cs h]
      have : meetV a b = meetD a b := by
        funext i
        unfold meetV
        rw [if_pos hok]
      rw [this]
  rw [← hok] at hrun
  obtain ⟨e1, e2⟩ := envM_ok hj hj2
  unfold meetR at hrun
  split at hrun
  · rename_i m b' s hr
    simp only [Bool.and_eq_true, beq_iff_eq] at hrun
    have em := eqCL_eq hrun.1
    refine (fnA_ok e1 e2 60 _ _ st0 _ s hr ρ0 w _ hv (rep0 w) ⟨fun _ _ _ => rfl, fun _ _ _ => rfl⟩).mono ?_
    rintro e w' ⟨c, ρ', rfl, hg, hc⟩
    obtain ⟨vs, rfl, hvs⟩ := hc
    refine ⟨?_, goes_below hg⟩
    match hl' : vs.toList, hvs with
    | [u, v], hvs =>
      obtain ⟨⟨cs, rfl, hcs⟩, hv2, _⟩ := hvs
      rw [em, hok] at hcs
      have hv2 : v = .bool b' := hv2
      have : vs = #[.agg (bx (meetV a b)).toArray, .bool (meetOk a b)] := Array.ext' (by rw [hl', hcell ρ' cs hcs, hv2, hrun.2])
      rw [this]
  · cases hrun
end
end Ab
end Go.Proofs.YtbfppnppijcnlaaGreat
namespace Go.Proofs.YtbfppnppijcnlaaGreat
namespace Ab
open Go.RowKit
set_option linter.unusedVariables false
set_option linter.unusedSimpArgs false
noncomputable def sw (i : Nat) : Nat := match i with
  | 0 => 6 | 1 => 7 | 2 => 8 | 3 => 9 | 4 => 10 | 5 => 11 | 6 => 0 | 7 => 1 | 8 => 2 | 9 => 3 | 10 => 4 | 11 => 5 | 12 => 12 | 13 => 13 | 14 => 16 | 15 => 17 | 16 => 14 | 17 => 15 | n => n
/-- The box as the other end sees it. -/
noncomputable def swapD (d : Nat → Int) (i : Nat) : Int := d (sw i)
theorem swap_ok {d : Nat → Int} (h : BoxP d) : BoxP (swapD d) := by
  obtain ⟨h0, h3, h6, h9, e3, e6, e9, l1, l2, p1, p2, p3, q1, q2, q3, r1, r2, r3⟩ := h
  exact ⟨h6, h9, h0, h3, show d 9 = d 6 by omega, show d 0 = d 6 by omega, show d 3 = d 6 by omega, l2, l1, p1, p2, p3, r1, r2, r3, q1, q2, q3⟩
theorem wrap_i {n : Int} (h1 : -9223372036854775808 ≤ n) (h2 : n ≤ 9223372036854775807) : IntKind.i64.wrap n = n := by
  rw [IntKind.wrap_i64]
  omega
theorem u1_ok {d : Nat → Int} {c : Nat} (h1 : -1 ≤ d c) (h2 : d c ≤ 65535) : u1 d c = d c + 1 := by
  unfold u1 n1
  rw [wrap_i (by omega) (by omega), IntKind.wrap_u64]
  omega
theorem bk_ok {x : Int × Int × Int} (h1 : 0 ≤ x.2.2) (h2 : x.2.2 ≤ 65536) : bk x = x.2.2 - 1 := by
  unfold bk
  rw [wrap_i (n := x.2.2) (by omega) (by omega), wrap_i (by omega) (by omega)]
theorem bk_num {x : Int} (h1 : -1 ≤ x) (h2 : x ≤ 65535) : bk (0, 0, x + 1) = x := by
  rw [bk_ok (by show 0 ≤ x + 1; omega) (by show x + 1 ≤ 65536; omega)]
  show x + 1 - 1 = x
  omega
theorem ltX_num {x y : Int} : ltX (0, 0, x) (0, 0, y) = decide (x < y) := by simp [ltX, ltA]
theorem ltX_irrefl (x : Int × Int × Int) : ltX x x = false := ltA_irrefl _ _ _
theorem ltX_asymm {x y : Int × Int × Int} (h : ltX x y = true) : ltX y x = false := ltA_asymm h
section
variable {a b : Nat → Int}
theorem lo_ge (k : Nat) : ltX (loT a b k) (loX a k) = false := by
  unfold loT
  split
  · rename_i h
    exact ltX_asymm h
  · exact ltX_irrefl _
theorem hi_le (k : Nat) : ltX (hiX a k) (hiT a b k) = false := by
  unfold hiT
  split
  · rename_i h
    exact ltX_asymm h
  · exact ltX_irrefl _
/-- Numbers that are a range. -/
noncomputable def Rg (d : Nat → Int) (c : Nat) : Prop := -1 ≤ d c ∧ d c ≤ 65535 ∧ -1 ≤ d (c + 1) ∧ d (c + 1) ≤ 65535
theorem box_rg (h : BoxP a) : Rg a 12 ∧ Rg a 14 ∧ Rg a 16 := by
  obtain ⟨h0, h3, h6, h9, e3, e6, e9, l1, l2, p1, p2, p3, q1, q2, q3, r1, r2, r3⟩ := h
  exact ⟨⟨by omega, by omega, by show -1 ≤ a 13; omega, by show a 13 ≤ 65535; omega⟩, ⟨by omega, by omega, by show -1 ≤ a 15; omega, by show a 15 ≤ 65535; omega⟩, ⟨by omega, by omega, by show -1 ≤ a 17; omega, by show a 17 ≤ 65535; omega⟩⟩
/-- The number range k. -/
noncomputable def cOf (k : Nat) : Nat := match k with | 2 => 12 | 3 => 14 | _ => 16
theorem num_T {k : Nat} (hk : k = 2 ∨ k = 3 ∨ k = 4) (ha : Rg a (cOf k)) (hb : Rg b (cOf k)) :
    loT a b k = (0, 0, (if a (cOf k) < b (cOf k) then b (cOf k) else a (cOf k)) + 1) ∧ hiT a b k = (0, 0, (if b (cOf k + 1) < a (cOf k + 1) then b (cOf k + 1) else a (cOf k + 1)) + 1) := by
  obtain ⟨a1, a2, a3, a4⟩ := ha
  obtain ⟨b1, b2, b3, b4⟩ := hb
  have x1 : loX a k = (0, 0, a (cOf k) + 1) := by
    rw [← u1_ok a1 a2]
    rcases hk with rfl | rfl | rfl <;> rfl
  have x2 : loX b k = (0, 0, b (cOf k) + 1) := by
    rw [← u1_ok b1 b2]
    rcases hk with rfl | rfl | rfl <;> rfl
  have x3 : hiX a k = (0, 0, a (cOf k + 1) + 1) := by
    rw [← u1_ok a3 a4]
    rcases hk with rfl | rfl | rfl <;> rfl
  have x4 : hiX b k = (0, 0, b (cOf k + 1) + 1) := by
    rw [← u1_ok b3 b4]
    rcases hk with rfl | rfl | rfl <;> rfl
  unfold loT hiT
  rw [x1, x2, x3, x4, ltX_num, ltX_num]
  constructor
  · by_cases h : a (cOf k) < b (cOf k)
    · rw [if_pos (decide_eq_true (by omega)), if_pos h]
    · rw [if_neg (by rw [decide_eq_false (by omega)]; simp), if_neg h]
  · by_cases h : b (cOf k + 1) < a (cOf k + 1)
    · rw [if_pos (decide_eq_true (by omega)), if_pos h]
    · rw [if_neg (by rw [decide_eq_false (by omega)]; simp), if_neg h]
/-- The numbers of the box in common. -/
theorem num_D (ha : BoxP a) (hb : BoxP b) : meetD a b 12 = (if a 12 < b 12 then b 12 else a 12) ∧ meetD a b 13 = (if b 13 < a 13 then b 13 else a 13) ∧ meetD a b 14 = (if a 14 < b 14 then b 14 else a 14) ∧ meetD a b 15 = (if b 15 < a 15 then b 15 else a 15) ∧ meetD a b 16 = (if a 16 < b 16 then b 16 else a 16) ∧ meetD a b 17 = (if b 17 < a 17 then b 17 else a 17) := by
  obtain ⟨a2, a3, a4⟩ := box_rg ha
  obtain ⟨b2, b3, b4⟩ := box_rg hb
  have key : ∀ {k : Nat}, (k = 2 ∨ k = 3 ∨ k = 4) → Rg a (cOf k) → Rg b (cOf k) → bk (loT a b k) = (if a (cOf k) < b (cOf k) then b (cOf k) else a (cOf k)) ∧ bk (hiT a b k) = (if b (cOf k + 1) < a (cOf k + 1) then b (cOf k + 1) else a (cOf k + 1)) := by
    intro k hk ra rb
    obtain ⟨t1, t2⟩ := num_T hk ra rb
    obtain ⟨a1, a2, a3, a4⟩ := ra
    obtain ⟨b1, b2, b3, b4⟩ := rb
    rw [t1, t2]
    exact ⟨bk_num (by split <;> omega) (by split <;> omega), bk_num (by split <;> omega) (by split <;> omega)⟩
  obtain ⟨k1, k2⟩ := key (k := 2) (.inl rfl) a2 b2
  obtain ⟨k3, k4⟩ := key (k := 3) (.inr (.inl rfl)) a3 b3
  obtain ⟨k5, k6⟩ := key (k := 4) (.inr (.inr rfl)) a4 b4
  exact ⟨k1, k2, k3, k4, k5, k6⟩
theorem meetOk_at (h : meetOk a b = true) : a 0 = b 0 ∧ ∀ k, k < 5 → ltX (hiT a b k) (loT a b k) = false := by
  unfold meetOk at h
  simp only [Bool.and_eq_true, decide_eq_true_eq] at h
  refine ⟨h.1, fun k hk => ?_⟩
  have := List.all_eq_true.1 h.2 k (List.mem_range.2 hk)
  simpa using this
theorem T_cases (k : Nat) : (loT a b k = loX a k ∨ loT a b k = loX b k) ∧ (hiT a b k = hiX a k ∨ hiT a b k = hiX b k) := by
  unfold loT hiT
  constructor
  · split
    · exact .inr rfl
    · exact .inl rfl
  · split
    · exact .inr rfl
    · exact .inl rfl
theorem ltX_lex {x y : Int × Int × Int} (hf : x.1 = y.1) (h : ltX x y = false) : y.2.1 < x.2.1 ∨ (y.2.1 = x.2.1 ∧ y.2.2 ≤ x.2.2) := by
  unfold ltX ltA at h
  rw [if_pos hf] at h
  by_cases e : x.2.1 = y.2.1
  · rw [if_pos e] at h
    have := of_decide_eq_false h
    exact .inr ⟨e.symm, by omega⟩
  · rw [if_neg e] at h
    have := of_decide_eq_false h
    exact .inl (by omega)
/-- The box in common is right. -/
theorem meet_ok (ha : BoxP a) (hb : BoxP b) (h : meetOk a b = true) : BoxP (meetD a b) := by
  obtain ⟨hf, hk⟩ := meetOk_at h
  obtain ⟨n12, n13, n14, n15, n16, n17⟩ := num_D ha hb
  obtain ⟨a2, a3, a4⟩ := box_rg ha
  obtain ⟨b2, b3, b4⟩ := box_rg hb
  have k2 := hk 2 (by omega)
  have k3 := hk 3 (by omega)
  have k4 := hk 4 (by omega)
  obtain ⟨t1, t2⟩ := num_T (k := 2) (.inl rfl) a2 b2
  obtain ⟨t3, t4⟩ := num_T (k := 3) (.inr (.inl rfl)) a3 b3
  obtain ⟨t5, t6⟩ := num_T (k := 4) (.inr (.inr rfl)) a4 b4
  rw [t1, t2, ltX_num] at k2
  rw [t3, t4, ltX_num] at k3
  rw [t5, t6, ltX_num] at k4
  have k2 : ¬ ((if b 13 < a 13 then b 13 else a 13) + 1 < (if a 12 < b 12 then b 12 else a 12) + 1) := of_decide_eq_false k2
  have k3 : ¬ ((if b 15 < a 15 then b 15 else a 15) + 1 < (if a 14 < b 14 then b 14 else a 14) + 1) := of_decide_eq_false k3
  have k4 : ¬ ((if b 17 < a 17 then b 17 else a 17) + 1 < (if a 16 < b 16 then b 16 else a 16) + 1) := of_decide_eq_false k4
  obtain ⟨A0, A3, A6, A9, ae3, ae6, ae9, al1, al2, ap1, ap2, ap3, aq1, aq2, aq3, ar1, ar2, ar3⟩ := ha
  obtain ⟨B0, B3, B6, B9, be3, be6, be9, bl1, bl2, bp1, bp2, bp3, bq1, bq2, bq3, br1, br2, br3⟩ := hb
  obtain ⟨c1, c2⟩ := T_cases (a := a) (b := b) 0
  obtain ⟨c3, c4⟩ := T_cases (a := a) (b := b) 1
  have f0 : (loT a b 0).1 = a 0 := by
    rcases c1 with e | e <;> rw [e]
    · rfl
    · exact hf.symm
  have f3 : (hiT a b 0).1 = a 0 := by
    rcases c2 with e | e <;> rw [e]
    · exact ae3
    · show b 3 = a 0
      omega
  have f6 : (loT a b 1).1 = a 0 := by
    rcases c3 with e | e <;> rw [e]
    · exact ae6
    · show b 6 = a 0
      omega
  have f9 : (hiT a b 1).1 = a 0 := by
    rcases c4 with e | e <;> rw [e]
    · exact ae9
    · show b 9 = a 0
      omega
  have l0 := ltX_lex (f3.trans f0.symm) (hk 0 (by omega))
  have l1 := ltX_lex (f9.trans f6.symm) (hk 1 (by omega))
  refine ⟨?_, ?_, ?_, ?_, f3.trans f0.symm, f6.trans f0.symm, f9.trans f0.symm, l0, l1, ?_, ?_, ?_, ?_, ?_, ?_, ?_, ?_, ?_⟩
  · show AdrP (loT a b 0).1 (loT a b 0).2.1 (loT a b 0).2.2
    rcases c1 with e | e <;> rw [e]
    · exact A0
    · exact B0
  · show AdrP (hiT a b 0).1 (hiT a b 0).2.1 (hiT a b 0).2.2
    rcases c2 with e | e <;> rw [e]
    · exact A3
    · exact B3
  · show AdrP (loT a b 1).1 (loT a b 1).2.1 (loT a b 1).2.2
    rcases c3 with e | e <;> rw [e]
    · exact A6
    · exact B6
  · show AdrP (hiT a b 1).1 (hiT a b 1).2.1 (hiT a b 1).2.2
    rcases c4 with e | e <;> rw [e]
    · exact A9
    · exact B9
  · rw [n12]; split <;> omega
  · rw [n13]; split <;> omega
  · rw [n12, n13]; omega
  · rw [n14]; split <;> omega
  · rw [n15]; split <;> omega
  · rw [n14, n15]; omega
  · rw [n16]; split <;> omega
  · rw [n17]; split <;> omega
  · rw [n16, n17]; omega
/-- The ranges as the other end sees them. -/
noncomputable def pi5 (k : Nat) : Nat := match k with | 0 => 1 | 1 => 0 | 3 => 4 | 4 => 3 | n => n
theorem x_swap {k : Nat} (hk : k < 5) : loX (swapD a) k = loX a (pi5 k) ∧ hiX (swapD a) k = hiX a (pi5 k) := by
  rcases (by omega : k = 0 ∨ k = 1 ∨ k = 2 ∨ k = 3 ∨ k = 4) with rfl | rfl | rfl | rfl | rfl <;> exact ⟨rfl, rfl⟩
theorem x_meet (ha : BoxP a) (hb : BoxP b) (h : meetOk a b = true) {k : Nat} (hk : k < 5) : loX (meetD a b) k = loT a b k ∧ hiX (meetD a b) k = hiT a b k := by
  have hm := meet_ok ha hb h
  obtain ⟨m2, m3, m4⟩ := box_rg hm
  obtain ⟨n12, n13, n14, n15, n16, n17⟩ := num_D ha hb
  obtain ⟨a2, a3, a4⟩ := box_rg ha
  obtain ⟨b2, b3, b4⟩ := box_rg hb
  rcases (by omega : k = 0 ∨ k = 1 ∨ k = 2 ∨ k = 3 ∨ k = 4) with rfl | rfl | rfl | rfl | rfl
  · exact ⟨rfl, rfl⟩
  · exact ⟨rfl, rfl⟩
  · obtain ⟨t1, t2⟩ := num_T (k := 2) (.inl rfl) a2 b2
    rw [t1, t2]
    refine ⟨?_, ?_⟩
    · show (0, 0, u1 (meetD a b) 12) = _
      rw [u1_ok m2.1 m2.2.1, n12]
      rfl
    · show (0, 0, u1 (meetD a b) 13) = _
      rw [u1_ok m2.2.2.1 m2.2.2.2, n13]
      rfl
  · obtain ⟨t1, t2⟩ := num_T (k := 3) (.inr (.inl rfl)) a3 b3
    rw [t1, t2]
    refine ⟨?_, ?_⟩
    · show (0, 0, u1 (meetD a b) 14) = _
      rw [u1_ok m3.1 m3.2.1, n14]
      rfl
    · show (0, 0, u1 (meetD a b) 15) = _
      rw [u1_ok m3.2.2.1 m3.2.2.2, n15]
      rfl
  · obtain ⟨t1, t2⟩ := num_T (k := 4) (.inr (.inr rfl)) a4 b4
    rw [t1, t2]
    refine ⟨?_, ?_⟩
    · show (0, 0, u1 (meetD a b) 16) = _
      rw [u1_ok m4.1 m4.2.1, n16]
      rfl
    · show (0, 0, u1 (meetD a b) 17) = _
      rw [u1_ok m4.2.2.1 m4.2.2.2, n17]
      rfl
/-- What a box has in common lies in it, as the other end sees both. -/
theorem meet_in (ha : BoxP a) (hb : BoxP b) (h : meetOk a b = true) : meetOk (swapD (meetD a b)) (swapD a) = true ∧ ∀ i, i < 18 → meetD (swapD (meetD a b)) (swapD a) i = swapD (meetD a b) i := by
  have hp5 : ∀ {k}, k < 5 → pi5 k < 5 := fun {k} hk => by
    rcases (by omega : k = 0 ∨ k = 1 ∨ k = 2 ∨ k = 3 ∨ k = 4) with rfl | rfl | rfl | rfl | rfl <;> decide
  have lo : ∀ k, k < 5 → loT (swapD (meetD a b)) (swapD a) k = loT a b (pi5 k) := by
    intro k hk
    unfold loT
    rw [(x_swap (a := meetD a b) hk).1, (x_swap (a := a) hk).1, (x_meet ha hb h (hp5 hk)).1, lo_ge]
    rfl
  have hi : ∀ k, k < 5 → hiT (swapD (meetD a b)) (swapD a) k = hiT a b (pi5 k) := by
    intro k hk
    unfold hiT
    rw [(x_swap (a := meetD a b) hk).2, (x_swap (a := a) hk).2, (x_meet ha hb h (hp5 hk)).2, hi_le]
    rfl
  obtain ⟨hf, hk⟩ := meetOk_at h
  have hm := meet_ok ha hb h
  constructor
  · unfold meetOk
    simp only [Bool.and_eq_true, decide_eq_true_eq]
    refine ⟨?_, List.all_eq_true.2 (fun k hk' => ?_)⟩
    · show meetD a b 6 = a 6
      have e1 : meetD a b 6 = meetD a b 0 := hm.2.2.2.2.2.1
      have e2 : a 6 = a 0 := ha.2.2.2.2.2.1
      have e3 : meetD a b 0 = a 0 := by
        show (loT a b 0).1 = a 0
        rcases (T_cases (a := a) (b := b) 0).1 with e | e <;> rw [e]
        · rfl
        · exact hf.symm
      omega
    · have hk' := List.mem_range.1 hk'
      rw [lo k hk', hi k hk', hk _ (hp5 hk')]
      rfl
  · intro i hi'
    rcases (by omega : i = 0 ∨ i = 1 ∨ i = 2 ∨ i = 3 ∨ i = 4 ∨ i = 5 ∨ i = 6 ∨ i = 7 ∨ i = 8 ∨ i = 9 ∨ i = 10 ∨ i = 11 ∨ i = 12 ∨ i = 13 ∨ i = 14 ∨ i = 15 ∨ i = 16 ∨ i = 17) with rfl | rfl | rfl | rfl | rfl | rfl | rfl | rfl | rfl | rfl | rfl | rfl | rfl | rfl | rfl | rfl | rfl | rfl
    · show (loT _ _ 0).1 = _; rw [lo 0 (by omega)]; rfl
    · show (loT _ _ 0).2.1 = _; rw [lo 0 (by omega)]; rfl
    · show (loT _ _ 0).2.2 = _; rw [lo 0 (by omega)]; rfl
    · show (hiT _ _ 0).1 = _; rw [hi 0 (by omega)]; rfl
    · show (hiT _ _ 0).2.1 = _; rw [hi 0 (by omega)]; rfl
    · show (hiT _ _ 0).2.2 = _; rw [hi 0 (by omega)]; rfl
    · show (loT _ _ 1).1 = _; rw [lo 1 (by omega)]; rfl
    · show (loT _ _ 1).2.1 = _; rw [lo 1 (by omega)]; rfl
    · show (loT _ _ 1).2.2 = _; rw [lo 1 (by omega)]; rfl
    · show (hiT _ _ 1).1 = _; rw [hi 1 (by omega)]; rfl
    · show (hiT _ _ 1).2.1 = _; rw [hi 1 (by omega)]; rfl
    · show (hiT _ _ 1).2.2 = _; rw [hi 1 (by omega)]; rfl
    · show bk (loT _ _ 2) = _; rw [lo 2 (by omega)]; rfl
    · show bk (hiT _ _ 2) = _; rw [hi 2 (by omega)]; rfl
    · show bk (loT _ _ 3) = _; rw [lo 3 (by omega)]; rfl
    · show bk (hiT _ _ 3) = _; rw [hi 3 (by omega)]; rfl
    · show bk (loT _ _ 4) = _; rw [lo 4 (by omega)]; rfl
    · show bk (hiT _ _ 4) = _; rw [hi 4 (by omega)]; rfl
end
end Ab
end Go.Proofs.YtbfppnppijcnlaaGreat
