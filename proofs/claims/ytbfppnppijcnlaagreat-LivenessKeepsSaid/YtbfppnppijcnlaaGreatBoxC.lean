/-
  Boxes that are right: CheckBox finds nothing wrong with them.
  Conditions: none.
-/
import Derived.Test.YtbfppnppijcnlaaGreatChk
import Derived.Test.YtbfppnppijcnlaaGreatCm
namespace Go.Proofs.YtbfppnppijcnlaaGreat
namespace Ab
open Go.RowKit
set_option linter.unusedVariables false
set_option linter.unusedSimpArgs false
set_option maxRecDepth 100000
section
variable {V : Nat → Value}
theorem hq_ss {op : BinOp} {i j : Nat} {k : IntKind} {n m : Int} {r : Bool} (h1 : V i = .int k n) (h2 : V j = .int k m) (h : cmpB op n m = some r) : HoldQ Tryz.prog V (.cmp op (.sym i) (.sym j)) r := by
  intro ρ x y hx hy
  have hx : x = V i := hx
  have hy : y = V j := hy
  exact ⟨k, n, k, m, hx.trans h1, hy.trans h2, fun xt => by rw [hx, hy, h1, h2]; exact cmpB_ok h k xt⟩
theorem hq_sl {op : BinOp} {i : Nat} {k : IntKind} {n m : Int} {r : Bool} (h1 : V i = .int k n) (h : cmpB op n m = some r) : HoldQ Tryz.prog V (.cmp op (.sym i) (.int k m)) r := by
  intro ρ x y hx hy
  have hx : x = V i := hx
  have hy : y = .int k m := hy
  exact ⟨k, n, k, m, hx.trans h1, hy, fun xt => by rw [hx, hy, h1]; exact cmpB_ok h k xt⟩
end
noncomputable def resB (r : Bool) : AV → Bool
  | .one (.c (.bool b)) => b == r
  | _ => false
noncomputable def resI (r : Int) : AV → Bool
  | .one (.c (.int .i64 b)) => b == r
  | _ => false
theorem det_b {V : Nat → Value} (hone : ∀ i, (V i).oneCell' = true) {r : Bool} {f : Nat} {args : List AV} {vals : Array Value} (hv : F2 (VR V ρ0) args vals.toList) {D : List (Qu × Bool)} (hD : ∀ d ∈ D, HoldQ Tryz.prog V d.1 d.2) (h : chkT (resB r) f args .leaf D = true) (w : World) :
    Calls Tryz.prog f vals w fun e w' => e = .returned (.bool r) ∧ RowKit.Below w.heap.size w w' := by
  obtain ⟨v, hv1, hv2⟩ := chk_ok hone hv .leaf (fun q hq => by cases hq) hD h
  have : v = .one (.c (.bool r)) := by
    unfold resB at hv1
    split at hv1
    · rw [eq_of_beq hv1]
    · cases hv1
  subst this
  refine (hv2 w).mono ?_
  rintro e w' ⟨c, ρ', rfl, hc, hb⟩
  have hc : c = .bool r := hc
  exact ⟨by rw [hc], hb⟩
theorem det_i {V : Nat → Value} (hone : ∀ i, (V i).oneCell' = true) {r : Int} {f : Nat} {args : List AV} {vals : Array Value} (hv : F2 (VR V ρ0) args vals.toList) {D : List (Qu × Bool)} (hD : ∀ d ∈ D, HoldQ Tryz.prog V d.1 d.2) (h : chkT (resI r) f args .leaf D = true) (w : World) :
    Calls Tryz.prog f vals w fun e w' => e = .returned (.int .i64 r) ∧ RowKit.Below w.heap.size w w' := by
  obtain ⟨v, hv1, hv2⟩ := chk_ok hone hv .leaf (fun q hq => by cases hq) hD h
  have : v = .one (.c (.int .i64 r)) := by
    unfold resI at hv1
    split at hv1
    · rw [eq_of_beq hv1]
    · cases hv1
  subst this
  refine (hv2 w).mono ?_
  rintro e w' ⟨c, ρ', rfl, hc, hb⟩
  have hc : c = .int .i64 r := hc
  exact ⟨by rw [hc], hb⟩
noncomputable def dV4 : List (Qu × Bool) := [(.cmp .eql (sy 0) (kn .i64 4), true), (.cmp .eql (sy 1) (kn .u64 0), true), (.cmp .lss (sy 2) (kn .u64 4294967296), true)]
noncomputable def dV6 : List (Qu × Bool) := [(.cmp .eql (sy 0) (kn .i64 4), false), (.cmp .eql (sy 0) (kn .i64 6), true)]
theorem rV4 : chkT (resB true) 160 [aggS [0, 1, 2]] .leaf dV4 = true := by kernel_rfl
theorem rV6 : chkT (resB true) 160 [aggS [0, 1, 2]] .leaf dV6 = true := by kernel_rfl
theorem valid_yes {f h l : Int} (ha : AdrP f h l) (w : World) : Calls Tryz.prog 160 #[.agg #[.int .i64 f, .int .u64 h, .int .u64 l]] w fun e w' => e = .returned (.bool true) ∧ RowKit.Below w.heap.size w w' := by
  have hone := rowV_one (l := [.int .i64 f, .int .u64 h, .int .u64 l]) (by simp [Value.oneCell'])
  have hv : F2 (VR (rowV [.int .i64 f, .int .u64 h, .int .u64 l]) ρ0) [aggS [0, 1, 2]] (#[.agg #[.int .i64 f, .int .u64 h, .int .u64 l]] : Array Value).toList := ⟨⟨_, rfl, rfl, rfl, rfl, trivial⟩, trivial⟩
  rcases ha with ⟨h1, h2, h3, h4⟩ | ⟨h1, _⟩
  · refine det_b hone hv (D := dV4) (fun d hd => ?_) rV4 w
    simp only [dV4, List.mem_cons, List.not_mem_nil, or_false] at hd
    rcases hd with rfl | rfl | rfl
    · exact hq_sl (n := f) rfl (by simp [cmpB, h1])
    · exact hq_sl (n := h) rfl (by simp [cmpB, h2])
    · exact hq_sl (n := l) rfl (by simp [cmpB]; omega)
  · refine det_b hone hv (D := dV6) (fun d hd => ?_) rV6 w
    simp only [dV6, List.mem_cons, List.not_mem_nil, or_false] at hd
    rcases hd with rfl | rfl
    · exact hq_sl (n := f) rfl (by simp [cmpB, h1])
    · exact hq_sl (n := f) rfl (by simp [cmpB, h1])
noncomputable def dL1 : List (Qu × Bool) := [(.cmp .neq (sy 0) (sy 3), false), (.cmp .neq (sy 1) (sy 4), true), (.cmp .lss (sy 1) (sy 4), false)]
noncomputable def dL2 : List (Qu × Bool) := [(.cmp .neq (sy 0) (sy 3), false), (.cmp .neq (sy 1) (sy 4), false), (.cmp .lss (sy 2) (sy 5), false)]
theorem rL1 : chkT (resB false) 161 [aggS [0, 1, 2], aggS [3, 4, 5]] .leaf dL1 = true := by kernel_rfl
theorem rL2 : chkT (resB false) 161 [aggS [0, 1, 2], aggS [3, 4, 5]] .leaf dL2 = true := by kernel_rfl
theorem less_no {f h l f' h' l' : Int} (e : f = f') (hh : h' < h ∨ (h' = h ∧ l' ≤ l)) (w : World) : Calls Tryz.prog 161 #[.agg #[.int .i64 f, .int .u64 h, .int .u64 l], .agg #[.int .i64 f', .int .u64 h', .int .u64 l']] w fun e w' => e = .returned (.bool false) ∧ RowKit.Below w.heap.size w w' := by
  have hone := rowV_one (l := [.int .i64 f, .int .u64 h, .int .u64 l, .int .i64 f', .int .u64 h', .int .u64 l']) (by simp [Value.oneCell'])
  have hv : F2 (VR (rowV [.int .i64 f, .int .u64 h, .int .u64 l, .int .i64 f', .int .u64 h', .int .u64 l']) ρ0) [aggS [0, 1, 2], aggS [3, 4, 5]] (#[.agg #[.int .i64 f, .int .u64 h, .int .u64 l], .agg #[.int .i64 f', .int .u64 h', .int .u64 l']] : Array Value).toList := ⟨⟨_, rfl, rfl, rfl, rfl, trivial⟩, ⟨_, rfl, rfl, rfl, rfl, trivial⟩, trivial⟩
  subst e
  rcases hh with h1 | ⟨h1, h2⟩
  · refine det_b hone hv (D := dL1) (fun d hd => ?_) rL1 w
    simp only [dL1, List.mem_cons, List.not_mem_nil, or_false] at hd
    rcases hd with rfl | rfl | rfl
    · exact hq_ss (n := f) (m := f) rfl rfl (by simp [cmpB])
    · exact hq_ss (n := h) (m := h') rfl rfl (by simp [cmpB]; omega)
    · exact hq_ss (n := h) (m := h') rfl rfl (by simp [cmpB]; omega)
  · refine det_b hone hv (D := dL2) (fun d hd => ?_) rL2 w
    simp only [dL2, List.mem_cons, List.not_mem_nil, or_false] at hd
    rcases hd with rfl | rfl | rfl
    · exact hq_ss (n := f) (m := f) rfl rfl (by simp [cmpB])
    · exact hq_ss (n := h) (m := h') rfl rfl (by simp [cmpB]; omega)
    · exact hq_ss (n := l) (m := l') rfl rfl (by simp [cmpB]; omega)
noncomputable def dP : List (Qu × Bool) := [(.cmp .geq (sy 0) (kn .i64 (-1)), true), (.cmp .leq (sy 1) (kn .i64 65535), true), (.cmp .leq (sy 0) (sy 1), true)]
theorem rP : chkT (resB true) 162 [aggS [0, 1]] .leaf dP = true := by kernel_rfl
theorem ports_yes {a b : Int} (h1 : -1 ≤ a) (h2 : b ≤ 65535) (h3 : a ≤ b) (w : World) : Calls Tryz.prog 162 #[.agg #[.int .i64 a, .int .i64 b]] w fun e w' => e = .returned (.bool true) ∧ RowKit.Below w.heap.size w w' := by
  have hone := rowV_one (l := [.int .i64 a, .int .i64 b]) (by simp [Value.oneCell'])
  have hv : F2 (VR (rowV [.int .i64 a, .int .i64 b]) ρ0) [aggS [0, 1]] (#[.agg #[.int .i64 a, .int .i64 b]] : Array Value).toList := ⟨⟨_, rfl, rfl, rfl, trivial⟩, trivial⟩
  refine det_b hone hv (D := dP) (fun d hd => ?_) rP w
  simp only [dP, List.mem_cons, List.not_mem_nil, or_false] at hd
  rcases hd with rfl | rfl | rfl
  · exact hq_sl (n := a) rfl (by simp [cmpB]; omega)
  · exact hq_sl (n := b) rfl (by simp [cmpB]; omega)
  · exact hq_ss (n := a) (m := b) rfl rfl (by simp [cmpB]; omega)
noncomputable def dBox : List (Qu × Bool) :=
  [(.call 160 [aggS [0, 1, 2]], true), (.call 160 [aggS [3, 4, 5]], true), (.call 160 [aggS [6, 7, 8]], true), (.call 160 [aggS [9, 10, 11]], true),
   (.cmp .neq (sy 0) (sy 0), false), (.cmp .neq (sy 3) (sy 0), false), (.cmp .neq (sy 6) (sy 0), false), (.cmp .neq (sy 9) (sy 0), false),
   (.call 161 [aggS [3, 4, 5], aggS [0, 1, 2]], false), (.call 161 [aggS [9, 10, 11], aggS [6, 7, 8]], false),
   (.cmp .lss (sy 12) (kn .i64 0), false), (.cmp .gtr (sy 13) (kn .i64 255), false), (.cmp .gtr (sy 12) (sy 13), false),
   (.call 162 [aggS [14, 15]], true), (.call 162 [aggS [16, 17]], true)]
theorem rBoxR : chkT (resI 0) 121 [aggS [0, 1, 2, 3, 4, 5, 6, 7, 8, 9, 10, 11, 12, 13, 14, 15, 16, 17]] .leaf dBox = true := by kernel_rfl
theorem call_hold {V : Nat → Value} {f : Nat} {args : List AV} {vals : Array Value} {r : Bool} (hf : ∀ w, Calls Tryz.prog f vals w fun e w' => e = .returned (.bool r) ∧ RowKit.Below w.heap.size w w') (ha : ∀ ρ vs, F2 (VR V ρ) args vs → vs = vals.toList) : HoldQ Tryz.prog V (.call f args) r := fun ρ w vs hv => by
  have e : vs = vals := Array.ext' (ha ρ _ hv)
  rw [e]
  exact hf w
theorem box_right {d : Nat → Int} (hd : BoxP d) (w : World) : Calls Tryz.prog 121 #[.agg (boxV (d 0) (d 1) (d 2) (d 3) (d 4) (d 5) (d 6) (d 7) (d 8) (d 9) (d 10) (d 11) (d 12) (d 13) (d 14) (d 15) (d 16) (d 17)).toArray] w fun e w' => e = .returned (.int .i64 0) ∧ RowKit.Below w.heap.size w w' := by
  obtain ⟨a0, a1, a2, a3, e3, e6, e9, l1, l2, p0, p1, p2, q0, q1, q2, q3, q4, q5⟩ := hd
  have hone : ∀ i, (rowV (boxV (d 0) (d 1) (d 2) (d 3) (d 4) (d 5) (d 6) (d 7) (d 8) (d 9) (d 10) (d 11) (d 12) (d 13) (d 14) (d 15) (d 16) (d 17)) i).oneCell' = true := rowV_one (by simp [boxV, Value.oneCell'])
  have hv : F2 (VR (rowV (boxV (d 0) (d 1) (d 2) (d 3) (d 4) (d 5) (d 6) (d 7) (d 8) (d 9) (d 10) (d 11) (d 12) (d 13) (d 14) (d 15) (d 16) (d 17))) ρ0) [aggS [0, 1, 2, 3, 4, 5, 6, 7, 8, 9, 10, 11, 12, 13, 14, 15, 16, 17]] (#[.agg (boxV (d 0) (d 1) (d 2) (d 3) (d 4) (d 5) (d 6) (d 7) (d 8) (d 9) (d 10) (d 11) (d 12) (d 13) (d 14) (d 15) (d 16) (d 17)).toArray] : Array Value).toList := ⟨⟨_, rfl, rfl, rfl, rfl, rfl, rfl, rfl, rfl, rfl, rfl, rfl, rfl, rfl, rfl, rfl, rfl, rfl, rfl, rfl, trivial⟩, trivial⟩
  refine det_i hone hv (D := dBox) (fun x hx => ?_) rBoxR w
  simp only [dBox, List.mem_cons, List.not_mem_nil, or_false] at hx
  rcases hx with rfl | rfl | rfl | rfl | rfl | rfl | rfl | rfl | rfl | rfl | rfl | rfl | rfl | rfl | rfl
  · exact call_hold (valid_yes a0) (fun ρ vs h => f2_three h)
  · exact call_hold (valid_yes a1) (fun ρ vs h => f2_three h)
  · exact call_hold (valid_yes a2) (fun ρ vs h => f2_three h)
  · exact call_hold (valid_yes a3) (fun ρ vs h => f2_three h)
  · exact hq_ss (n := d 0) (m := d 0) rfl rfl (by simp [cmpB])
  · exact hq_ss (n := d 3) (m := d 0) rfl rfl (by simp [cmpB, e3])
  · exact hq_ss (n := d 6) (m := d 0) rfl rfl (by simp [cmpB, e6])
  · exact hq_ss (n := d 9) (m := d 0) rfl rfl (by simp [cmpB, e9])
  · exact call_hold (less_no e3 l1) (fun ρ vs h => f2_six h)
  · exact call_hold (less_no (e9.trans e6.symm) l2) (fun ρ vs h => f2_six h)
  · exact hq_sl (n := d 12) rfl (by simp [cmpB]; omega)
  · exact hq_sl (n := d 13) rfl (by simp [cmpB]; omega)
  · exact hq_ss (n := d 12) (m := d 13) rfl rfl (by simp [cmpB]; omega)
  · exact call_hold (ports_yes q0 q1 q2) (fun ρ vs h => f2_two h)
  · exact call_hold (ports_yes q3 q4 q5) (fun ρ vs h => f2_two h)
end Ab
end Go.Proofs.YtbfppnppijcnlaaGreat
namespace Go.Proofs.YtbfppnppijcnlaaGreat
namespace Ab
open Go.RowKit
set_option linter.unusedVariables false
set_option linter.unusedSimpArgs false
set_option maxRecDepth 100000
/-! ### Bounds of a row -/
noncomputable def ivlK (k : IntKind) : AC → Option (Int × Int)
  | .int k' n => if k' = k then some (n, n) else none
  | .ivl k' lo hi => if k' = k then some (lo, hi) else none
  | .rng m => if k = .i64 then some (0, (m : Int) - 1) else none
  | _ => none
theorem ivlK_ok {k : IntKind} {x : AC} {a b : Int} (h : ivlK k x = some (a, b)) {V : Nat → Value} {ρ : Rho} {u : Value} (hx : CR V ρ x u) : ∃ n : Int, a ≤ n ∧ n ≤ b ∧ u = .int k n := by
  unfold ivlK at h
  split at h
  · split at h
    · rename_i e
      simp only [Option.some.injEq, Prod.mk.injEq] at h
      obtain ⟨rfl, rfl⟩ := h
      subst e
      exact ⟨_, Int.le_refl _, Int.le_refl _, hx⟩
    · cases h
  · split at h
    · rename_i e
      simp only [Option.some.injEq, Prod.mk.injEq] at h
      obtain ⟨rfl, rfl⟩ := h
      subst e
      exact hx
    · cases h
  · split at h
    · rename_i e
      simp only [Option.some.injEq, Prod.mk.injEq] at h
      obtain ⟨rfl, rfl⟩ := h
      subst e
      obtain ⟨n, h1, h2⟩ := hx
      exact ⟨n, by omega, by omega, h2⟩
    · cases h
  · cases h
noncomputable def getB (l : List AC) (i : Nat) : Option (Int × Int) := match l[i]? with | some x => ivlK (tagK i) x | none => none
noncomputable def loB (l : List AC) (i : Nat) : Int := ((getB l i).getD (0, 0)).1
noncomputable def hiB (l : List AC) (i : Nat) : Int := ((getB l i).getD (0, 0)).2
noncomputable def same2 (l : List AC) (i j : Nat) : Bool := decide (loB l i = hiB l i) && (decide (loB l j = loB l i) && decide (hiB l j = loB l i))
noncomputable def adrB (l : List AC) (i : Nat) : Bool := (decide (loB l i = 6) && decide (hiB l i = 6) && ((decide (0 ≤ loB l (i + 1)) && decide (hiB l (i + 1) < 18446744073709551616)) && (decide (0 ≤ loB l (i + 2)) && decide (hiB l (i + 2) < 18446744073709551616)))) || (decide (loB l i = 4) && decide (hiB l i = 4) && (decide (loB l (i + 1) = 0) && decide (hiB l (i + 1) = 0)) && (decide (0 ≤ loB l (i + 2)) && decide (hiB l (i + 2) < 4294967296)))
noncomputable def lexB (l : List AC) (a b c d : Nat) : Bool := decide (hiB l a < loB l c) || (same2 l a c && decide (hiB l b ≤ loB l d))
noncomputable def okBox (l : List AC) : Bool :=
  Nat.beq l.length 18 && (List.range 18).all (fun i => (getB l i).isSome && (decide (-9223372036854775808 ≤ loB l i) && decide (hiB l i ≤ 18446744073709551615))) &&
  (adrB l 0 && (adrB l 3 && (adrB l 6 && adrB l 9))) && (same2 l 0 3 && (same2 l 0 6 && same2 l 0 9)) && (lexB l 1 2 4 5 && lexB l 7 8 10 11) &&
  (decide (0 ≤ loB l 12) && (decide (hiB l 13 ≤ 255) && decide (hiB l 12 ≤ loB l 13))) &&
  (decide (-1 ≤ loB l 14) && (decide (hiB l 15 ≤ 65535) && decide (hiB l 14 ≤ loB l 15))) &&
  (decide (-1 ≤ loB l 16) && (decide (hiB l 17 ≤ 65535) && decide (hiB l 16 ≤ loB l 17)))
/-! ### Many numbers in one -/
noncomputable def enc : List Nat → Nat
  | [] => 0
  | x :: r => x + 36893488147419103232 * enc r
theorem enc_get : ∀ (l : List Nat), (∀ x ∈ l, x < 36893488147419103232) → ∀ (i : Nat) x, l[i]? = some x → enc l / 36893488147419103232 ^ i % 36893488147419103232 = x
  | y :: l, h, 0, x, hx => by
    injection hx with hx
    subst hx
    have := h y (by simp)
    simp only [enc, Nat.pow_zero, Nat.div_one, Nat.add_mul_mod_self_left]
    exact Nat.mod_eq_of_lt this
  | y :: l, h, i + 1, x, hx => by
    have hy := h y (by simp)
    have e : enc (y :: l) / 36893488147419103232 ^ (i + 1) = enc l / 36893488147419103232 ^ i := by
      rw [Nat.pow_succ, Nat.mul_comm, ← Nat.div_div_eq_div_mul]
      congr 1
      simp only [enc]
      rw [Nat.add_mul_div_left _ _ (by omega), Nat.div_eq_of_lt hy, Nat.zero_add]
    rw [e]
    exact enc_get l (fun z hz => h z (List.mem_cons_of_mem _ hz)) i x (by simpa using hx)
  | [], _, i, x, hx => by cases hx
theorem enc_dg {d : Nat → Int} (hd : ∀ i, i < 18 → -9223372036854775808 ≤ d i ∧ d i ≤ 18446744073709551615) : ∃ m, ∀ i, i < 18 → dgB m i = d i := by
  refine ⟨enc ((List.range 18).map fun i => (d i + 9223372036854775808).toNat), fun i hi => ?_⟩
  have hb : ∀ x ∈ (List.range 18).map (fun i => (d i + 9223372036854775808).toNat), x < 36893488147419103232 := by
    intro x hx
    obtain ⟨j, hj, rfl⟩ := List.mem_map.1 hx
    have := hd j (List.mem_range.1 hj)
    omega
  have hg : ((List.range 18).map fun i => (d i + 9223372036854775808).toNat)[i]? = some (d i + 9223372036854775808).toNat := by
    rw [List.getElem?_map, List.getElem?_range hi]
    rfl
  have := enc_get _ hb i _ hg
  unfold dgB
  rw [this]
  have := hd i hi
  omega
theorem f2_get {α β : Type} {R : α → β → Prop} : ∀ {l : List α} {m : List β}, F2 R l m → ∀ (i : Nat) {x : α}, l[i]? = some x → ∃ y, m[i]? = some y ∧ R x y
  | _ :: _, _ :: _, h, 0, x, hx => by
    injection hx with hx
    subst hx
    exact ⟨_, rfl, h.1⟩
  | _ :: _, _ :: _, h, i + 1, x, hx => by
    obtain ⟨y, h1, h2⟩ := f2_get h.2 i (x := x) (by simpa using hx)
    exact ⟨y, by simpa using h1, h2⟩
  | [], _, _, i, x, hx => by cases hx
  | _ :: _, [], h, _, _, _ => h.elim
theorem boxP_congr {d e : Nat → Int} (h : ∀ i, i < 18 → d i = e i) (hp : BoxP d) : BoxP e := by
  unfold BoxP at hp ⊢
  rw [← h 0 (by omega), ← h 1 (by omega), ← h 2 (by omega), ← h 3 (by omega), ← h 4 (by omega), ← h 5 (by omega), ← h 6 (by omega), ← h 7 (by omega), ← h 8 (by omega), ← h 9 (by omega), ← h 10 (by omega), ← h 11 (by omega), ← h 12 (by omega), ← h 13 (by omega), ← h 14 (by omega), ← h 15 (by omega), ← h 16 (by omega), ← h 17 (by omega)]
  exact hp
theorem same2_ok {l : List AC} {d : Nat → Int} {i j : Nat} (h : same2 l i j = true) (hi : loB l i ≤ d i ∧ d i ≤ hiB l i) (hj : loB l j ≤ d j ∧ d j ≤ hiB l j) : d j = d i := by
  simp only [same2, Bool.and_eq_true, decide_eq_true_eq] at h
  omega
theorem adrB_ok {l : List AC} {d : Nat → Int} {i : Nat} (h : adrB l i = true) (h0 : loB l i ≤ d i ∧ d i ≤ hiB l i) (h1 : loB l (i + 1) ≤ d (i + 1) ∧ d (i + 1) ≤ hiB l (i + 1)) (h2 : loB l (i + 2) ≤ d (i + 2) ∧ d (i + 2) ≤ hiB l (i + 2)) : AdrP (d i) (d (i + 1)) (d (i + 2)) := by
  simp only [adrB, Bool.or_eq_true, Bool.and_eq_true, decide_eq_true_eq] at h
  unfold AdrP
  omega
theorem lexB_ok {l : List AC} {d : Nat → Int} {a b c e : Nat} (h : lexB l a b c e = true) (ha : loB l a ≤ d a ∧ d a ≤ hiB l a) (hb : loB l b ≤ d b ∧ d b ≤ hiB l b) (hc : loB l c ≤ d c ∧ d c ≤ hiB l c) (he : loB l e ≤ d e ∧ d e ≤ hiB l e) : d a < d c ∨ (d a = d c ∧ d b ≤ d e) := by
  simp only [lexB, Bool.or_eq_true, Bool.and_eq_true, decide_eq_true_eq] at h
  rcases h with h | ⟨h1, h2⟩
  · exact .inl (by omega)
  · exact .inr ⟨(same2_ok h1 ha hc).symm, by omega⟩
theorem box_tag {V : Nat → Value} {ρ : Rho} {l : List AC} {vs : List Value} (h : okBox l = true) (hv : F2 (CR V ρ) l vs) : ∃ m, BoxP (dgB m) ∧ vs = (List.range 18).map (boxCell m) := by
  simp only [okBox, Bool.and_eq_true] at h
  obtain ⟨⟨⟨⟨⟨⟨⟨k1, k2⟩, k3⟩, k4⟩, k5⟩, k6⟩, k7⟩, k8⟩ := h
  have k1 := Nat.eq_of_beq_eq_true k1
  have hvl : vs.length = 18 := hv.length.symm.trans k1
  have hat : ∀ i, i < 18 → ∃ n : Int, vs[i]? = some (.int (tagK i) n) ∧ loB l i ≤ n ∧ n ≤ hiB l i ∧ -9223372036854775808 ≤ n ∧ n ≤ 18446744073709551615 := by
    intro i hi
    have hk := List.all_eq_true.1 k2 i (List.mem_range.2 hi)
    simp only [Bool.and_eq_true, decide_eq_true_eq] at hk
    obtain ⟨g1, g2, g3⟩ := hk
    obtain ⟨⟨a, b⟩, hab⟩ := Option.isSome_iff_exists.1 g1
    have e1 : loB l i = a := by unfold loB; rw [hab]; rfl
    have e2 : hiB l i = b := by unfold hiB; rw [hab]; rfl
    unfold getB at hab
    split at hab
    · rename_i x hx
      obtain ⟨u, u1, u2⟩ := f2_get hv i hx
      obtain ⟨n, n1, n2, rfl⟩ := ivlK_ok hab u2
      exact ⟨n, u1, by omega, by omega, by omega, by omega⟩
    · cases hab
  let d : Nat → Int := fun i => match vs[i]? with | some (.int _ n) => n | _ => 0
  have hd : ∀ i, i < 18 → vs[i]? = some (.int (tagK i) (d i)) ∧ (loB l i ≤ d i ∧ d i ≤ hiB l i) ∧ -9223372036854775808 ≤ d i ∧ d i ≤ 18446744073709551615 := by
    intro i hi
    obtain ⟨n, h1, h2, h3, h4, h5⟩ := hat i hi
    have e : d i = n := by
      show (match vs[i]? with | some (.int _ n) => n | _ => 0) = n
      rw [h1]
    rw [e]
    exact ⟨h1, ⟨h2, h3⟩, h4, h5⟩
  obtain ⟨m, hm⟩ := enc_dg (d := d) fun i hi => (hd i hi).2.2
  have hp : BoxP d := by
    simp only [decide_eq_true_eq] at k6 k7 k8
    have b := fun i hi => (hd i hi).2.1
    refine ⟨adrB_ok k3.1 (b 0 (by omega)) (b 1 (by omega)) (b 2 (by omega)), adrB_ok k3.2.1 (b 3 (by omega)) (b 4 (by omega)) (b 5 (by omega)), adrB_ok k3.2.2.1 (b 6 (by omega)) (b 7 (by omega)) (b 8 (by omega)), adrB_ok k3.2.2.2 (b 9 (by omega)) (b 10 (by omega)) (b 11 (by omega)),
      same2_ok k4.1 (b 0 (by omega)) (b 3 (by omega)), same2_ok k4.2.1 (b 0 (by omega)) (b 6 (by omega)), same2_ok k4.2.2 (b 0 (by omega)) (b 9 (by omega)),
      lexB_ok k5.1 (b 1 (by omega)) (b 2 (by omega)) (b 4 (by omega)) (b 5 (by omega)), lexB_ok k5.2 (b 7 (by omega)) (b 8 (by omega)) (b 10 (by omega)) (b 11 (by omega)), ?_, ?_, ?_, ?_, ?_, ?_, ?_, ?_, ?_⟩
    · have := b 12 (by omega); omega
    · have := b 13 (by omega); omega
    · have := b 12 (by omega); have := b 13 (by omega); omega
    · have := b 14 (by omega); omega
    · have := b 15 (by omega); omega
    · have := b 14 (by omega); have := b 15 (by omega); omega
    · have := b 16 (by omega); omega
    · have := b 17 (by omega); omega
    · have := b 16 (by omega); have := b 17 (by omega); omega
  refine ⟨m, boxP_congr (fun i hi => (hm i hi).symm) hp, ?_⟩
  refine List.ext_getElem? fun i => ?_
  by_cases hi : i < 18
  · rw [(hd i hi).1, List.getElem?_map, List.getElem?_range hi]
    show _ = some (boxCell m i)
    unfold boxCell
    rw [hm i hi]
  · rw [List.getElem?_eq_none (by omega), List.getElem?_eq_none (by simp; omega)]
/-! ### The contracts -/
noncomputable def tagsC (c : Nat) : List AC := (List.range 18).map (AC.tag c)
noncomputable def envZ : Env := env noTab noCvt noExt
noncomputable def envX (hl : Bool) : Env := env noTab noCvt (onlyE envZ (nextW hl 0 1))
noncomputable def spBox (id : Nat) : Option Nat := match id with | 1 => some 5 | 4 => some 37 | _ => none
noncomputable def boxRun (hl : Bool) (side : Int) : Bool :=
  match runM (envX hl) spBox 1000 95 (argC [.one (.c (.int .i64 side))]) (sC hl) with
  | some out => out.all (fun y => (match y.1 with | .one (.agg l) => okBox l | _ => false) && onC hl y.2)
  | none => false
theorem boxRunT0 : boxRun true 0 = true := by kernel_rfl
theorem boxRunT1 : boxRun true 1 = true := by kernel_rfl
theorem boxRunF0 : boxRun false 0 = true := by kernel_rfl
theorem boxRunF1 : boxRun false 1 = true := by kernel_rfl
/-- Box: a box that is right. -/
noncomputable def tagE (hl : Bool) (i0 i1 : Nat) (f : Nat) (args : List AV) (s : St) : Option (AV × St) :=
  match args with
  | [.one (.c (.ptr (some (i, 0)))), .one (.c (.int .i64 side))] => bif Nat.beq f 95 && (Nat.beq i i0 && ((decide (side = 0) || decide (side = 1)) && codesIn hl i0 i1 s 900)) then some (.one (.agg (tagsC s.ncap)), { codeOn s i0 with ncap := s.ncap + 1 }) else none
  | _ => none
section
variable {V0 : Nat → Value} {q : Ls} {ga b p : Nat} {row : Array Value} {hl : Bool} {i0 i1 : Nat}
theorem envZ_ok {V : Nat → Value} (h1 : ∀ i, (V i).oneCell' = true) : EnvOK Tryz.prog V envZ ∧ ExtOK Tryz.prog V envZ := ⟨env_ok (fun op a b z h => (by cases h)) (fun k i z h => (by cases h)) h1, noExt_ok rfl⟩
theorem envX_ok {V : Nat → Value} (h1 : ∀ i, (V i).oneCell' = true) {x : Nat → List AV → St → Option (AV × St)} (hx : CallOK Tryz.prog V x) : EnvOK Tryz.prog V (env noTab noCvt (onlyE envZ x)) ∧ ExtOK Tryz.prog V (env noTab noCvt (onlyE envZ x)) := ⟨env_ok (fun op a b z h => (by cases h)) (fun k i z h => (by cases h)) h1, onlyE_ok hx rfl rfl⟩
theorem goes_cap {V : Nat → Value} {ρ : Rho} {s : St} {w : World} (hr : Rep V ρ s w) (hc : ρ.cap s.ncap = none) (m : Nat) : Goes V ρ s w { s with ncap := s.ncap + 1 } w (ρ.setC s.ncap m) := by
  have hle : Le ρ (ρ.setC s.ncap m) := setC_le hc
  refine ⟨⟨fun i B hB => ?_, hr.inj, hr.bnd, hr.lt⟩, ?_, hle⟩
  · obtain ⟨b, cs, h1, h2, h3⟩ := hr.h i B hB
    exact ⟨b, cs, h1, h2, h3.mono V hle⟩
  · refine ⟨fun _ _ => rfl, fun i hi => ?_, Nat.le_refl _, Nat.le_succ _, fun _ h => h, fun _ _ _ => rfl, fun i b h1 h2 => absurd h2 (by simp; omega), fun j h => .inl h, fun _ _ h => h, rfl, rfl, rfl, Nat.le_refl _⟩
    show (if i = s.ncap then _ else ρ.cap i) = ρ.cap i
    rw [if_neg (by simp at hi; omega)]
/-- Next, its number known again wherever it is. -/
noncomputable def nextN (hl : Bool) (i0 i1 : Nat) (f : Nat) (args : List AV) (s : St) : Option (AV × St) :=
  match nextW hl i0 i1 f args s with
  | some (.one (.c (.rng m)), s') => some (.one (.c (.nat s.ncap m)), { s' with ncap := s.ncap + 1 })
  | _ => none
theorem nextW_ncap {args : List AV} {s s' : St} {v : AV} {f : Nat} (h : nextW hl i0 i1 f args s = some (v, s')) : s' = codeOn s i0 := by
  unfold nextW at h
  split at h
  · rename_i i m
    generalize hz : (Nat.beq _ _ && _) = z at h
    cases z
    · cases h
    · simp only [cond_true, Option.some.injEq, Prod.mk.injEq] at h
      exact h.2.symm
  · cases h
theorem nextN_ok (hL : LsOK hl q ga row) : CallOK Tryz.prog (vL V0 q ga row b p) (nextN hl i0 i1) := by
  intro f args s v s' h ρ w vals hargs hr hf
  unfold nextN at h
  split at h
  · rename_i m s1 hn
    simp only [Option.some.injEq, Prod.mk.injEq] at h
    obtain ⟨rfl, rfl⟩ := h
    have hs1 := nextW_ncap hn
    subst hs1
    refine (nextW_ok hL f args s _ _ hn ρ w vals hargs hr ⟨fun i h1 h2 => absurd h2 (by show ¬ i < s.next; omega), fun i h1 h2 => absurd h2 (by show ¬ i < s.ncap; omega)⟩).mono ?_
    rintro e w' ⟨c, ρ', rfl, hg, x, hx, rfl⟩
    have hcap : ρ'.cap (codeOn s i0).ncap = none := by
      have e1 : ρ'.cap s.ncap = ρ.cap s.ncap := hg.2.1.cap s.ncap (.inr (Nat.le_refl _))
      exact e1.trans (hf.c _ (Nat.le_refl _) (Nat.lt_succ_self _))
    have hg2 := goes_cap hg.1 hcap x
    exact ⟨_, _, rfl, hg.trans _ hg2, x, if_pos rfl, hx, rfl⟩
  · cases h
theorem tagsC_f2 {V : Nat → Value} {ρ : Rho} {c m : Nat} (hc : ρ.cap c = some m) (hm : BoxP (dgB m)) : F2 (CR V ρ) (tagsC c) ((List.range 18).map (boxCell m)) := by
  unfold tagsC
  generalize List.range 18 = l
  induction l with
  | nil => trivial
  | cons x l ih => exact ⟨⟨m, hc, hm, rfl⟩, ih⟩
theorem tagE_ok (hL : LsOK hl q ga row) (hone : ∀ i, (V0 i).oneCell' = true) : CallOK Tryz.prog (vL V0 q ga row b p) (tagE hl i0 i1) := by
  intro f args s v s' h ρ w vals hargs hr hf
  unfold tagE at h
  split at h
  · rename_i i side
    cases hk : (Nat.beq f 95 && (Nat.beq i i0 && ((decide (side = 0) || decide (side = 1)) && codesIn hl i0 i1 s 900)))
    · simp [hk] at h
    · simp only [hk, cond_true, Option.some.injEq, Prod.mk.injEq] at h
      obtain ⟨rfl, rfl⟩ := h
      simp only [Bool.and_eq_true, Bool.or_eq_true, decide_eq_true_eq] at hk
      obtain ⟨k0, k1, k2, k3⟩ := hk
      have k0 := Nat.eq_of_beq_eq_true k0
      subst k0
      have k1 := Nat.eq_of_beq_eq_true k1
      subst k1
      have hrun : boxRun hl side = true := by
        rcases k2 with rfl | rfl
        · cases hl
          · exact boxRunF0
          · exact boxRunT0
        · cases hl
          · exact boxRunF1
          · exact boxRunT1
      obtain ⟨r1, r2⟩ := rep_sC hone hr k3
      obtain ⟨e1, e2⟩ := envX_ok (vL_one hone b p) (nextW_ok (V0 := V0) (b := b) (p := p) (i0 := 0) (i1 := 1) hL)
      unfold boxRun at hrun
      split at hrun
      · rename_i out hout
        have hv : F2 (VR (vL V0 q ga row b p) (ρ.ren (fC hl i i1) [])) (argC [.one (.c (.int .i64 side))]) vals.toList := by
          match hl : vals.toList, hargs with
          | [x, y], hv =>
            obtain ⟨g, e0, e1⟩ := hv.1
            exact ⟨⟨g, by rw [ren_0]; exact e0, e1⟩, hv.2.1, trivial⟩
        refine (runM_ok e1 e2 hout rfl hv r1 r2).mono ?_
        rintro e w' ⟨y, hy, c, ρ', rfl, hg, hc⟩
        have hk := List.all_eq_true.1 hrun y hy
        simp only [Bool.and_eq_true] at hk
        obtain ⟨g1, g2⟩ := hk
        have hgo := on_codes hone hr k3 hg g2
        split at g1
        · rename_i l hl'
          rw [hl'] at hc
          obtain ⟨cs, rfl, hcs⟩ := hc
          obtain ⟨m, hm1, hm2⟩ := box_tag g1 hcs
          have hcap : ρ.cap (codeOn s i).ncap = none := hf.c _ (Nat.le_refl _) (Nat.lt_succ_self _)
          have hgo2 := goes_cap hgo.1 hcap m
          refine ⟨_, _, rfl, hgo.trans _ hgo2, cs, rfl, ?_⟩
          rw [hm2]
          exact tagsC_f2 (by show (if s.ncap = (codeOn s i).ncap then some m else ρ.cap s.ncap) = some m; exact if_pos rfl) hm1
        · cases g1
      · cases hrun
  · cases h
/-- Are these the cells of one box? -/
noncomputable def oneTag (l : List AC) : Option Nat := match l with
  | .tag c 0 :: _ => bif subL [] [(c, c)] l (tagsC c) then some c else none
  | _ => none
noncomputable def checkE (f : Nat) (args : List AV) (s : St) : Option (AV × St) :=
  match args with
  | [.one (.agg l)] => bif Nat.beq f 121 then (match oneTag l with | some _ => some (.one (.c (.int .i64 0)), s) | none => none) else none
  | _ => none
theorem tags_back {V : Nat → Value} {ρ : Rho} {c : Nat} {vs : List Value} (hv : F2 (CR V ρ) (tagsC c) vs) : ∃ m, BoxP (dgB m) ∧ vs = (List.range 18).map (boxCell m) := by
  obtain ⟨y, hy, m, hc, hm, _⟩ := f2_get hv 0 (x := .tag c 0) rfl
  clear hy
  refine ⟨m, hm, ?_⟩
  unfold tagsC at hv
  generalize List.range 18 = l at hv ⊢
  induction l generalizing vs with
  | nil =>
    cases vs with
    | nil => rfl
    | cons _ _ => exact hv.elim
  | cons x l ih =>
    match vs, hv with
    | v :: vs, hv =>
      obtain ⟨m', hc', _, e⟩ := hv.1
      rw [hc] at hc'
      injection hc' with hc'
      subst hc'
      rw [List.map_cons, e, ← ih hv.2]
theorem checkE_ok {V : Nat → Value} (hone : ∀ i, (V i).oneCell' = true) : CallOK Tryz.prog V checkE := by
  intro f args s v s' h ρ w vals hargs hr hf
  unfold checkE at h
  split at h
  · rename_i l
    cases hk : Nat.beq f 121
    · rw [hk] at h
      cases h
    · rw [hk] at h
      simp only [cond_true] at h
      have hk := Nat.eq_of_beq_eq_true hk
      subst hk
      split at h
      · rename_i c hc
        simp only [Option.some.injEq, Prod.mk.injEq] at h
        obtain ⟨rfl, rfl⟩ := h
        unfold oneTag at hc
        split at hc
        · rename_i c' r
          cases hs : subL [] [(c', c')] (.tag c' 0 :: r) (tagsC c')
          · rw [hs] at hc
            cases hc
          · match hl : vals.toList, hargs with
            | [u], hv =>
              obtain ⟨cs, rfl, hcs⟩ := hv.1
              have h2 := subL_ok hone hs hcs
              obtain ⟨m, hm1, hm2⟩ := tags_back h2
              have hvals : vals = #[.agg (boxV (dgB m 0) (dgB m 1) (dgB m 2) (dgB m 3) (dgB m 4) (dgB m 5) (dgB m 6) (dgB m 7) (dgB m 8) (dgB m 9) (dgB m 10) (dgB m 11) (dgB m 12) (dgB m 13) (dgB m 14) (dgB m 15) (dgB m 16) (dgB m 17)).toArray] := by
                apply Array.ext'
                rw [hl]
                have : cs = (boxV (dgB m 0) (dgB m 1) (dgB m 2) (dgB m 3) (dgB m 4) (dgB m 5) (dgB m 6) (dgB m 7) (dgB m 8) (dgB m 9) (dgB m 10) (dgB m 11) (dgB m 12) (dgB m 13) (dgB m 14) (dgB m 15) (dgB m 16) (dgB m 17)).toArray := Array.ext' (by rw [hm2]; rfl)
                rw [this]
              rw [hvals]
              refine (box_right hm1 w).mono ?_
              rintro e w' ⟨rfl, hb⟩
              exact ⟨_, ρ, rfl, goes_keep hr hb, rfl⟩
        · cases hc
      · cases h
  · cases h
end
end Ab
end Go.Proofs.YtbfppnppijcnlaaGreat
