/-
  Boxes that are right: CheckBox finds nothing wrong with them.
  Conditions: none.
-/
import Derived.Test.YtddiclnkfhldlaaChk
namespace Go.Proofs.Ytddiclnkfhldlaa
namespace Ab
open Go.RowKit
set_option linter.unusedVariables false
set_option linter.unusedSimpArgs false
set_option maxRecDepth 100000
section
variable {V : Nat → Value}
theorem hq_ss {op : BinOp} {i j : Nat} {k : IntKind} {n m : Int} {r : Bool} (h1 : V i = .int k n) (h2 : V j = .int k m) (h : cmpB op n m = some r) : HoldQ Try.prog V (.cmp op (.sym i) (.sym j)) r := by
  intro ρ x y hx hy
  have hx : x = V i := hx
  have hy : y = V j := hy
  exact ⟨k, n, k, m, hx.trans h1, hy.trans h2, fun xt => by rw [hx, hy, h1, h2]; exact cmpB_ok h k xt⟩
theorem hq_sl {op : BinOp} {i : Nat} {k : IntKind} {n m : Int} {r : Bool} (h1 : V i = .int k n) (h : cmpB op n m = some r) : HoldQ Try.prog V (.cmp op (.sym i) (.int k m)) r := by
  intro ρ x y hx hy
  have hx : x = V i := hx
  have hy : y = .int k m := hy
  exact ⟨k, n, k, m, hx.trans h1, hy, fun xt => by rw [hx, hy, h1]; exact cmpB_ok h k xt⟩
end
def resB (r : Bool) : AV → Bool
  | .one (.c (.bool b)) => b == r
  | _ => false
def resI (r : Int) : AV → Bool
  | .one (.c (.int .i64 b)) => b == r
  | _ => false
theorem det_b {V : Nat → Value} (hone : ∀ i, (V i).oneCell' = true) {r : Bool} {f : Nat} {args : List AV} {vals : Array Value} (hv : F2 (VR V ρ0) args vals.toList) {D : List (Qu × Bool)} (hD : ∀ d ∈ D, HoldQ Try.prog V d.1 d.2) (h : chkT (resB r) f args .leaf D = true) (w : World) :
    Calls Try.prog f vals w fun e w' => e = .returned (.bool r) ∧ RowKit.Below w.heap.size w w' := by
  obtain ⟨v, hv1, hv2⟩ := chk_ok hone hv .leaf (fun q hq => by cases hq) hD h
  have : v = .one (.c (.bool r)) := by
    unfold resB at hv1
    split at hv1
    · rw [eq_of_beq hv1]
    · cases hv1
  subst this
  refine (hv2 w).mono ?_
  rintro e w' ⟨c, ρ', rfl, hc, hb⟩
  have hc : c = .bool r := hc
  exact ⟨by rw [hc], hb⟩
theorem det_i {V : Nat → Value} (hone : ∀ i, (V i).oneCell' = true) {r : Int} {f : Nat} {args : List AV} {vals : Array Value} (hv : F2 (VR V ρ0) args vals.toList) {D : List (Qu × Bool)} (hD : ∀ d ∈ D, HoldQ Try.prog V d.1 d.2) (h : chkT (resI r) f args .leaf D = true) (w : World) :
    Calls Try.prog f vals w fun e w' => e = .returned (.int .i64 r) ∧ RowKit.Below w.heap.size w w' := by
  obtain ⟨v, hv1, hv2⟩ := chk_ok hone hv .leaf (fun q hq => by cases hq) hD h
  have : v = .one (.c (.int .i64 r)) := by
    unfold resI at hv1
    split at hv1
    · rw [eq_of_beq hv1]
    · cases hv1
  subst this
  refine (hv2 w).mono ?_
  rintro e w' ⟨c, ρ', rfl, hc, hb⟩
  have hc : c = .int .i64 r := hc
  exact ⟨by rw [hc], hb⟩
def dV4 : List (Qu × Bool) := [(.cmp .eql (sy 0) (kn .i64 4), true), (.cmp .eql (sy 1) (kn .u64 0), true), (.cmp .lss (sy 2) (kn .u64 4294967296), true)]
def dV6 : List (Qu × Bool) := [(.cmp .eql (sy 0) (kn .i64 4), false), (.cmp .eql (sy 0) (kn .i64 6), true)]
theorem rV4 : chkT (resB true) 96 [aggS [0, 1, 2]] .leaf dV4 = true := by kernel_rfl
theorem rV6 : chkT (resB true) 96 [aggS [0, 1, 2]] .leaf dV6 = true := by kernel_rfl
theorem valid_yes {f h l : Int} (ha : AdrP f h l) (w : World) : Calls Try.prog 96 #[.agg #[.int .i64 f, .int .u64 h, .int .u64 l]] w fun e w' => e = .returned (.bool true) ∧ RowKit.Below w.heap.size w w' := by
  have hone := rowV_one (l := [.int .i64 f, .int .u64 h, .int .u64 l]) (by simp [Value.oneCell'])
  have hv : F2 (VR (rowV [.int .i64 f, .int .u64 h, .int .u64 l]) ρ0) [aggS [0, 1, 2]] (#[.agg #[.int .i64 f, .int .u64 h, .int .u64 l]] : Array Value).toList := ⟨⟨_, rfl, rfl, rfl, rfl, trivial⟩, trivial⟩
  rcases ha with ⟨h1, h2, h3, h4⟩ | h1
  · refine det_b hone hv (D := dV4) (fun d hd => ?_) rV4 w
    simp only [dV4, List.mem_cons, List.not_mem_nil, or_false] at hd
    rcases hd with rfl | rfl | rfl
    · exact hq_sl (n := f) rfl (by simp [cmpB, h1])
    · exact hq_sl (n := h) rfl (by simp [cmpB, h2])
    · exact hq_sl (n := l) rfl (by simp [cmpB]; omega)
  · refine det_b hone hv (D := dV6) (fun d hd => ?_) rV6 w
    simp only [dV6, List.mem_cons, List.not_mem_nil, or_false] at hd
    rcases hd with rfl | rfl
    · exact hq_sl (n := f) rfl (by simp [cmpB, h1])
    · exact hq_sl (n := f) rfl (by simp [cmpB, h1])
def dL1 : List (Qu × Bool) := [(.cmp .neq (sy 0) (sy 3), false), (.cmp .neq (sy 1) (sy 4), true), (.cmp .lss (sy 1) (sy 4), false)]
def dL2 : List (Qu × Bool) := [(.cmp .neq (sy 0) (sy 3), false), (.cmp .neq (sy 1) (sy 4), false), (.cmp .lss (sy 2) (sy 5), false)]
theorem rL1 : chkT (resB false) 97 [aggS [0, 1, 2], aggS [3, 4, 5]] .leaf dL1 = true := by kernel_rfl
theorem rL2 : chkT (resB false) 97 [aggS [0, 1, 2], aggS [3, 4, 5]] .leaf dL2 = true := by kernel_rfl
theorem less_no {f h l f' h' l' : Int} (e : f = f') (hh : h' < h ∨ (h' = h ∧ l' ≤ l)) (w : World) : Calls Try.prog 97 #[.agg #[.int .i64 f, .int .u64 h, .int .u64 l], .agg #[.int .i64 f', .int .u64 h', .int .u64 l']] w fun e w' => e = .returned (.bool false) ∧ RowKit.Below w.heap.size w w' := by
  have hone := rowV_one (l := [.int .i64 f, .int .u64 h, .int .u64 l, .int .i64 f', .int .u64 h', .int .u64 l']) (by simp [Value.oneCell'])
  have hv : F2 (VR (rowV [.int .i64 f, .int .u64 h, .int .u64 l, .int .i64 f', .int .u64 h', .int .u64 l']) ρ0) [aggS [0, 1, 2], aggS [3, 4, 5]] (#[.agg #[.int .i64 f, .int .u64 h, .int .u64 l], .agg #[.int .i64 f', .int .u64 h', .int .u64 l']] : Array Value).toList := ⟨⟨_, rfl, rfl, rfl, rfl, trivial⟩, ⟨_, rfl, rfl, rfl, rfl, trivial⟩, trivial⟩
  subst e
  rcases hh with h1 | ⟨h1, h2⟩
  · refine det_b hone hv (D := dL1) (fun d hd => ?_) rL1 w
    simp only [dL1, List.mem_cons, List.not_mem_nil, or_false] at hd
    rcases hd with rfl | rfl | rfl
    · exact hq_ss (n := f) (m := f) rfl rfl (by simp [cmpB])
    · exact hq_ss (n := h) (m := h') rfl rfl (by simp [cmpB]; omega)
    · exact hq_ss (n := h) (m := h') rfl rfl (by simp [cmpB]; omega)
  · refine det_b hone hv (D := dL2) (fun d hd => ?_) rL2 w
    simp only [dL2, List.mem_cons, List.not_mem_nil, or_false] at hd
    rcases hd with rfl | rfl | rfl
    · exact hq_ss (n := f) (m := f) rfl rfl (by simp [cmpB])
    · exact hq_ss (n := h) (m := h') rfl rfl (by simp [cmpB]; omega)
    · exact hq_ss (n := l) (m := l') rfl rfl (by simp [cmpB]; omega)
def dP : List (Qu × Bool) := [(.cmp .geq (sy 0) (kn .i64 (-1)), true), (.cmp .leq (sy 1) (kn .i64 65535), true), (.cmp .leq (sy 0) (sy 1), true)]
theorem rP : chkT (resB true) 98 [aggS [0, 1]] .leaf dP = true := by kernel_rfl
theorem ports_yes {a b : Int} (h1 : -1 ≤ a) (h2 : b ≤ 65535) (h3 : a ≤ b) (w : World) : Calls Try.prog 98 #[.agg #[.int .i64 a, .int .i64 b]] w fun e w' => e = .returned (.bool true) ∧ RowKit.Below w.heap.size w w' := by
  have hone := rowV_one (l := [.int .i64 a, .int .i64 b]) (by simp [Value.oneCell'])
  have hv : F2 (VR (rowV [.int .i64 a, .int .i64 b]) ρ0) [aggS [0, 1]] (#[.agg #[.int .i64 a, .int .i64 b]] : Array Value).toList := ⟨⟨_, rfl, rfl, rfl, trivial⟩, trivial⟩
  refine det_b hone hv (D := dP) (fun d hd => ?_) rP w
  simp only [dP, List.mem_cons, List.not_mem_nil, or_false] at hd
  rcases hd with rfl | rfl | rfl
  · exact hq_sl (n := a) rfl (by simp [cmpB]; omega)
  · exact hq_sl (n := b) rfl (by simp [cmpB]; omega)
  · exact hq_ss (n := a) (m := b) rfl rfl (by simp [cmpB]; omega)
def dBox : List (Qu × Bool) :=
  [(.call 96 [aggS [0, 1, 2]], true), (.call 96 [aggS [3, 4, 5]], true), (.call 96 [aggS [6, 7, 8]], true), (.call 96 [aggS [9, 10, 11]], true),
   (.cmp .neq (sy 0) (sy 0), false), (.cmp .neq (sy 3) (sy 0), false), (.cmp .neq (sy 6) (sy 0), false), (.cmp .neq (sy 9) (sy 0), false),
   (.call 97 [aggS [3, 4, 5], aggS [0, 1, 2]], false), (.call 97 [aggS [9, 10, 11], aggS [6, 7, 8]], false),
   (.cmp .lss (sy 12) (kn .i64 0), false), (.cmp .gtr (sy 13) (kn .i64 255), false), (.cmp .gtr (sy 12) (sy 13), false),
   (.call 98 [aggS [14, 15]], true), (.call 98 [aggS [16, 17]], true)]
theorem rBoxR : chkT (resI 0) 92 [aggS [0, 1, 2, 3, 4, 5, 6, 7, 8, 9, 10, 11, 12, 13, 14, 15, 16, 17]] .leaf dBox = true := by kernel_rfl
theorem call_hold {V : Nat → Value} {f : Nat} {args : List AV} {vals : Array Value} {r : Bool} (hf : ∀ w, Calls Try.prog f vals w fun e w' => e = .returned (.bool r) ∧ RowKit.Below w.heap.size w w') (ha : ∀ ρ vs, F2 (VR V ρ) args vs → vs = vals.toList) : HoldQ Try.prog V (.call f args) r := fun ρ w vs hv => by
  have e : vs = vals := Array.ext' (ha ρ _ hv)
  rw [e]
  exact hf w
theorem box_right {d : Nat → Int} (hd : BoxP d) (w : World) : Calls Try.prog 92 #[.agg (boxV (d 0) (d 1) (d 2) (d 3) (d 4) (d 5) (d 6) (d 7) (d 8) (d 9) (d 10) (d 11) (d 12) (d 13) (d 14) (d 15) (d 16) (d 17)).toArray] w fun e w' => e = .returned (.int .i64 0) ∧ RowKit.Below w.heap.size w w' := by
  obtain ⟨a0, a1, a2, a3, e3, e6, e9, l1, l2, p0, p1, p2, q0, q1, q2, q3, q4, q5⟩ := hd
  have hone : ∀ i, (rowV (boxV (d 0) (d 1) (d 2) (d 3) (d 4) (d 5) (d 6) (d 7) (d 8) (d 9) (d 10) (d 11) (d 12) (d 13) (d 14) (d 15) (d 16) (d 17)) i).oneCell' = true := rowV_one (by simp [boxV, Value.oneCell'])
  have hv : F2 (VR (rowV (boxV (d 0) (d 1) (d 2) (d 3) (d 4) (d 5) (d 6) (d 7) (d 8) (d 9) (d 10) (d 11) (d 12) (d 13) (d 14) (d 15) (d 16) (d 17))) ρ0) [aggS [0, 1, 2, 3, 4, 5, 6, 7, 8, 9, 10, 11, 12, 13, 14, 15, 16, 17]] (#[.agg (boxV (d 0) (d 1) (d 2) (d 3) (d 4) (d 5) (d 6) (d 7) (d 8) (d 9) (d 10) (d 11) (d 12) (d 13) (d 14) (d 15) (d 16) (d 17)).toArray] : Array Value).toList := ⟨⟨_, rfl, rfl, rfl, rfl, rfl, rfl, rfl, rfl, rfl, rfl, rfl, rfl, rfl, rfl, rfl, rfl, rfl, rfl, rfl, trivial⟩, trivial⟩
  refine det_i hone hv (D := dBox) (fun x hx => ?_) rBoxR w
  simp only [dBox, List.mem_cons, List.not_mem_nil, or_false] at hx
  rcases hx with rfl | rfl | rfl | rfl | rfl | rfl | rfl | rfl | rfl | rfl | rfl | rfl | rfl | rfl | rfl
  · exact call_hold (valid_yes a0) (fun ρ vs h => f2_three h)
  · exact call_hold (valid_yes a1) (fun ρ vs h => f2_three h)
  · exact call_hold (valid_yes a2) (fun ρ vs h => f2_three h)
  · exact call_hold (valid_yes a3) (fun ρ vs h => f2_three h)
  · exact hq_ss (n := d 0) (m := d 0) rfl rfl (by simp [cmpB])
  · exact hq_ss (n := d 3) (m := d 0) rfl rfl (by simp [cmpB, e3])
  · exact hq_ss (n := d 6) (m := d 0) rfl rfl (by simp [cmpB, e6])
  · exact hq_ss (n := d 9) (m := d 0) rfl rfl (by simp [cmpB, e9])
  · exact call_hold (less_no e3 l1) (fun ρ vs h => f2_six h)
  · exact call_hold (less_no (e9.trans e6.symm) l2) (fun ρ vs h => f2_six h)
  · exact hq_sl (n := d 12) rfl (by simp [cmpB]; omega)
  · exact hq_sl (n := d 13) rfl (by simp [cmpB]; omega)
  · exact hq_ss (n := d 12) (m := d 13) rfl rfl (by simp [cmpB]; omega)
  · exact call_hold (ports_yes q0 q1 q2) (fun ρ vs h => f2_two h)
  · exact call_hold (ports_yes q3 q4 q5) (fun ρ vs h => f2_two h)
end Ab
end Go.Proofs.Ytddiclnkfhldlaa
