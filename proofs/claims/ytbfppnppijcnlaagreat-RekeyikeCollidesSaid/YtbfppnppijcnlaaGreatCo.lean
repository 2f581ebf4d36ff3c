/-
  The law RekeyikeCollides up to its connection, and its end, class by class.
  Conditions: none.
-/
import Derived.Test.YtbfppnppijcnlaaGreatEc
import Derived.Test.YtbfppnppijcnlaaGreatTwJ
namespace Go.Proofs.YtbfppnppijcnlaaGreat
namespace Ab
open Go.RowKit
set_option linter.unusedVariables false
set_option linter.unusedSimpArgs false
set_option maxRecDepth 100000
noncomputable def lwC : Code := Tryz.f6.body.getD .skip
theorem lwC_is : Tryz.f6.body = some lwC := by kernel_rfl
noncomputable def lwNew : Array Oper := opsOf ((lin lwC).drop 3)
noncomputable def lwOps : Array Oper := opsOf ((lin lwC).drop 4)
noncomputable def lwRest : List Code := (lin lwC).drop 5
theorem lw_lin : lin lwC = (lin lwC).take 3 ++ (.region 3 lwNew false :: ([] ++ (.region 4 lwOps false :: lwRest))) := by kernel_rfl
noncomputable def lwArgs : List AV := [.one (.c (.sym 0)), .one (.c (.sym 1))]
noncomputable def lwU : Sl := lset (lset (anyS Tryz.f6.ntmps ⟨Tryz.f6.ntmps, .leaf⟩) 1 (.one (.c (.sym 1)))) 4 (.one (.c (.bool false)))
noncomputable def lwM (hl : Bool) : Bool :=
  match codeAL E0n ((lin lwC).take 3) (pad Tryz.f6.ntmps lwArgs) st0 with
  | some (t1, s1) => (match newR E0n 120 lwNew t1 s1 with
    | some t2 => lwStart hl s1.next (s1.next + 1) 32 lwOps lwU t2 (newS hl { s1 with heap := [] })
    | none => false)
  | none => false
theorem lwMT : lwM true = true := by kernel_rfl
theorem lwMF : lwM false = true := by kernel_rfl
noncomputable def pC (j : Nat) : Bool := Nat.blt j 10000000
noncomputable def lwJ (k : Nat) : Bool := retOK (tjT pC k) (twU k) (twS k) (pad 3 [.one (.agg (tjA (tjOf k))), .one (.agg (tjB (tjOf k))), .one (.c (.bool (!(Nat.beq (tjOf k) 8))))]) (tjS (tjOf k)) && retOK (tjT pC k) lwU (twS k) lwU (tjS (tjOf k))
theorem lwJ0 : lwJ 0 = true := by kernel_rfl
theorem lwJ1 : lwJ 1 = true := by kernel_rfl
theorem lwJ2 : lwJ 2 = true := by kernel_rfl
theorem lwJ3 : lwJ 3 = true := by kernel_rfl
theorem lwJ4 : lwJ 4 = true := by kernel_rfl
theorem lwJ5 : lwJ 5 = true := by kernel_rfl
theorem lwJ6 : lwJ 6 = true := by kernel_rfl
theorem lwJ7 : lwJ 7 = true := by kernel_rfl
theorem lwJ8 : lwJ 8 = true := by kernel_rfl
theorem lwJ9 : lwJ 9 = true := by kernel_rfl
theorem lwJ10 : lwJ 10 = true := by kernel_rfl
theorem lwJ11 : lwJ 11 = true := by kernel_rfl
theorem lwJ12 : lwJ 12 = true := by kernel_rfl
theorem lwJ13 : lwJ 13 = true := by kernel_rfl
theorem lwJ14 : lwJ 14 = true := by kernel_rfl
theorem lwJ15 : lwJ 15 = true := by kernel_rfl
noncomputable def cA (g : Nat) : Nat := bif Nat.beq g 4 || Nat.beq g 5 then 7 else 6
noncomputable def cB (g : Nat) : Nat := bif Nat.beq (g % 2) 1 then 6 else 5
noncomputable def nA (g d : Nat) : AC := .int .i64 (Int.ofNat (cA g + d))
noncomputable def nB (g d : Nat) : AC := .sym (10000000 + 1048576 + cB g + d)
noncomputable def tl3 (a1 a2 b1 b2 : AC) (l1 l2 l3 : Bool) : List (AC × AC × Bool) :=
  [(a1, b2, l1), (b2, a1, !l1), (a2, b1, l2), (b1, a2, !l2)] ++ (match l1, l2 with
    | true, true => []
    | true, false => [(a1, b1, l3), (b1, a1, !l3)]
    | false, true => [(b2, a2, l3), (a2, b2, !l3)]
    | false, false => [(b2, b1, l3), (b1, b2, !l3)])
noncomputable def tlG (g : Nat) (l1 l2 l3 : Bool) : List (AC × AC × Bool) := tl3 (nA g 2) (nA g 5) (nB g 2) (nB g 5) l1 l2 l3
noncomputable def eCo (g : Nat) (l1 l2 l3 : Bool) : Env := env tabC cvtC (extC (tlG g l1 l2 l3))
noncomputable def lwOK (g : Nat) (l1 l2 l3 : Bool) : Bool := endTrue (eCo g l1 l2 l3) Tryz.f6.results.toList (restA (eCo g l1 l2 l3) lwOps lwRest (lset lwU 32 (tjV g)) (tjS g))
theorem tl3_ok {V : Nat → Value} {c1 c2 d1 d2 : AC} {x1 x2 y1 y2 : Int} (f1 : fits x1) (f2 : fits x2) (f3 : fits y1) (f4 : fits y2) (h1 : ∀ ρ u, CR V ρ c1 u → u = .int .i64 x1) (h2 : ∀ ρ u, CR V ρ c2 u → u = .int .i64 x2) (h3 : ∀ ρ u, CR V ρ d1 u → u = .int .i64 y1) (h4 : ∀ ρ u, CR V ρ d2 u → u = .int .i64 y2)
    (n1 : x1 ≠ y2) (n2 : x2 ≠ y1) (n3 : x1 ≠ y1) (n4 : y2 ≠ x2) (n5 : y2 ≠ y1) : ∃ l1 l2 l3, TlOK V (tl3 c1 c2 d1 d2 l1 l2 l3) := by
  refine ⟨Go.Proofs.YtbfppnppijcnlaaGreat.lowT (nmT x1) (nmT y2), Go.Proofs.YtbfppnppijcnlaaGreat.lowT (nmT x2) (nmT y1), (match Go.Proofs.YtbfppnppijcnlaaGreat.lowT (nmT x1) (nmT y2), Go.Proofs.YtbfppnppijcnlaaGreat.lowT (nmT x2) (nmT y1) with
    | true, true => false
    | true, false => Go.Proofs.YtbfppnppijcnlaaGreat.lowT (nmT x1) (nmT y1)
    | false, true => Go.Proofs.YtbfppnppijcnlaaGreat.lowT (nmT y2) (nmT x2)
    | false, false => Go.Proofs.YtbfppnppijcnlaaGreat.lowT (nmT y2) (nmT y1)), ?_⟩
  intro e he
  unfold tl3 at he
  rw [List.mem_append] at he
  rcases he with he | he
  · simp only [List.mem_cons, List.not_mem_nil, or_false] at he
    rcases he with rfl | rfl | rfl | rfl
    · exact ⟨x1, y2, f1, f4, rfl, h1, h4⟩
    · exact ⟨y2, x1, f4, f1, lowT_flip n1, h4, h1⟩
    · exact ⟨x2, y1, f2, f3, rfl, h2, h3⟩
    · exact ⟨y1, x2, f3, f2, lowT_flip n2, h3, h2⟩
  · revert he
    cases Go.Proofs.YtbfppnppijcnlaaGreat.lowT (nmT x1) (nmT y2) <;> cases Go.Proofs.YtbfppnppijcnlaaGreat.lowT (nmT x2) (nmT y1) <;> intro he <;> simp only [List.mem_cons, List.not_mem_nil, or_false] at he
    · rcases he with rfl | rfl
      · exact ⟨y2, y1, f4, f3, rfl, h4, h3⟩
      · exact ⟨y1, y2, f3, f4, lowT_flip n5, h3, h4⟩
    · rcases he with rfl | rfl
      · exact ⟨y2, x2, f4, f2, rfl, h4, h2⟩
      · exact ⟨x2, y2, f2, f4, lowT_flip n4, h2, h4⟩
    · rcases he with rfl | rfl
      · exact ⟨x1, y1, f1, f3, rfl, h1, h3⟩
      · exact ⟨y1, x1, f3, f1, lowT_flip n3, h3, h1⟩
theorem cA_le (g : Nat) : cA g ≤ 7 := by
  unfold cA
  cases (Nat.beq g 4 || Nat.beq g 5)
  · show 6 ≤ 7; omega
  · show 7 ≤ 7; omega
theorem cB_le (g : Nat) : cB g ≤ 6 := by
  unfold cB
  cases Nat.beq (g % 2) 1
  · show 5 ≤ 6; omega
  · show 6 ≤ 6; omega
theorem tl_class {V : Nat → Value} {b : Int} {g : Nat} (hb : 0 ≤ b ∧ b ≤ 255) : ∃ l1 l2 l3, TlOK (VC V b) (tlG g l1 l2 l3) := by
  have ha := cA_le g
  have hc := cB_le g
  have vb : ∀ d, d ≤ 5 → VC V b (10000000 + 1048576 + cB g + d) = .int .i64 (b + (1048576 + cB g + d)) := by
    intro d hd
    rw [VC_is hb (by unfold isC; rw [Nat.ble_eq_true_of_le (by omega), blt_yes (by omega)]; rfl)]
    congr 1
    omega
  refine tl3_ok (x1 := ((cA g + 2 : Nat) : Int)) (x2 := ((cA g + 5 : Nat) : Int)) (y1 := b + (1048576 + cB g + (2 : Nat))) (y2 := b + (1048576 + cB g + (5 : Nat))) ?_ ?_ ?_ ?_ (fun ρ u h => h) (fun ρ u h => h) (fun ρ u h => ?_) (fun ρ u h => ?_) ?_ ?_ ?_ ?_ ?_
  · unfold fits; omega
  · unfold fits; omega
  · unfold fits; omega
  · unfold fits; omega
  · have h : u = VC V b _ := h
    rw [h, vb 2 (by omega)]
  · have h : u = VC V b _ := h
    rw [h, vb 5 (by omega)]
  · omega
  · omega
  · omega
  · omega
  · omega
end Ab
end Go.Proofs.YtbfppnppijcnlaaGreat
