/-
  The contract of the law's size of a term.
  Conditions: the term lies in memory as a tree.
-/
import Derived.Test.YtokiodjdonbipaaEqD
namespace Go.Proofs.Ytokiodjdonbipaa
open Go.RowKit Go.Sort
set_option linter.unusedVariables false
mutual
def sizeT : Tm → Int
  | .mk _ _ l => sizeL 1 l
def sizeL : Int → List Tm → Int
  | n, [] => n
  | n, x :: xs => if n < 300 then sizeL (wrap64 (n + sizeT x)) xs else n
end
theorem sizeT_mk (o v : Int) (l : List Tm) : sizeT (.mk o v l) = sizeL 1 l := by rw [sizeT]
theorem sizeL_drop {l : List Tm} {k : Nat} {n : Int} (h : k < l.length) : sizeL n (l.drop k) = if n < 300 then sizeL (wrap64 (n + sizeT l[k])) (l.drop (k + 1)) else n := by
  rw [List.drop_eq_getElem_cons h, sizeL]
theorem sizeL_end {l : List Tm} {k : Nat} {n : Int} (h : l.length ≤ k) : sizeL n (l.drop k) = n := by
  rw [List.drop_eq_nil_of_le h, sizeL]
theorem wrap64_fits (x : Int) : fits (wrap64 x) := by unfold fits wrap64; omega
set_option maxHeartbeats 1000000 in
theorem size_any (t : Tm) : ∀ (w : World) (A : Option Addr) (c : Nat), Tr w t A c →
    Calls Try.prog 10 #[.agg #[.int .i64 t.op, .int .i64 t.val, .slice A t.args.length c]] w fun e w' => e = .returned (.int .i64 (sizeT t)) ∧ fits (sizeT t) ∧ Below w.heap.size w w' := by
  refine Tm.ind (P := fun t => ∀ (w : World) (A : Option Addr) (c : Nat), Tr w t A c →
    Calls Try.prog 10 #[.agg #[.int .i64 t.op, .int .i64 t.val, .slice A t.args.length c]] w fun e w' => e = .returned (.int .i64 (sizeT t)) ∧ fits (sizeT t) ∧ Below w.heap.size w w') ?_ t
  intro o v l ih w A c ht
  have hf := ht.ofits
  simp only [Tm.op_mk, Tm.val_mk, Tm.args_mk] at hf ⊢
  rw [sizeT_mk]
  generalize hR : sizeL 1 l = R
  have HR := Lib.hid hR
  have hfl := hf.2.2
  unfold maxLen at hfl
  have b1 : Blk (w.alloc (Obj.cells #[.int .i64 o, .int .i64 v, .slice A l.length c] 24)) w.heap.size 24 #[.int .i64 o, .int .i64 v, .slice A l.length c] := heap_alloc_new w _
  have tt := ht.alloc (Obj.cells #[.int .i64 o, .int .i64 v, .slice A l.length c] 24)
  have bb : Below w.heap.size w (w.alloc (Obj.cells #[.int .i64 o, .int .i64 v, .slice A l.length c] 24)) := (Below.refl _ _).alloc (Nat.le_refl _) _
  have Hi := Lib.hid ih
  have B1 := Lib.hid b1
  have TT := Lib.hid tt
  have BB := Lib.hid bb
  clear ih b1 tt bb hR ht hf
  go_enter Try.func10, Try.ntmps10
  go_wp2_with fail
  generalize w.alloc (Obj.cells #[.int .i64 o, .int .i64 v, .slice A l.length c] 24) = W at *
  go_loopw [3, 4] (fun nn i wr => ∃ k : Nat, ∃ n : Int, k ≤ l.length ∧ i = .int .i64 k ∧ nn = .int .i64 n ∧ fits n ∧ sizeL n (l.drop k) = R ∧ Below W.heap.size W wr) (fun _ i _ => l.length - (intOf i).toNat)
  case atStart => exact ⟨0, 1, Nat.zero_le _, rfl, rfl, (by unfold fits; omega), HR.out, Below.refl _ _⟩
  case round =>
    obtain ⟨k, n, hk, rfl, rfl, hn, hp, hb⟩ := hrel
    have HN := Lib.hid hn
    clear hn
    have d2 : wr.cell? ⟨w.heap.size, 2, none⟩ = some (.slice A l.length c) := (B1.out.below hb B1.out.lt).cell 2
    by_cases hkl : k < l.length
    · have x2 : decide ((k : Int) < (l.length : Int)) = true := by simp; omega
      have x2' : decide (k < l.length) = true := by simp; omega
      rw [sizeL_drop hkl] at hp
      by_cases hn3 : n < 300
      · have x3 : decide (n < 300) = true := by simp; omega
        rw [if_pos hn3] at hp
        obtain ⟨g, k0, AA, CC, rfl, c0, c1, c2, htr⟩ := (TT.out.bel hb).at k hkl
        have p1 : (0 : Int) ≤ (k : Int) := by omega
        have p2 : (k : Int) < (l.length : Int) := by omega
        simp only [Tm.args_mk] at c0 c1 c2 htr
        have HC := Lib.hid (Hi.out _ (List.getElem_mem hkl) _ _ _ htr)
        have Hp := Lib.hid hp
        have Hb := Lib.hid hb
        clear hp hb htr
        generalize sizeT l[k] = z at *
        go_wp2_with fail
        refine HC.out.mono ?_
        rintro e w2 ⟨rfl, hz, hb2⟩
        have Hb2 := Lib.hid (below_then Hb.out hb2 Hb.out.size)
        clear hb2
        go_wp2_with fail
        go_roundw
        case rel => exact ⟨k + 1, wrap64 (n + z), by omega, by go_num, rfl, wrap64_fits _, Hp.out, Hb2.out⟩
        case measure => simp [intOf]; omega
      · have x3 : decide (n < 300) = false := by simp; omega
        rw [if_neg hn3] at hp
        subst hp
        have Hb := Lib.hid hb
        clear hb
        go_wp2_with fail
        go_ret
        exact ⟨rfl, HN.out, BB.out.trans (Hb.out.mono BB.out.size)⟩
    · have x2 : decide ((k : Int) < (l.length : Int)) = false := by simp; omega
      have x2' : decide (k < l.length) = false := by simp; omega
      rw [sizeL_end (by omega)] at hp
      subst hp
      have Hb := Lib.hid hb
      clear hb
      go_wp2_with fail
      go_ret
      exact ⟨rfl, HN.out, BB.out.trans (Hb.out.mono BB.out.size)⟩
end Go.Proofs.Ytokiodjdonbipaa
