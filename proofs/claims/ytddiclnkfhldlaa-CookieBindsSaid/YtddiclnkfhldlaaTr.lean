/-
  Terms in memory: where the arguments of a term lie, and that a call that leaves the old blocks alone leaves the term as it was.
  Conditions: none.
-/
import Derived.Test.YtddiclnkfhldlaaTm
import Derived.Test.YtddiclnkfhldlaaMem
namespace Go.Proofs.Ytddiclnkfhldlaa
open Go.RowKit
set_option linter.unusedVariables false
/-- A number that an int can hold. -/
def fits (n : Int) : Prop := -9223372036854775808 ≤ n ∧ n ≤ 9223372036854775807
/-- The arguments of the term t lie at A, in a slice of capacity c. -/
inductive Tr (w : World) : Tm → Option Addr → Nat → Prop
  | mk {o v : Int} {l : List Tm} {A : Option Addr} {c : Nat} (AA : Nat → Option Addr) (CC : Nat → Nat) (ho : fits o) (hv : fits v) (hl : l.length ≤ c) (hc : c ≤ maxLen)
      (hcell : ∀ (i : Nat) (h : i < l.length), ∃ g k, A = some ⟨g, k, none⟩ ∧ w.cell? ⟨g, k + i * 3, none⟩ = some (.int .i64 (l[i]).op) ∧ w.cell? ⟨g, k + i * 3 + 1, none⟩ = some (.int .i64 (l[i]).val) ∧ w.cell? ⟨g, k + i * 3 + 2, none⟩ = some (.slice (AA i) (l[i]).args.length (CC i)))
      (hrec : ∀ (i : Nat) (h : i < l.length), Tr w l[i] (AA i) (CC i)) : Tr w (.mk o v l) A c
/-- The value of a term whose arguments lie at A. -/
def tv (t : Tm) (A : Option Addr) (c : Nat) : Value := .agg #[.int .i64 t.op, .int .i64 t.val, .slice A t.args.length c]
section
variable {w w' : World} {t : Tm} {A : Option Addr} {c : Nat}
theorem Tr.keep (h : Tr w t A c) (hb : ∀ k, k < w.heap.size → w'.heap[k]? = w.heap[k]?) : Tr w' t A c := by
  induction h with
  | mk AA CC ho hv hl hc hcell hrec ih =>
    refine .mk AA CC ho hv hl hc (fun i hi => ?_) ih
    obtain ⟨g, k, hA, h0, h1, h2⟩ := hcell i hi
    have hg := hb g (World.block_lt_of_cell? w ⟨g, _, none⟩ h0)
    exact ⟨g, k, hA, (World.cell?_of_block (a := ⟨g, _, none⟩) hg).trans h0, (World.cell?_of_block (a := ⟨g, _, none⟩) hg).trans h1, (World.cell?_of_block (a := ⟨g, _, none⟩) hg).trans h2⟩
theorem Tr.bel (h : Tr w t A c) (hb : Below w.heap.size w w') : Tr w' t A c := h.keep hb.block
theorem Tr.alloc (h : Tr w t A c) (o : Obj) : Tr (w.alloc o) t A c := h.keep fun k hk => Below.heap_alloc w o k hk
theorem Tr.drewN (h : Tr w t A c) (n : Nat) : Tr (w.drewN n) t A c := h.keep fun k hk => rfl
theorem Tr.ofits (h : Tr w t A c) : fits t.op ∧ fits t.val ∧ t.args.length ≤ c ∧ c ≤ maxLen := by
  cases h with
  | mk AA CC ho hv hl hc hcell hrec => exact ⟨ho, hv, hl, hc⟩
/-- Argument i of a term. -/
theorem Tr.at (h : Tr w t A c) (i : Nat) (hi : i < t.args.length) : ∃ g k AA CC, A = some ⟨g, k, none⟩ ∧ w.cell? ⟨g, k + i * 3, none⟩ = some (.int .i64 (t.args[i]).op) ∧ w.cell? ⟨g, k + i * 3 + 1, none⟩ = some (.int .i64 (t.args[i]).val) ∧ w.cell? ⟨g, k + i * 3 + 2, none⟩ = some (.slice AA (t.args[i]).args.length CC) ∧ Tr w (t.args[i]) AA CC := by
  cases h with
  | mk AA CC ho hv hl hc hcell hrec =>
    obtain ⟨g, k, hA, h0, h1, h2⟩ := hcell i hi
    exact ⟨g, k, AA i, CC i, hA, h0, h1, h2, hrec i hi⟩
theorem Tr.leaf (w : World) (o v : Int) (A : Option Addr) (c : Nat) (ho : fits o) (hv : fits v) (hc : c ≤ maxLen) : Tr w (.mk o v []) A c :=
  .mk (fun _ => none) (fun _ => 0) ho hv (Nat.zero_le _) hc (fun i hi => absurd hi (by simp)) (fun i hi => absurd hi (by simp))
end
end Go.Proofs.Ytddiclnkfhldlaa
