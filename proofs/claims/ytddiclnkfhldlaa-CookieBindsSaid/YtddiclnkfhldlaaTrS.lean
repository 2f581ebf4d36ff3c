/-
  Terms in memory, with the blocks that they lie in.
  Conditions: none.
-/
import Derived.Test.YtddiclnkfhldlaaName
import Derived.OwnWalk
import Derived.Laws.AppendOwn
namespace Go.Proofs.Ytddiclnkfhldlaa
open Go.RowKit Go.Sort
set_option linter.unusedVariables false
/-- The arguments of the term t lie at A, in a slice of capacity c, all in blocks of S. -/
inductive TrS (S : Nat → Prop) (w : World) : Tm → Option Addr → Nat → Prop
  | mk {o v : Int} {l : List Tm} {A : Option Addr} {c : Nat} (AA : Nat → Option Addr) (CC : Nat → Nat) (ho : fits o) (hv : fits v) (hl : l.length ≤ c) (hc : c ≤ maxLen)
      (hcell : ∀ (i : Nat) (h : i < l.length), ∃ g k, A = some ⟨g, k, none⟩ ∧ S g ∧ w.cell? ⟨g, k + i * 3, none⟩ = some (.int .i64 (l[i]).op) ∧ w.cell? ⟨g, k + i * 3 + 1, none⟩ = some (.int .i64 (l[i]).val) ∧ w.cell? ⟨g, k + i * 3 + 2, none⟩ = some (.slice (AA i) (l[i]).args.length (CC i)))
      (hrec : ∀ (i : Nat) (h : i < l.length), TrS S w l[i] (AA i) (CC i)) : TrS S w (.mk o v l) A c
section
variable {S S' : Nat → Prop} {w w' : World} {t u : Tm} {A B : Option Addr} {c d : Nat} {o v o' v' : Int} {l : List Tm}
theorem TrS.tr (h : TrS S w t A c) : Tr w t A c := by
  induction h with
  | mk AA CC ho hv hl hc hcell hrec ih =>
    refine .mk AA CC ho hv hl hc (fun i hi => ?_) ih
    obtain ⟨g, k, hA, _, h⟩ := hcell i hi
    exact ⟨g, k, hA, h⟩
theorem TrS.mono (h : TrS S w t A c) (hs : ∀ g, S g → S' g) : TrS S' w t A c := by
  induction h with
  | mk AA CC ho hv hl hc hcell hrec ih =>
    refine .mk AA CC ho hv hl hc (fun i hi => ?_) ih
    obtain ⟨g, k, hA, hg, h⟩ := hcell i hi
    exact ⟨g, k, hA, hs g hg, h⟩
theorem TrS.lt (h : TrS S w t A c) : TrS (fun g => S g ∧ g < w.heap.size) w t A c := by
  induction h with
  | mk AA CC ho hv hl hc hcell hrec ih =>
    refine .mk AA CC ho hv hl hc (fun i hi => ?_) ih
    obtain ⟨g, k, hA, hg, h⟩ := hcell i hi
    exact ⟨g, k, hA, ⟨hg, World.block_lt_of_cell? w ⟨g, _, none⟩ h.1⟩, h⟩
theorem TrS.keep (h : TrS S w t A c) (hb : ∀ g, S g → g < w.heap.size → w'.heap[g]? = w.heap[g]?) : TrS S w' t A c := by
  induction h with
  | mk AA CC ho hv hl hc hcell hrec ih =>
    refine .mk AA CC ho hv hl hc (fun i hi => ?_) ih
    obtain ⟨g, k, hA, hs, h0, h1, h2⟩ := hcell i hi
    have hg := hb g hs (World.block_lt_of_cell? w ⟨g, _, none⟩ h0)
    exact ⟨g, k, hA, hs, (World.cell?_of_block (a := ⟨g, _, none⟩) hg).trans h0, (World.cell?_of_block (a := ⟨g, _, none⟩) hg).trans h1, (World.cell?_of_block (a := ⟨g, _, none⟩) hg).trans h2⟩
theorem TrS.bel (h : TrS S w t A c) (hb : Below w.heap.size w w') : TrS S w' t A c := h.keep fun g _ hg => hb.block g hg
theorem TrS.alloc (h : TrS S w t A c) (o : Obj) : TrS S (w.alloc o) t A c := h.keep fun g _ hg => Below.heap_alloc w o g hg
theorem TrS.drewN (h : TrS S w t A c) (n : Nat) : TrS S (w.drewN n) t A c := h.keep fun _ _ _ => rfl
theorem TrS.only {gc : Nat} (h : TrS S w t A c) (hg : w.grownBy w' (some gc)) (hs : ¬ S gc) : TrS S w' t A c := h.keep fun g hS hlt => hg.block g hlt (by rintro e; injection e with e; subst e; exact hs hS)
theorem TrS.ofits (h : TrS S w t A c) : fits t.op ∧ fits t.val ∧ t.args.length ≤ c ∧ c ≤ maxLen := h.tr.ofits
theorem TrS.at (h : TrS S w t A c) (i : Nat) (hi : i < t.args.length) : ∃ g k AA CC, A = some ⟨g, k, none⟩ ∧ S g ∧ w.cell? ⟨g, k + i * 3, none⟩ = some (.int .i64 (t.args[i]).op) ∧ w.cell? ⟨g, k + i * 3 + 1, none⟩ = some (.int .i64 (t.args[i]).val) ∧ w.cell? ⟨g, k + i * 3 + 2, none⟩ = some (.slice AA (t.args[i]).args.length CC) ∧ TrS S w (t.args[i]) AA CC := by
  cases h with
  | mk AA CC ho hv hl hc hcell hrec =>
    obtain ⟨g, k, hA, h0, h1, h2, h3⟩ := hcell i hi
    exact ⟨g, k, AA i, CC i, hA, h0, h1, h2, h3, hrec i hi⟩
theorem TrS.leaf (S : Nat → Prop) (w : World) (o v : Int) (A : Option Addr) (c : Nat) (ho : fits o) (hv : fits v) (hc : c ≤ maxLen) : TrS S w (.mk o v []) A c :=
  .mk (fun _ => none) (fun _ => 0) ho hv (Nat.zero_le _) hc (fun i hi => absurd hi (by simp)) (fun i hi => absurd hi (by simp))
theorem Tr.sup (h : Tr w t A c) : TrS (fun g => g < w.heap.size) w t A c := by
  induction h with
  | mk AA CC ho hv hl hc hcell hrec ih =>
    refine .mk AA CC ho hv hl hc (fun i hi => ?_) ih
    obtain ⟨g, k, hA, h⟩ := hcell i hi
    exact ⟨g, k, hA, World.block_lt_of_cell? w ⟨g, _, none⟩ h.1, h⟩
theorem TrS.re (h : TrS S w (.mk o v l) A c) (ho : fits o') (hv : fits v') : TrS S w (.mk o' v' l) A c := by
  cases h with
  | mk AA CC _ _ hl hc hcell hrec => exact .mk AA CC ho hv hl hc hcell hrec
theorem TrS.one {g : Nat} {ty : TypeId} (hb : Blk w g ty #[.int .i64 t.op, .int .i64 t.val, .slice A t.args.length c]) (hg : S g) (h : TrS S w t A c) (ho : fits o) (hv : fits v) :
    TrS S w (.mk o v [t]) (some ⟨g, 0, none⟩) 1 := by
  refine .mk (fun _ => A) (fun _ => c) ho hv (by simp) (by unfold maxLen; omega) (fun i hi => ?_) (fun i hi => ?_)
  · obtain rfl : i = 0 := by simp at hi; omega
    exact ⟨g, 0, rfl, hg, hb.cell 0, hb.cell 1, hb.cell 2⟩
  · obtain rfl : i = 0 := by simp at hi; omega
    exact h
theorem TrS.two {g : Nat} {ty : TypeId} (hb : Blk w g ty #[.int .i64 t.op, .int .i64 t.val, .slice A t.args.length c, .int .i64 u.op, .int .i64 u.val, .slice B u.args.length d]) (hg : S g) (h : TrS S w t A c) (k : TrS S w u B d) (ho : fits o) (hv : fits v) :
    TrS S w (.mk o v [t, u]) (some ⟨g, 0, none⟩) 2 := by
  refine .mk (fun i => if i = 0 then A else B) (fun i => if i = 0 then c else d) ho hv (by simp) (by unfold maxLen; omega) (fun i hi => ?_) (fun i hi => ?_)
  · match i, hi with
    | 0, _ => exact ⟨g, 0, rfl, hg, hb.cell 0, hb.cell 1, hb.cell 2⟩
    | 1, _ => exact ⟨g, 0, rfl, hg, hb.cell 3, hb.cell 4, hb.cell 5⟩
  · match i, hi with
    | 0, _ => exact h
    | 1, _ => exact k
end
theorem f0 : fits 0 := by unfold fits; omega
theorem fn {n : Int} (h0 : 0 ≤ n) (h1 : n ≤ 9000000000000000000) : fits n := by unfold fits; omega
/-- Old blocks, or new ones. -/
def SN (S : Nat → Prop) (w : World) (g : Nat) : Prop := S g ∨ w.heap.size ≤ g
theorem TrS.sn {S : Nat → Prop} {w w0 : World} {t : Tm} {A : Option Addr} {c : Nat} (h : TrS S w t A c) : TrS (SN S w0) w t A c := h.mono fun _ k => .inl k
/-- A call that makes a term. -/
def MkPost (S : Nat → Prop) (w : World) (t : Tm) (e : Ending) (w' : World) : Prop :=
  ∃ A c, e = .returned (.agg #[.int .i64 t.op, .int .i64 t.val, .slice A t.args.length c]) ∧ TrS (SN S w) w' t A c ∧ Below w.heap.size w w'
end Go.Proofs.Ytddiclnkfhldlaa
