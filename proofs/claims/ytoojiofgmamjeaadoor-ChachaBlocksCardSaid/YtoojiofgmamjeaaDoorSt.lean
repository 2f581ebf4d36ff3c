/-
  The state of a block and the bytes of a list, as plain data and in memory; the contracts of the two functions that read a word.
  Conditions: none.
-/
import Derived.Test.YtoojiofgmamjeaaDoorQuartB
import Derived.Test.YtoojiofgmamjeaaDoorMem
import Derived.OwnWalk
import Derived.Laws.AppendOwn
import Derived.LoopTactic
import Derived.IntWalk
namespace Go.Proofs.YtoojiofgmamjeaaDoor
open Go.RowKit
set_option linter.unusedVariables false
/-- Sixteen words. -/
def St := Nat → BitVec 32
def upd (s : St) (i : Nat) (v : BitVec 32) : St := fun j => if j = i then v else s j
def u32v (x : BitVec 32) : Value := .int .u32 (x.toNat : Nat)
def u8v (x : BitVec 8) : Value := .int .u8 (x.toNat : Nat)
def stA (s : St) : Array Value := Array.ofFn (n := 16) fun i => u32v (s i)
theorem stA_size (s : St) : (stA s).size = 16 := by unfold stA; simp
theorem stA_get (s : St) (k : Nat) (h : k < 16) : (stA s)[k]? = some (u32v (s k)) := by
  unfold stA
  rw [Array.getElem?_ofFn, dif_pos h]
theorem stA_set (s : St) (i : Nat) (h : i < 16) (v : BitVec 32) : (stA s).setIfInBounds i (u32v v) = stA (upd s i v) := by
  apply Array.ext_getElem?
  intro k
  rw [Array.getElem?_setIfInBounds]
  by_cases hk : k < 16
  · rw [stA_get _ k hk, stA_get _ k hk]
    by_cases e : i = k
    · subst e
      rw [if_pos rfl, if_pos (by rw [stA_size]; exact h)]
      unfold upd
      rw [if_pos rfl]
    · rw [if_neg e]
      unfold upd
      rw [if_neg (fun h => e h.symm)]
  · have e1 : (stA s)[k]? = none := by rw [Array.getElem?_eq_none_iff, stA_size]; omega
    have e2 : (stA (upd s i v))[k]? = none := by rw [Array.getElem?_eq_none_iff, stA_size]; omega
    rw [e1, e2, if_neg (by omega)]
theorem stA_ext {s t : St} (h : ∀ k, k < 16 → s k = t k) : stA s = stA t := by
  apply Array.ext_getElem?
  intro k
  by_cases hk : k < 16
  · rw [stA_get _ k hk, stA_get _ k hk, h k hk]
  · rw [Array.getElem?_eq_none (by rw [stA_size]; omega), Array.getElem?_eq_none (by rw [stA_size]; omega)]
/-- A byte as a word. -/
def z8 (b : BitVec 8) : BitVec 32 := b.setWidth 32
theorem z8_nat (b : BitVec 8) : (b.toNat : Int) = ((z8 b).toNat : Int) := by
  have := b.isLt
  unfold z8
  rw [BitVec.toNat_setWidth, Nat.mod_eq_of_lt (by omega)]
/-- Word i of bytes. -/
def wd (f : Nat → BitVec 8) (i : Nat) : BitVec 32 := oo (oo (oo (z8 (f (4 * i))) (sl (z8 (f (4 * i + 1))) 8)) (sl (z8 (f (4 * i + 2))) 16)) (sl (z8 (f (4 * i + 3))) 24)
/-- The bytes of a list, in memory. -/
def Byf (w : World) (A : Option Addr) (n : Nat) (f : Nat → BitVec 8) : Prop := ∀ k, k < n → ∃ g o, A = some ⟨g, o, none⟩ ∧ w.cell? ⟨g, o + k, none⟩ = some (u8v (f k))
section
variable {w w' : World} {A : Option Addr} {n : Nat} {f : Nat → BitVec 8}
theorem Byf.keep (h : Byf w A n f) (hb : ∀ k, k < w.heap.size → w'.heap[k]? = w.heap[k]?) : Byf w' A n f := by
  intro k hk
  obtain ⟨g, o, e, hc⟩ := h k hk
  exact ⟨g, o, e, (World.cell?_of_block (a := ⟨g, o + k, none⟩) (hb g (World.block_lt_of_cell? w ⟨g, o + k, none⟩ hc))).trans hc⟩
theorem Byf.bel (h : Byf w A n f) (hb : Below w.heap.size w w') : Byf w' A n f := h.keep hb.block
theorem Byf.alloc (h : Byf w A n f) (o : Obj) : Byf (w.alloc o) A n f := h.keep fun k hk => Below.heap_alloc w o k hk
theorem Byf.drewN (h : Byf w A n f) (d : Nat) : Byf (w.drewN d) A n f := h
end
theorem sh8 (b : BitVec 8) : (b.toNat : Int) * 256 = ((sl (z8 b) 8).toNat : Int) := by
  have h := w_shl (z8 b) 8
  have := b.isLt
  rw [← z8_nat] at h
  unfold sl
  rw [← h]; omega
theorem sh16 (b : BitVec 8) : (b.toNat : Int) * 65536 = ((sl (z8 b) 16).toNat : Int) := by
  have h := w_shl (z8 b) 16
  have := b.isLt
  rw [← z8_nat] at h
  unfold sl
  rw [← h]; omega
theorem sh24 (b : BitVec 8) : (b.toNat : Int) * 16777216 = ((sl (z8 b) 24).toNat : Int) := by
  have h := w_shl (z8 b) 24
  have := b.isLt
  rw [← z8_nat] at h
  unfold sl
  rw [← h]; omega
theorem wd_of (f : Nat → BitVec 8) (i : Nat) {b0 b1 b2 b3 : BitVec 8} (h0 : f (4 * i) = b0) (h1 : f (4 * i + 1) = b1) (h2 : f (4 * i + 2) = b2) (h3 : f (4 * i + 3) = b3) :
    bits .or .u32 (bits .or .u32 (bits .or .u32 (b0.toNat : Int) ((b1.toNat : Int) * 256)) ((b2.toNat : Int) * 65536)) ((b3.toNat : Int) * 16777216) = ((wd f i).toNat : Int) := by
  unfold wd
  rw [h0, h1, h2, h3, z8_nat b0, sh8, sh16, sh24, w_oo, w_oo, w_oo]
theorem Byf.at {w : World} {g o n : Nat} {f : Nat → BitVec 8} (h : Byf w (some ⟨g, o, none⟩) n f) (k : Nat) (hk : k < n) : w.cell? ⟨g, o + k, none⟩ = some (.int .u8 ((f k).toNat : Nat)) := by
  obtain ⟨g', o', e, hc⟩ := h k hk
  injection e with e
  injection e with e1 e2
  subst e1; subst e2
  exact hc
theorem Byf.off {w : World} {g o n : Nat} {f : Nat → BitVec 8} (h : Byf w (some ⟨g, o, none⟩) n f) (j m : Nat) (hj : j + m ≤ n) : Byf w (some ⟨g, o + j, none⟩) m (fun k => f (j + k)) := by
  intro k hk
  have := h.at (j + k) (by omega)
  exact ⟨g, o + j, rfl, by rw [Nat.add_assoc]; exact this⟩
theorem wd_off (f : Nat → BitVec 8) (k : Nat) : wd (fun j => f (4 * k + j)) 0 = wd f k := by
  unfold wd
  simp only [Nat.mul_zero, Nat.zero_add, Nat.add_zero]
theorem word_any (g o n cap : Nat) (f : Nat → BitVec 8) (w : World) (h : Byf w (some ⟨g, o, none⟩) 4 f) (hn : 4 ≤ n) (hm : n ≤ maxLen) :
    Calls Tryd.prog 22 #[.slice (some ⟨g, o, none⟩) n cap] w fun e w' => e = .returned (.int .u32 ((wd f 0).toNat : Nat)) ∧ ∃ d, w' = w.drewN d := by
  unfold maxLen at hm
  have c0 := h.at 0 (by omega)
  have c1 := h.at 1 (by omega)
  have c2 := h.at 2 (by omega)
  have c3 := h.at 3 (by omega)
  rw [Nat.add_zero] at c0
  have hw := wd_of f 0 (b0 := f 0) (b1 := f 1) (b2 := f 2) (b3 := f 3) rfl rfl rfl rfl
  have HW := Lib.hid hw
  clear hw
  generalize f 0 = b0 at *
  generalize f 1 = b1 at *
  generalize f 2 = b2 at *
  generalize f 3 = b3 at *
  have hl0 := b0.isLt
  have hl1 := b1.isLt
  have hl2 := b2.isLt
  have hl3 := b3.isLt
  have q0 : decide ((0 : Nat) < n) = true := by simp; omega
  have q1 : decide ((1 : Nat) < n) = true := by simp; omega
  have q2 : decide ((2 : Nat) < n) = true := by simp; omega
  have q3 : decide ((3 : Nat) < n) = true := by simp; omega
  clear h
  go_enter Tryd.func22, Tryd.ntmps22
  go_wp2_with fail
  go_quiet (fail)
  go_wp2_with fail
  go_ret
  exact ⟨ret_int HW.out, _, rfl⟩
theorem rword_any (g o n cap i : Nat) (f : Nat → BitVec 8) (w : World) (h : Byf w (some ⟨g, o, none⟩) n f) (hi : i ≤ 7) (hn : 4 * i + 3 < n) (hm : n ≤ maxLen) :
    Calls Tryd.prog 17 #[.slice (some ⟨g, o, none⟩) n cap, .int .i64 (i : Nat)] w fun e w' => e = .returned (.int .u32 ((wd f i).toNat : Nat)) ∧ ∃ d, w' = w.drewN d := by
  unfold maxLen at hm
  have c0 := h.at (4 * i) (by omega)
  have c1 := h.at (4 * i + 1) (by omega)
  have c2 := h.at (4 * i + 2) (by omega)
  have c3 := h.at (4 * i + 3) (by omega)
  have hw := wd_of f i (b0 := f (4 * i)) (b1 := f (4 * i + 1)) (b2 := f (4 * i + 2)) (b3 := f (4 * i + 3)) rfl rfl rfl rfl
  have HW := Lib.hid hw
  clear hw
  generalize f (4 * i) = b0 at *
  generalize f (4 * i + 1) = b1 at *
  generalize f (4 * i + 2) = b2 at *
  generalize f (4 * i + 3) = b3 at *
  have hl0 := b0.isLt
  have hl1 := b1.isLt
  have hl2 := b2.isLt
  have hl3 := b3.isLt
  have p0 : IntKind.i64.wrap (4 * (i : Int)) = 4 * (i : Int) := IntWalk.i64_in _ (by omega)
  have p1 : IntKind.i64.wrap (4 * (i : Int) + 1) = 4 * (i : Int) + 1 := IntWalk.i64_in _ (by omega)
  have p2 : IntKind.i64.wrap (4 * (i : Int) + 2) = 4 * (i : Int) + 2 := IntWalk.i64_in _ (by omega)
  have p3 : IntKind.i64.wrap (4 * (i : Int) + 3) = 4 * (i : Int) + 3 := IntWalk.i64_in _ (by omega)
  have t0 : (4 * (i : Int)).toNat = 4 * i := by omega
  have t1 : (4 * (i : Int) + 1).toNat = 4 * i + 1 := by omega
  have t2 : (4 * (i : Int) + 2).toNat = 4 * i + 2 := by omega
  have t3 : (4 * (i : Int) + 3).toNat = 4 * i + 3 := by omega
  have u0 : (0 : Int) ≤ 4 * (i : Int) := by omega
  have u1 : (0 : Int) ≤ 4 * (i : Int) + 1 := by omega
  have u2 : (0 : Int) ≤ 4 * (i : Int) + 2 := by omega
  have u3 : (0 : Int) ≤ 4 * (i : Int) + 3 := by omega
  have q0 : 4 * (i : Int) < (n : Int) := by omega
  have q1 : 4 * (i : Int) + 1 < (n : Int) := by omega
  have q2 : 4 * (i : Int) + 2 < (n : Int) := by omega
  have q3 : 4 * (i : Int) + 3 < (n : Int) := by omega
  clear h hn
  go_enter Tryd.func17, Tryd.ntmps17
  go_wp2_with fail
  go_quiet (fail)
  go_wp2_with fail
  go_ret
  exact ⟨ret_int HW.out, _, rfl⟩
end Go.Proofs.YtoojiofgmamjeaaDoor
