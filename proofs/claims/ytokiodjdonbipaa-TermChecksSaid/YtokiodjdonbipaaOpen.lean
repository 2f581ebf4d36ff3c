/-
  A term that comes in, opened: it lies in memory as a tree.
  Conditions: it reads as data.
-/
import Derived.Test.YtokiodjdonbipaaTrS
import Derived.Deep.Strs
import Derived.ChangeSame
import Derived.ProofKit
import Derived.OpenShut
namespace Go.Proofs.Ytokiodjdonbipaa
open Go.RowKit Go.ChangeShapes Go.WideShapes Go.ChangeAt
set_option linter.unusedVariables false
theorem add_at' (g k j : Nat) : (⟨g, k, none⟩ : Addr).add j = ⟨g, k + j, none⟩ := by
  unfold Addr.add
  split
  · rename_i h; subst h; rfl
  · rfl
section
variable {H : Type} {enc : TypeId × Value → H} {w : World} {base : Nat} {spare : Nat → Bool} {held : Bool}
theorem open_term : ∀ (fuel : Nat) (cs : List Value) (x : DataW H × List MemPlace), DataW.trod enc Try.prog w base spare held fuel 24 cs = some x →
    ∃ t A c, cs = [.int .i64 t.op, .int .i64 t.val, .slice A t.args.length c] ∧ Tr w t A c := by
  intro fuel
  induction fuel using Nat.strongRecOn with
  | _ fuel ih =>
  intro cs x h
  obtain ⟨xs, n, hfu, hx, hl, hlen, hf⟩ := DataW.trod_struct Try.underlying24 h
  have hC : Try.prog.cellsOf 24 = 3 := by kernel_rfl
  have hC1 : Try.prog.cellsOf 3 = 1 := by kernel_rfl
  have hC2 : Try.prog.cellsOf 22 = 1 := by kernel_rfl
  rw [hC] at hl
  match cs, hl with
  | [a, b, s], _ =>
  match xs, hlen with
  | [y0, y1, y2], _ =>
  have h0 : DataW.trod enc Try.prog w base spare held n 3 (([a, b, s].drop 0).take (Try.prog.cellsOf 3)) = some y0 := hf 0 _ rfl
  have h1 : DataW.trod enc Try.prog w base spare held n 3 (([a, b, s].drop 1).take (Try.prog.cellsOf 3)) = some y1 := hf 1 _ rfl
  have h2 : DataW.trod enc Try.prog w base spare held n 22 (([a, b, s].drop 2).take (Try.prog.cellsOf 22)) = some y2 := hf 2 _ rfl
  rw [hC1] at h0 h1
  rw [hC2] at h2
  obtain ⟨o, ho, _, ho2⟩ := DataW.trod_int Try.underlying3 h0
  obtain ⟨v, hv, _, hv2⟩ := DataW.trod_int Try.underlying3 h1
  have e0 : a = .int .i64 o := by simpa using ho
  have e1 : b = .int .i64 v := by simpa using hv
  subst e0; subst e1
  have bo : fits o := bounds_i64 ho2
  have bv : fits v := bounds_i64 hv2
  have h2' : DataW.trod enc Try.prog w base spare held n 22 [s] = some y2 := by simpa using h2
  rcases DataW.trod_slice Try.underlying22 h2' with ⟨hs, _⟩ | ⟨ad, len, cap, elems, rest, m, hm, hs, _, hb, hle, hcap, hel, hi, _⟩
  · have e2 : s = .slice none 0 0 := by simpa using hs
    subst e2
    exact ⟨.mk o v [], none, 0, rfl, Tr.leaf w o v none 0 bo bv (Nat.zero_le _)⟩
  · have e2 : s = .slice (some ad) len cap := by simpa using hs
    subst e2
    have hel' : ∀ i, i < len → ∃ t A c, Tr w t A c ∧ w.cell? (ad.add (i * 3)) = some (.int .i64 t.op) ∧ w.cell? ((ad.add (i * 3)).add 1) = some (.int .i64 t.val) ∧ w.cell? ((ad.add (i * 3)).add 2) = some (.slice A t.args.length c) := by
      intro i hlt
      have h3 := hi i hlt
      rw [hC] at h3
      have h4 : elems[i]? = some (elems[i]'(by omega)) := List.getElem?_eq_getElem _
      rw [h4] at h3
      cases h5 : w.cells? base (ad.add (i * 3)) 3 with
      | none => rw [h5] at h3; cases h3
      | some cs' =>
        rw [h5] at h3
        obtain ⟨t, A, c, hcs, ht⟩ := ih m (by omega) cs' _ h3
        obtain ⟨_, _, hcell⟩ := World.cells?_some h5
        subst hcs
        refine ⟨t, A, c, ht, ?_, hcell 1 (by omega), hcell 2 (by omega)⟩
        have := hcell 0 (by omega)
        simpa [Addr.add] using this
    have key : ∀ k, k ≤ len → ∃ l : List Tm, ∃ (AA : Nat → Option Addr) (CC : Nat → Nat), l.length = k ∧ ∀ (i : Nat) (hk : i < l.length), Tr w l[i] (AA i) (CC i) ∧ w.cell? (ad.add (i * 3)) = some (.int .i64 (l[i]).op) ∧ w.cell? ((ad.add (i * 3)).add 1) = some (.int .i64 (l[i]).val) ∧ w.cell? ((ad.add (i * 3)).add 2) = some (.slice (AA i) (l[i]).args.length (CC i)) := by
      intro k
      induction k with
      | zero => exact fun _ => ⟨[], fun _ => none, fun _ => 0, rfl, fun i hi => absurd hi (by simp)⟩
      | succ k ihk =>
        intro hk
        obtain ⟨l, AA, CC, hl, hh⟩ := ihk (by omega)
        obtain ⟨t, A, c, ht, g0, g1, g2⟩ := hel' k (by omega)
        refine ⟨l ++ [t], fun i => if i = k then A else AA i, fun i => if i = k then c else CC i, by simp [hl], fun i hik => ?_⟩
        simp at hik
        by_cases hie : i < k
        · obtain ⟨q0, q1, q2, q3⟩ := hh i (by omega)
          have e : (l ++ [t])[i]'(by simp; omega) = l[i]'(by omega) := List.getElem_append_left _
          simp only [e, if_neg (show ¬ i = k by omega)]
          exact ⟨q0, q1, q2, q3⟩
        · obtain rfl : i = k := by omega
          have e : (l ++ [t])[i]'(by simp; omega) = t := by
            rw [List.getElem_append_right (by omega)]
            simp [hl]
          simp only [e, if_true]
          exact ⟨ht, g0, g1, g2⟩
    obtain ⟨l, AA, CC, hll, hh⟩ := key len (Nat.le_refl _)
    refine ⟨.mk o v l, some ad, cap, by simp [hll], .mk AA CC bo bv (by omega) hcap (fun i hi => ?_) (fun i hi => (hh i hi).1)⟩
    obtain ⟨_, q1, q2, q3⟩ := hh i hi
    have hsp : ad.spot = none := by
      obtain ⟨_, z1, _, _⟩ := hh 0 (by omega)
      unfold World.cell? at z1
      simp only [Nat.zero_mul, Addr.add, if_true] at z1
      split at z1
      · split at z1
        · cases z1
        · rename_i hns
          simpa using hns
      · cases z1
    obtain ⟨g, k, sp⟩ := ad
    simp only at hsp
    subst hsp
    rw [add_at'] at q1
    rw [add_at', add_at'] at q2 q3
    exact ⟨g, k, rfl, q1, q2, q3⟩
end
end Go.Proofs.Ytokiodjdonbipaa
