/-
  A window that lies in a variable of a law: what becomes of it at a call, and what Accept, Check and Missed answer of it, in the words of its bits alone.
  Conditions: a window of 1 to 1024 numbers.
-/
import Derived.Test.YtbepkfdfabgigaaWinE
namespace Go.Proofs.Ytbepkfdfabgigaa
open Go.RowKit
set_option linter.unusedVariables false
theorem Cod.put {w : World} {gc n p b : Nat} {u0 : Value} (h : Cod w gc n p) (hb : b ≠ gc) (hu : w.cell? ⟨b, 0, none⟩ = some u0) (hx : ∀ x, u0 ≠ .int .u8 x) (i : Nat) (u : Value) : Cod (w.setCell ⟨b, i, none⟩ u) gc n p := by
  obtain ⟨h1, h2, A, cap, h3, hcap, h4⟩ := h
  refine ⟨h1, h2, A, cap, h3.far (p := ⟨b, i, none⟩) (Ne.symm hb) u, hcap, fun k hk => ?_⟩
  obtain ⟨ga, x, e, hne, hxx, hc⟩ := h4 k hk
  obtain ⟨ga', x', e', _, _, hc'⟩ := h4 0 (by omega)
  rw [e] at e'
  injection e' with e'
  injection e' with e'
  subst e'
  have hgb : ga ≠ b := by
    rintro rfl
    rw [hc'] at hu
    injection hu with hu
    exact hx _ hu.symm
  exact ⟨ga, x, e, hne, hxx, (World.cell?_setCell_other w ⟨b, i, none⟩ ⟨ga, k, none⟩ u (by simp)).trans hc⟩
theorem chk_congr {S T n m : Nat} {B B' : Nat → Bool} (h : ∀ k, k < 64 * n → B k = B' k) (hn : S ≤ 64 * n) : chk S T B m = chk S T B' m := by
  unfold chk
  split
  · rfl
  · split
    · rfl
    · split
      · rfl
      · rw [h (T - m) (by omega)]
theorem accT_congr {S T n m : Nat} {B B' : Nat → Bool} (h : ∀ k, k < 64 * n → B k = B' k) (hn : S ≤ 64 * n) : accT S T B m = accT S T B' m := by
  unfold accT; rw [chk_congr h hn]
theorem accB_congr {S T n m k : Nat} {B B' : Nat → Bool} (h : ∀ k, k < 64 * n → B k = B' k) (hn : S ≤ 64 * n) (hk : k < 64 * n) : accB S T B m k = accB S T B' m k := by
  unfold accB
  rw [chk_congr h hn, h k hk]
  split
  · by_cases hS : k < S
    · rw [h (k - (max T m - T)) (by omega)]
    · simp [hS]
  · rfl
theorem accB_hi {S T m k : Nat} {B : Nat → Bool} (h : ∀ k, S ≤ k → B k = false) (hk : S ≤ k) : accB S T B m k = false := by
  unfold accB
  split
  · have : ¬ k < S := by omega
    simp [this]
  · exact h k hk
theorem accT_le (S T m : Nat) (B : Nat → Bool) : T ≤ accT S T B m ∧ accT S T B m ≤ max T m := by
  unfold accT; split <;> omega
theorem cnt0_congr {B B' : Nat → Bool} {k : Nat} (h : ∀ j, j < k → B j = B' j) : cnt0 B k = cnt0 B' k := by
  induction k with
  | zero => rfl
  | succ k ih => simp only [cnt0]; rw [ih (fun j hj => h j (by omega)), h k (by omega)]
/-- The words of a window of S numbers whose bits are B. -/
def WRow (w : World) (g n S : Nat) (B : Nat → Bool) : Prop :=
  ∃ W : Nat → Nat, n = (S + 63) / 64 ∧ Row w g n (fun i => .int .u64 (W i : Nat)) ∧ (∀ i, W i < 18446744073709551616) ∧ (∀ k, k < 64 * n → bitW W k = B k) ∧ (∀ k, S ≤ k → B k = false)
section
variable {w w' : World} {g n S : Nat} {B : Nat → Bool}
theorem WRow.lt (h : WRow w g n S B) (hS : 1 ≤ S) : g < w.heap.size := by obtain ⟨W, hn, hr, _⟩ := h; exact hr.lt (by omega)
theorem WRow.cell (h : WRow w g n S B) (hS : 1 ≤ S) : ∃ x : Nat, w.cell? ⟨g, 0, none⟩ = some (.int .u64 x) := by obtain ⟨W, hn, hr, _⟩ := h; exact ⟨_, hr 0 (by omega)⟩
theorem WRow.below (h : WRow w g n S B) (hb : Below w.heap.size w w') : WRow w' g n S B := by obtain ⟨W, hn, hr, h⟩ := h; exact ⟨W, hn, hr.below' hb, h⟩
theorem WRow.alloc (h : WRow w g n S B) (o : Obj) : WRow (w.alloc o) g n S B := by obtain ⟨W, hn, hr, h⟩ := h; exact ⟨W, hn, hr.alloc o, h⟩
theorem WRow.drewN (h : WRow w g n S B) (d : Nat) : WRow (w.drewN d) g n S B := by obtain ⟨W, hn, hr, h⟩ := h; exact ⟨W, hn, hr.drewN d, h⟩
theorem WRow.only {gc q p : Nat} (h : WRow w g n S B) (hS : 1 ≤ S) (hc : Cod w gc q p) (ho : w.grownBy w' (some gc)) : WRow w' g n S B := by
  obtain ⟨x, hx⟩ := h.cell hS
  have hne : g ≠ gc := hc.ne hx (by intro _ _ _ h; cases h)
  obtain ⟨W, hn, hr, h⟩ := h; exact ⟨W, hn, hr.grown ho (by simp [hne]), h⟩
theorem WRow.far (h : WRow w g n S B) {b : Nat} (hb : g ≠ b) (i : Nat) (u : Value) : WRow (w.setCell ⟨b, i, none⟩ u) g n S B := by
  obtain ⟨W, hn, hr, h⟩ := h
  exact ⟨W, hn, fun k hk => (World.cell?_setCell_other w ⟨b, i, none⟩ ⟨g, k, none⟩ u (by simp)).trans (hr k hk), h⟩
end
theorem wrow_new {w : World} {g S : Nat} (h : Row w g ((S + 63) / 64) (fun _ => .int .u64 (0 : Nat))) : WRow w g ((S + 63) / 64) S (fun _ => false) :=
  ⟨fun _ => 0, rfl, h, fun _ => by show 0 < 18446744073709551616; omega, fun k _ => by simp [bitW], fun _ _ => rfl⟩
theorem wcheck (S T g n c : Nat) (B : Nat → Bool) (m : Nat) (w : World) (hS : 1 ≤ S) (hS1 : S ≤ 1024) (hT : T < 18446744073709551616) (hm : m < 18446744073709551616) (h : WRow w g n S B) :
    Calls Try.prog 23 #[.agg #[.int .i64 (S : Nat), .int .u64 (T : Nat), .slice (some ⟨g, 0, none⟩) n c], .int .u64 (m : Nat)] w fun e w' => e = .returned (.int .i64 (chk S T B m : Nat)) ∧ Below w.heap.size w w' := by
  obtain ⟨W, hn, hr, hW, hB, hhi⟩ := h
  rw [← chk_congr hB (by omega)]
  exact check_any S T g n c W m w hS hS1 (by omega) (by omega) hT hm hr hW
theorem wrcheck (S T g n c : Nat) (B : Nat → Bool) (m : Nat) (w : World) (hS : 1 ≤ S) (hS1 : S ≤ 1024) (hT : T < 18446744073709551616) (hm : m < 18446744073709551616) (h : WRow w g n S B) :
    Calls Try.prog 24 #[.agg #[.int .i64 (S : Nat), .int .u64 (T : Nat), .slice (some ⟨g, 0, none⟩) n c], .int .u64 (m : Nat)] w fun e w' => e = .returned (.int .i64 (chk S T B m : Nat)) ∧ Below w.heap.size w w' := by
  obtain ⟨W, hn, hr, hW, hB, hhi⟩ := h
  rw [← chk_congr hB (by omega)]
  exact rcheck_any S T g n c W m w hS hS1 (by omega) (by omega) hT hm hr hW
theorem wmissed (S T g n c : Nat) (B : Nat → Bool) (w : World) (hS : 1 ≤ S) (hS1 : S ≤ 1024) (hT : T < 18446744073709551616) (h : WRow w g n S B) :
    Calls Try.prog 25 #[.agg #[.int .i64 (S : Nat), .int .u64 (T : Nat), .slice (some ⟨g, 0, none⟩) n c]] w fun e w' => e = .returned (.int .i64 (cnt0 B (min S T) : Nat)) ∧ Below w.heap.size w w' := by
  obtain ⟨W, hn, hr, hW, hB, hhi⟩ := h
  rw [← cnt0_congr (fun j hj => hB j (by omega))]
  exact missed_any S T g n c W w hS hS1 (by omega) (by omega) hT hr hW
theorem wrmissed (S T g n c : Nat) (B : Nat → Bool) (w : World) (hS : 1 ≤ S) (hS1 : S ≤ 1024) (hT : T < 18446744073709551616) (h : WRow w g n S B) :
    Calls Try.prog 26 #[.agg #[.int .i64 (S : Nat), .int .u64 (T : Nat), .slice (some ⟨g, 0, none⟩) n c]] w fun e w' => e = .returned (.int .i64 (cnt0 B (min S T) : Nat)) ∧ Below w.heap.size w w' := by
  obtain ⟨W, hn, hr, hW, hB, hhi⟩ := h
  rw [← cnt0_congr (fun j hj => hB j (by omega))]
  exact rmissed_any S T g n c W w hS hS1 (by omega) (by omega) hT hr hW
def WAcc (w : World) (S T n : Nat) (B : Nat → Bool) (m : Nat) (e : Ending) (w' : World) : Prop :=
  ∃ g c : Nat, e = .returned (.tuple #[.agg #[.int .i64 (S : Nat), .int .u64 (accT S T B m : Nat), .slice (some ⟨g, 0, none⟩) n c], .int .i64 (chk S T B m : Nat)]) ∧ w.heap.size ≤ g ∧ WRow w' g n S (accB S T B m) ∧ Below w.heap.size w w'
theorem waccept (S T g n c : Nat) (B : Nat → Bool) (m : Nat) (w : World) (hS : 1 ≤ S) (hS1 : S ≤ 1024) (hT : T < 18446744073709551616) (hm : m < 18446744073709551616) (h : WRow w g n S B) :
    Calls Try.prog 22 #[.agg #[.int .i64 (S : Nat), .int .u64 (T : Nat), .slice (some ⟨g, 0, none⟩) n c], .int .u64 (m : Nat)] w (WAcc w S T n B m) := by
  obtain ⟨W, hn, hr, hW, hB, hhi⟩ := h
  refine (accept_any S T g n c W m w hS hS1 hn hT hm hr hW (fun k h1 h2 => by rw [hB k h2]; exact hhi k h1)).mono ?_
  rintro e w' ⟨g', c', W', rfl, hg', hr', hW', hB', hb⟩
  refine ⟨g', c', by rw [accT_congr hB (by omega), chk_congr hB (by omega)], hg', ⟨W', hn, hr', hW', fun k hk => ?_, fun k hk => accB_hi hhi hk⟩, hb⟩
  rw [hB' k hk, accB_congr hB (by omega) hk]
def WRAcc (w : World) (S T n : Nat) (B : Nat → Bool) (m : Nat) (e : Ending) (w' : World) : Prop :=
  ∃ g c : Nat, e = .returned (.tuple #[.agg #[.int .i64 (S : Nat), .int .u64 (accT S T B m : Nat), .slice (some ⟨g, 0, none⟩) n c], .int .i64 (chk S T B m : Nat)]) ∧ WRow w' g n S (accB S T B m) ∧ Below w.heap.size w w'
theorem wraccept (S T g n c : Nat) (B : Nat → Bool) (m : Nat) (w : World) (hS : 1 ≤ S) (hS1 : S ≤ 1024) (hT : T < 9223372036854775808) (hm : m < 9223372036854775808) (h : WRow w g n S B) :
    Calls Try.prog 21 #[.agg #[.int .i64 (S : Nat), .int .u64 (T : Nat), .slice (some ⟨g, 0, none⟩) n c], .int .u64 (m : Nat)] w (WRAcc w S T n B m) := by
  obtain ⟨W, hn, hr, hW, hB, hhi⟩ := h
  refine (raccept_any S T g n c W m w hS hS1 hn hT hm hr hW (fun k h1 h2 => by rw [hB k h2]; exact hhi k h1)).mono ?_
  rintro e w' ⟨g', c', W', rfl, hr', hW', hB', hb⟩
  refine ⟨g', c', by rw [accT_congr hB (by omega), chk_congr hB (by omega)], ⟨W', hn, hr', hW', fun k hk => ?_, fun k hk => accB_hi hhi hk⟩, hb⟩
  rw [hB' k hk, accB_congr hB (by omega) hk]
theorem wrow_inj {w : World} {g g' n n' S : Nat} {B : Nat → Bool} (h : WRow w g n S B) (h' : WRow w g' n' S B) : n = n' ∧ ∃ W : Nat → Nat, Row w g n (fun i => .int .u64 (W i : Nat)) ∧ Row w g' n (fun i => .int .u64 (W i : Nat)) := by
  obtain ⟨W, hn, hr, hW, hB, hhi⟩ := h
  obtain ⟨W', hn', hr', hW', hB', hhi'⟩ := h'
  have e : n = n' := by omega
  subst e
  refine ⟨rfl, W, hr, fun i hi => ?_⟩
  have : W i = W' i := by
    apply Nat.eq_of_testBit_eq
    intro r
    by_cases h64 : r < 64
    · have h1 := hB (64 * i + r) (by omega)
      have h2 := hB' (64 * i + r) (by omega)
      unfold bitW at h1 h2
      have e1 : (64 * i + r) / 64 = i := by omega
      have e2 : (64 * i + r) % 64 = r := by omega
      rw [e1, e2] at h1 h2
      rw [h1, h2]
    · rw [lt_bit (hW i) (by omega), lt_bit (hW' i) (by omega)]
  have h2 : w.cell? ⟨g', i, none⟩ = some (.int .u64 (W' i : Nat)) := hr' i hi
  rw [← this] at h2
  exact h2
theorem wsame (S T g n c g' c' : Nat) (B : Nat → Bool) (w : World) (hS : 1 ≤ S) (hS1 : S ≤ 1024) (h : WRow w g n S B) (h' : WRow w g' n S B) :
    Calls Try.prog 17 #[.agg #[.int .i64 (S : Nat), .int .u64 (T : Nat), .slice (some ⟨g, 0, none⟩) n c], .agg #[.int .i64 (S : Nat), .int .u64 (T : Nat), .slice (some ⟨g', 0, none⟩) n c']] w fun e w' => e = .returned (.bool true) ∧ Below w.heap.size w w' := by
  obtain ⟨_, W, hr, hr'⟩ := wrow_inj h h'
  have hn : n = (S + 63) / 64 := by obtain ⟨_, hn, _⟩ := h; exact hn
  exact same_any S T g n c g' c' W w (by omega) (by omega) hr hr'
/-- A window in the variable ba. -/
def WBox (w : World) (ba S T : Nat) (B : Nat → Bool) : Prop :=
  ∃ g n c : Nat, Blk w ba 30 #[.int .i64 (S : Nat), .int .u64 (T : Nat), .slice (some ⟨g, 0, none⟩) n c] ∧ WRow w g n S B
section
variable {w w' : World} {ba S T : Nat} {B : Nat → Bool}
theorem WBox.lt (h : WBox w ba S T B) : ba < w.heap.size := by obtain ⟨g, n, c, hk, _⟩ := h; exact hk.lt
theorem WBox.below (h : WBox w ba S T B) (hb : Below w.heap.size w w') : WBox w' ba S T B := by
  obtain ⟨g, n, c, hk, hr⟩ := h; exact ⟨g, n, c, hk.below hb hk.lt, hr.below hb⟩
theorem WBox.alloc (h : WBox w ba S T B) (o : Obj) : WBox (w.alloc o) ba S T B := by
  obtain ⟨g, n, c, hk, hr⟩ := h; exact ⟨g, n, c, hk.alloc o, hr.alloc o⟩
theorem WBox.drewN (h : WBox w ba S T B) (d : Nat) : WBox (w.drewN d) ba S T B := by
  obtain ⟨g, n, c, hk, hr⟩ := h; exact ⟨g, n, c, hk.drewN d, hr.drewN d⟩
theorem WBox.only {gc q p : Nat} (h : WBox w ba S T B) (hS : 1 ≤ S) (hc : Cod w gc q p) (ho : w.grownBy w' (some gc)) : WBox w' ba S T B := by
  obtain ⟨g, n, c, hk, hr⟩ := h
  have hne : ba ≠ gc := hc.ne (hk.cell 0) (by intro _ _ _ h; cases h)
  exact ⟨g, n, c, hk.grown ho (by simp [hne]), hr.only hS hc ho⟩
theorem WBox.ne {gc q p : Nat} (h : WBox w ba S T B) (hc : Cod w gc q p) : ba ≠ gc := by
  obtain ⟨g, n, c, hk, hr⟩ := h
  exact hc.ne (hk.cell 0) (by intro _ _ _ h; cases h)
/-- A new window stored into the variable. -/
theorem WBox.store {S' T' g' n' c' : Nat} {B' : Nat → Bool} {v0 v1 v2 : Value} (h : Blk w ba 30 #[v0, v1, v2]) (hr : WRow w g' n' S' B') (hne : g' ≠ ba) :
    WBox (((w.setCell ⟨ba, 0, none⟩ (.int .i64 (S' : Nat))).setCell ⟨ba, 1, none⟩ (.int .u64 (T' : Nat))).setCell ⟨ba, 2, none⟩ (.slice (some ⟨g', 0, none⟩) n' c')) ba S' T' B' :=
  ⟨g', n', c', ((h.put 0 _).put 1 _).put 2 _, ((hr.far hne 0 _).far hne 1 _).far hne 2 _⟩
/-- Another variable's window is as it was. -/
theorem WBox.far (h : WBox w ba S T B) (hS : 1 ≤ S) {b : Nat} {v : Array Value} (hb : Blk w b 30 v) (hv : ∀ x, v[0]? ≠ some (.int .u64 x)) (hne : ba ≠ b) (i : Nat) (u : Value) : WBox (w.setCell ⟨b, i, none⟩ u) ba S T B := by
  obtain ⟨g, n, c, hk, hr⟩ := h
  have hg : g ≠ b := by
    rintro rfl
    obtain ⟨W, hn, hrr, _⟩ := hr
    exact hv _ ((hb.cell 0).symm.trans (hrr 0 (by omega)))
  exact ⟨g, n, c, hk.far (p := ⟨b, i, none⟩) hne u, hr.far hg i u⟩
theorem Cod.store {gc q p : Nat} {v0 v1 v2 u0 u1 u2 : Value} (hc : Cod w gc q p) (hb : Blk w ba 30 #[v0, v1, v2]) (hx : ∀ x, v0 ≠ .int .u8 x) (hx' : ∀ x, u0 ≠ .int .u8 x) (hne : ba ≠ gc) :
    Cod (((w.setCell ⟨ba, 0, none⟩ u0).setCell ⟨ba, 1, none⟩ u1).setCell ⟨ba, 2, none⟩ u2) gc q p := by
  have h0 := hc.put hne (hb.cell 0) hx 0 u0
  have h1 := h0.put hne ((hb.put 0 u0).cell 0) (by simpa using hx') 1 u1
  exact h1.put hne (((hb.put 0 u0).put 1 u1).cell 0) (by simpa using hx') 2 u2
end
end Go.Proofs.Ytbepkfdfabgigaa
